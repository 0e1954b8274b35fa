/- Our library, part 11: regions in the text's order, and code, are sound. -/
import Derived.Test.YtmmboiafelbgbaaAvA
set_option linter.unusedSimpArgs false
set_option linter.unusedVariables false
namespace Go.Av
open Go

/-! ### monotony -/
theorem ACallP.mono {P : Program} {f : FuncId} {args : List AV} {h : Heap} {n : Nat} {K K' : CallK} (hc : ACallP P f args h n K) (hk : ∀ r h n, K r h n → K' r h n) : ACallP P f args h n K' :=
  ⟨hc.1, fun M0 φ w vs h1 h2 => (hc.2 M0 φ w vs h1 h2).mono fun e w' ⟨v, φ', r, h', n', a, b, c⟩ => ⟨v, φ', r, h', n', a, hk _ _ _ b, c⟩⟩
theorem acall.mono {P : Program} {fv : AV} {args : List AV} {h : Heap} {n : Nat} {K K' : CallK} (hc : acall P fv args h n K) (hk : ∀ r h n, K r h n → K' r h n) : acall P fv args h n K' := by
  unfold acall at hc ⊢
  split at hc
  · exact ACallP.mono hc hk
  · exact hc.elim
theorem aops_mono {P : Program} {ops : List Oper} {Q Q' : Post} (hq : ∀ x e h n, Q x e h n → Q' x e h n) : ∀ {rest : List Oper} {e : Env} {h : Heap} {n : Nat}, aops P ops Q rest e h n → aops P ops Q' rest e h n := by
  intro rest
  induction rest with
  | nil => intro e h n hh; exact hq _ _ _ _ hh
  | cons o rest ih =>
    intro e h n hh
    unfold aops at hh ⊢
    split at hh
    · split at hh
      · exact acall.mono hh fun _ _ _ hk => ih hk
      · exact ⟨hh.1, ih hh.2⟩
    · split at hh
      · exact hh
      · split at hh
        · obtain ⟨h1, ⟨x, h2, h3⟩ | ⟨h2, h3⟩⟩ := hh
          · exact ⟨h1, .inl ⟨x, h2, ih h3⟩⟩
          · exact ⟨h1, .inr ⟨h2, acall.mono h3 fun _ _ _ hk => ih hk⟩⟩
        · obtain ⟨h1, h2, h3⟩ := hh
          exact ⟨h1, h2, ih h3⟩
theorem adrawGo_mono {P : Program} {n : Nat} {ops : List Oper} {K K' : Env → Heap → List DRec → Prop} (hk : ∀ e h r, K e h r → K' e h r) :
    ∀ {rest : List Oper} {i : Nat} {e : Env} {h : Heap} {acc : List DRec}, adrawGo P n ops K i rest e h acc → adrawGo P n ops K' i rest e h acc := by
  intro rest
  induction rest with
  | nil => intro i e h acc hh; exact hk _ _ _ hh
  | cons o rest ih =>
    intro i e h acc hh
    unfold adrawGo at hh ⊢
    split at hh
    · split at hh
      · obtain ⟨r, h1, wr, h2, h3⟩ := hh
        exact ⟨r, h1, wr, h2, ih h3⟩
      · exact ⟨hh.1, ih hh.2⟩
    · split at hh
      · exact hh
      · split at hh
        · obtain ⟨h1, r, S, wr, h2, h3, h4⟩ := hh
          exact ⟨h1, r, S, wr, h2, h3, ih h4⟩
        · obtain ⟨h1, h2, h3⟩ := hh
          exact ⟨h1, h2, ih h3⟩
theorem adraw_mono {P : Program} {ops : List Oper} {Q Q' : Post} (hq : ∀ x e h n, Q x e h n → Q' x e h n) {e : Env} {h : Heap} {n : Nat} (hh : adraw P ops Q e h n) : adraw P ops Q' e h n :=
  adrawGo_mono (fun _ _ _ hk => ⟨hk.1, hq _ _ _ _ hk.2⟩) hh
theorem QSeq_mono {K K' : Env → Heap → Nat → Prop} {Q Q' : Post} (hk : ∀ e h n, K e h n → K' e h n) (hq : ∀ x e h n, Q x e h n → Q' x e h n) : ∀ x e h n, QSeq K Q x e h n → QSeq K' Q' x e h n := by
  intro x e h n hh
  cases x <;> first | exact hk _ _ _ hh | exact hq _ _ _ _ hh
theorem QBlock_mono {id : Nat} {Q Q' : Post} (hq : ∀ x e h n, Q x e h n → Q' x e h n) : ∀ x e h n, QBlock id Q x e h n → QBlock id Q' x e h n := by
  intro x e h n hh
  cases x with
  | exit id' =>
    simp only [QBlock] at hh ⊢
    split at hh
    · rename_i e; rw [if_pos e]; exact hq _ _ _ _ hh
    · rename_i e; rw [if_neg e]; exact hq _ _ _ _ hh
  | _ => exact hq _ _ _ _ hh
theorem awp_mono {P : Program} {n0 : Nat} : ∀ {c : Code} {Q Q' : Post} (hq : ∀ x e h n, Q x e h n → Q' x e h n) {e : Env} {h : Heap} {n : Nat}, awp P n0 c Q e h n → awp P n0 c Q' e h n := by
  intro c
  induction c with
  | skip => intro Q Q' hq e h n hh; exact hq _ _ _ _ hh
  | label l => intro Q Q' hq e h n hh; exact hq _ _ _ _ hh
  | region id ops draw =>
    intro Q Q' hq e h n hh
    cases draw with
    | false => exact aops_mono hq hh
    | true => exact adraw_mono hq hh
  | seq a b iha ihb => intro Q Q' hq e h n hh; exact iha (QSeq_mono (fun e h n => ihb hq) hq) hh
  | cond c a b iha ihb =>
    intro Q Q' hq e h n hh
    unfold awp at hh ⊢
    split at hh
    · exact ⟨fun ht => iha hq (hh.1 ht), fun ht => ihb hq (hh.2 ht)⟩
    · exact hh
  | block id b ih => intro Q Q' hq e h n hh; exact ih (QBlock_mono hq) hh
  | loop b ih =>
    intro Q Q' hq e h n hh
    exact fun X h1 h2 => hh X (fun e h n hb => h1 e h n (ih (QSeq_mono (fun _ _ _ hx => hx) hq) hb)) h2
  | exit id => intro Q Q' hq e h n hh; exact hq _ _ _ _ hh
  | ret => intro Q Q' hq e h n hh; exact hq _ _ _ _ hh
  | _ => intro Q Q' hq e h n hh; exact hh.elim
theorem ALoop.unroll {P : Program} {n0 : Nat} {b : Code} {Q : Post} {e : Env} {h : Heap} {n : Nat} (hh : awp P n0 b (QSeq (ALoop n0 (awp P n0 b) Q) Q) e h n) : ALoop n0 (awp P n0 b) Q e h n :=
  fun X h1 h2 => h1 e h n (awp_mono (QSeq_mono (fun e h n hx => hx X h1 h2) (fun _ _ _ _ hq => hq)) hh)
theorem ALoop.forget {P : Program} {n0 : Nat} {b : Code} {Q : Post} {e : Env} {h : Heap} {n : Nat} (E : List (Nat × AV)) (HH : List (Nat × AObj)) (n' : Nat) (hk : Wk e h n E HH n') (hn : n0 ≤ n')
    (hh : ALoop n0 (awp P n0 b) Q (mkE E) (mkH HH) n') : ALoop n0 (awp P n0 b) Q e h n :=
  fun X h1 h2 => h2 e h n E HH n' hk hn (hh X h1 h2)

/-! ### the fence in which all goes -/
def WF (r : Option Nat) : Fence := { Fence.wide with round := r }
theorem callsIn_WF {r : Option Nat} {k : Nat} {P : Program} {f : FuncId} {args : Array Value} {w : World} {R : Ending → World → Prop} (h : Calls P f args w R) : CallsIn (WF r) k P f args w R :=
  callsIn_wide.2 h

/-- where a function's run began -/
structure Base where
  φ : Place
  w : World
  M0 : Nat → Prop
  h : Heap
  n0 : Nat
  fresh : ∀ o, n0 ≤ o → φ o = none
/-- the abstract state fits the concrete one -/
structure SR (B : Base) (N : Nat) (D : List Deferred) (φ : Place) (e : Env) (h : Heap) (n : Nat) (a : Act) (w : World) : Prop where
  env : ∀ t, Rel φ w (Or B.M0 (Mut φ h)) (e t) (a.tmps.getD t undef)
  size : a.tmps.size = N
  defs : a.defers = D
  heap : HRel φ n w B.M0 h
  step : Step B.φ B.w B.M0 B.h φ w h
def SQ (B : Base) (N : Nat) (D : List Deferred) (Q : Post) : Exit → Act → World → Prop :=
  fun x a w => ∃ φ e h n, SR B N D φ e h n a w ∧ Q x e h n

theorem SR.put {B : Base} {N : Nat} {D : List Deferred} {φ φ' : Place} {e : Env} {h h' : Heap} {n n' : Nat} {a : Act} {w w' : World} (hs : SR B N D φ e h n a w) {dst : Option Tmp} (hd : match dst with | none => True | some d => d < N)
    {x : AV} {v : Value} (hx : Rel φ' w' (Or B.M0 (Mut φ' h')) x v) (hH : HRel φ' n' w' B.M0 h') (st : Step φ w B.M0 h φ' w' h') : SR B N D φ' (put e dst x) h' n' (a.put dst v) w' := by
  cases dst with
  | none => exact ⟨fun t => st.rel (hs.env t), hs.size, hs.defs, hH, hs.step.trans st⟩
  | some d =>
    refine ⟨fun t => ?_, by simp [Act.put, hs.size], hs.defs, hH, hs.step.trans st⟩
    simp only [Av.put, Act.put, upd]
    by_cases ht : t = d
    · subst ht
      rw [if_pos rfl]
      have : t < a.tmps.size := by rw [hs.size]; exact hd
      simpa [Array.getD_eq_getD_getElem?, this] using hx
    · rw [if_neg ht]
      have : (a.tmps.setIfInBounds d v).getD t undef = a.tmps.getD t undef := by
        simp [Array.getD_eq_getD_getElem?, Array.getElem?_setIfInBounds, Ne.symm ht]
      rw [this]
      exact st.rel (hs.env t)

/-- a guard, read off the state -/
theorem guard_wanted' {φ : Place} {M : Nat → Prop} {e : Env} {a : Act} {w : World} (he : ∀ t, Rel φ w M (e t) (a.tmps.getD t undef)) {ops : Array Oper} {o : Oper} {j : Nat} {want g : Bool}
    (hg : o.guard = some (j, want)) (hb : (slotOf ops.toList j).bind (fun t => guardB (e t) want) = some g) : Region.wanted o (yielded ops a.tmps) = g := by
  unfold slotOf at hb
  simp only [Region.wanted, hg, yielded]
  cases ht : (ops[j]?).bind (·.dst) with
  | none => simp [ht] at hb
  | some t =>
    simp only [Array.getElem?_toList, ht, Option.bind_some] at hb
    have hr := he t
    simp only [Option.bind_some]
    have hv : ∀ v, a.tmps.getD t undef = v → v ≠ undef → a.tmps[t]? = some v := by
      intro v hv hne
      cases hx : a.tmps[t]? with
      | none => simp [Array.getD_eq_getD_getElem?, hx] at hv; exact absurd hv.symm hne
      | some u => simp [Array.getD_eq_getD_getElem?, hx] at hv; rw [hv]
    unfold guardB at hb
    split at hb
    · rename_i b hx
      rw [hx] at hr
      simp only [Option.some.injEq] at hb
      generalize hq : a.tmps.getD t undef = q at hr
      cases hr
      rw [hv _ hq (by simp [undef])]
      cases b <;> cases want <;> simp_all
    · rename_i g' b hx
      rw [hx] at hr
      simp only [Option.some.injEq] at hb
      generalize hq : a.tmps.getD t undef = q at hr
      cases hr with
      | gd h1 h2 =>
        cases g' with
        | true =>
          have := h1 rfl
          cases this
          rw [hv _ hq (by simp [undef])]
          cases b <;> cases want <;> simp_all
        | false =>
          have := h2 rfl
          subst this
          cases hx : a.tmps[t]? with
          | none => simp_all
          | some u =>
            have : u = undef := by simpa [Array.getD_eq_getD_getElem?, hx] using hq
            subst this
            simp_all [undef]
    · cases hb

theorem guard_wanted {B : Base} {N : Nat} {D : List Deferred} {φ : Place} {e : Env} {h : Heap} {n : Nat} {a : Act} {w : World} (hs : SR B N D φ e h n a w) {ops : Array Oper} {o : Oper} {j : Nat} {want g : Bool}
    (hg : o.guard = some (j, want)) (hb : (slotOf ops.toList j).bind (fun t => guardB (e t) want) = some g) : Region.wanted o (yielded ops a.tmps) = g := guard_wanted' hs.env hg hb

theorem run_call {P : Program} {a : Act} {w : World} {fo : Operand} {args : Array Operand} {ats : Array TypeId} {ty : TypeId} {f : FuncId} {fs cs : List Value} (hf : a.eval fo = .func (.func f) ⟨fs⟩ ⟨cs⟩)
    (he : Enters P f) : (do let d ← resolve a.eval { callee := .value fo, args, argTypes := ats } ty; invoke d.target d.args).run P w = .ok (.enter f ⟨fs ++ args.toList.map a.eval ++ cs⟩) w := by
  have e1 : (⟨fs⟩ : Array Value) ++ args.map a.eval ++ ⟨cs⟩ = ⟨fs ++ args.toList.map a.eval ++ cs⟩ := by
    apply Array.ext'; simp
  simp only [resolve, hf, Deferred.ofValue, Sem.run_bind, Sem.run_pure, Result.andThen_ok, invoke]
  rw [e1, he]

theorem relL_args {φ : Place} {w : World} {M : Nat → Prop} {e : Env} {a : Act} (he : ∀ x, Rel φ w M (ev e x) (a.eval x)) (xs : List Operand) : RelL φ w M (xs.map (ev e)) (xs.map a.eval) :=
  relL_map fun x _ => he x

/-- A REGION IN THE TEXT's ORDER. -/
theorem aops_sound {P : Program} {B : Base} {N : Nat} {D : List Deferred} {ops : Array Oper} {Q : Post} {r : Option Nat} {m : Nat} (hd : ∀ o ∈ ops.toList, match o.dst with | none => True | some d => d < N) :
    ∀ (k : Nat) (i : Nat), i + k = ops.size → ∀ {φ : Place} {e : Env} {h : Heap} {n : Nat} {a : Act} {w : World}, SR B N D φ e h n a w → aops P ops.toList Q (ops.toList.drop i) e h n →
      wpOpsIn (WF r) m P ops (SQ B N D Q) (List.range' i k) a w := by
  intro k
  induction k with
  | zero =>
    intro i hi φ e h n a w hs ha
    have : ops.toList.drop i = [] := List.drop_eq_nil_of_le (by simp; omega)
    rw [this] at ha
    exact ⟨φ, e, h, n, hs, ha⟩
  | succ k ih =>
    intro i hi φ e h n a w hs ha
    have hlt : i < ops.size := by omega
    have hdrop : ops.toList.drop i = ops[i] :: ops.toList.drop (i + 1) := by
      rw [List.drop_eq_getElem_cons (by simpa using hlt)]; simp
    rw [hdrop] at ha
    have hmem : ops[i] ∈ ops.toList := by simp
    have hdst := hd _ hmem
    simp only [List.range'_succ, wpOpsIn, Array.getElem?_eq_getElem hlt]
    have hev : ∀ x, Rel φ w (Or B.M0 (Mut φ h)) (ev e x) (a.eval x) := rel_ev hs.env
    have habout : ∀ f, Oper.about P w a.eval ops[i] = some f → (WF r).fn f := fun _ _ => trivial
    have hdepth : (WF r).depth.isSome = true → 1 ≤ m := by intro h; simp [WF, Fence.wide] at h
    generalize ho : ops[i] = o at *
    -- the operation itself, at an environment that fits
    have hcall : ∀ (e' : Env) (fo : Operand) (args : Array Operand) (ats : Array TypeId) (K : CallK), o.op = .call { callee := .value fo, args, argTypes := ats } → (∀ x ∈ o.op.operands, Rel φ w (Or B.M0 (Mut φ h)) (ev e' x) (a.eval x)) →
        acall P (ev e' fo) (args.toList.map (ev e')) h n K →
        (∀ v φ' x h' n' w', Rel φ' w' (Or B.M0 (Mut φ' h')) x v → HRel φ' n' w' B.M0 h' → Step φ w B.M0 h φ' w' h' → K x h' n' → wpOpsIn (WF r) m P ops (SQ B N D Q) (List.range' (i + 1) k) (a.put o.dst v) w') →
        o.wpIn (WF r) m P a w (wpOpsIn (WF r) m P ops (SQ B N D Q) (List.range' (i + 1) k)) (SQ B N D Q) := by
      intro e' fo args ats K hop he hc hk
      refine ⟨habout, ?_⟩
      rw [Oper.semAt_eq _ _ _ (fun c => by rw [hop]; simp)]
      have hfo := he fo (by simp [hop, Op.operands, Call.operands])
      have hargs : RelL φ w (Or B.M0 (Mut φ h)) (args.toList.map (ev e')) (args.toList.map a.eval) := relL_map fun x hx => he x (by simp [hop, Op.operands, Call.operands]; exact .inr (by simpa using hx))
      unfold acall at hc
      split at hc
      · rename_i f first caps hfv
        rw [hfv] at hfo
        generalize hval : a.eval fo = fval at hfo
        cases hfo with
        | @fn _ _ _ fs cs h1 h2 =>
          have hrun := run_call (P := P) (w := w) (args := args) (ats := ats) (ty := o.type) hval hc.1
          have hex : execOp a.eval o = (do let d ← resolve a.eval { callee := .value fo, args, argTypes := ats } o.type; invoke d.target d.args) := by simp [execOp, hop]
          rw [hex, hrun]
          refine ⟨hdepth, callsIn_WF ((hc.2 B.M0 φ w _ hs.heap ((h1.append hargs).append h2)).mono ?_)⟩
          rintro en w' ⟨v, φ', x, h', n', rfl, hK, hH', hx, st⟩
          exact hk v φ' x h' n' w' hx hH' st hK
      · exact hc.elim
    have hone : ∀ (e' : Env), (∀ x ∈ o.op.operands, Rel φ w (Or B.M0 (Mut φ h)) (ev e' x) (a.eval x)) → (aev P n o.op e' h).cond → (∀ c, o.op ≠ .defer c) →
        (∀ v φ' w', Rel φ' w' (Or B.M0 (Mut φ' (applyW (aev P n o.op e' h).wr h))) (aev P n o.op e' h).val v → HRel φ' (n + (aev P n o.op e' h).al) w' B.M0 (applyW (aev P n o.op e' h).wr h) →
          Step φ w B.M0 h φ' w' (applyW (aev P n o.op e' h).wr h) → wpOpsIn (WF r) m P ops (SQ B N D Q) (List.range' (i + 1) k) (a.put o.dst v) w') →
        o.wpIn (WF r) m P a w (wpOpsIn (WF r) m P ops (SQ B N D Q) (List.range' (i + 1) k)) (SQ B N D Q) := by
      intro e' he hc hnd hk
      refine ⟨habout, ?_⟩
      rw [Oper.semAt_eq _ _ _ hnd]
      obtain ⟨nx, v, w', φ', hrun, hnx, hx, hH', st⟩ := aev_good hs.heap (Nat.le_refl _) he hc
      rw [hrun]
      have hH' := Fal_le _ hH'
      rcases hnx with rfl | ⟨rfl, rfl⟩
      · exact hk v φ' w' hx hH' st
      · exact hk undef φ' w' hx hH' st
    have hnd : ∀ e', (aev P n o.op e' h).cond → ∀ c, o.op ≠ .defer c := by
      intro e' hc c hop
      rw [hop] at hc
      exact hc
    unfold aops at ha
    split at ha
    · -- no guard
      rename_i hg
      have hw : Region.wanted o (yielded ops a.tmps) = true := by simp [Region.wanted, hg]
      rw [if_pos hw]
      split at ha
      · rename_i fo args ats hop
        exact hcall e fo args ats _ hop (fun x _ => hev x) ha fun v φ' x h' n' w' hx hH' st hK => ih (i + 1) (by omega) (hs.put hdst hx hH' st) hK
      · exact hone e (fun x _ => hev x) ha.1 (hnd e ha.1) fun v φ' w' hx hH' st => ih (i + 1) (by omega) (hs.put hdst hx hH' st) ha.2
    · -- guarded
      rename_i j want hg
      split at ha
      · exact ha.elim
      · rename_i g hb
        have hw := guard_wanted hs hg hb
        rw [hw]
        have hpk : ∀ op e, gE op e = e ∧ gT op = [] ∨ gE op e = (fun t => unG (e t)) ∧ gT op = opTmps op := by
          intro op e; cases op <;> first | exact .inl ⟨rfl, rfl⟩ | exact .inr ⟨rfl, rfl⟩
        have hung : ∀ (op : Op), (∀ t ∈ gT op, okG g (e t)) → g = true → ∀ x ∈ op.operands, Rel φ w (Or B.M0 (Mut φ h)) (ev (gE op e) x) (a.eval x) := by
          intro op hok hgt x hx
          rcases hpk op e with ⟨he1, _⟩ | ⟨he1, he2⟩
          · rw [he1]; exact hev x
          rw [he1]
          rw [he2] at hok
          cases x with
          | tmp t =>
            have hmt : t ∈ opTmps op := by
              simp only [opTmps, List.mem_filterMap]
              exact ⟨.tmp t, by simpa using hx, rfl⟩
            have h1 := hok t hmt
            have h2 := hs.env t
            simp only [ev]
            show Rel φ w _ (unG (e t)) (a.tmps.getD t undef)
            generalize e t = y at h1 h2
            cases y with
            | gd g' y => cases h2 with | gd h3 _ => exact h3 (h1 hgt)
            | _ => exact h2
          | const v => exact hev (.const v)
          | global g => exact hev (.global g)
          | func f => exact hev (.func f)
        have hskip : ∀ x, g = false → SR B N D φ (put e o.dst (.gd g x)) h n (a.put o.dst undef) w := fun x hgf =>
          hs.put hdst (.gd (fun h => by rw [hgf] at h; cases h) (fun _ => rfl)) hs.heap (.refl _ _ _ _)
        split at ha
        · rename_i fo args ats hop
          obtain ⟨hok, ⟨x, hc, hrest⟩ | ⟨hgt, hc⟩⟩ := ha
          rotate_left
          · subst hgt
            rw [if_pos rfl]
            refine hcall (fun t => unG (e t)) fo args ats _ hop (by have := hung o.op (by rw [hop]; rw [hop] at hok; exact hok) rfl; rw [hop] at this ⊢; exact this) hc fun v φ' x' h' n' w' hx hH' st hK => ?_
            exact ih (i + 1) (by omega) (hs.put hdst (.gd (fun _ => hx) (fun h => by cases h)) hH' st) hK
          cases hgv : g with
          | true =>
            rw [if_pos rfl]
            refine hcall (fun t => unG (e t)) fo args ats _ hop (by have := hung o.op (by rw [hop]; rw [hop] at hok; exact hok) hgv; rw [hop] at this ⊢; exact this) (hc hgv) fun v φ' x' h' n' w' hx hH' st hK => ?_
            obtain ⟨rfl, rfl, rfl⟩ := hK
            rw [hgv] at hrest
            exact ih (i + 1) (by omega) (hs.put hdst (.gd (fun _ => hx) (fun h => by cases h)) hH' st) hrest
          | false =>
            rw [if_neg (by simp)]
            refine ⟨habout, ih (i + 1) (by omega) (hskip x hgv) hrest⟩
        · obtain ⟨hok, hc, hrest⟩ := ha
          cases hgv : g with
          | true =>
            rw [if_pos rfl]
            refine hone (gE o.op e) (hung _ hok hgv) (hc hgv) (hnd _ (hc hgv)) fun v φ' w' hx hH' st => ?_
            rw [hgv] at hrest
            exact ih (i + 1) (by omega) (hs.put hdst (.gd (fun _ => hx) (fun h => by cases h)) hH' st) hrest
          | false =>
            rw [if_neg (by simp)]
            rw [hgv] at hrest
            simp only [gW, gN, cond_false, applyW, Nat.add_zero] at hrest
            rw [← hgv] at hrest
            exact ⟨habout, ih (i + 1) (by omega) (hskip _ hgv) hrest⟩

end Go.Av
