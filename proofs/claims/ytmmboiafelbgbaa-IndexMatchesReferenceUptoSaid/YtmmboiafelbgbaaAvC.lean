/- Our library, part 12: functions' contracts; calls of functions that only compute. -/
import Derived.Test.YtmmboiafelbgbaaAvF
set_option linter.unusedSimpArgs false
set_option linter.unusedVariables false
namespace Go.Av
open Go

theorem enters_of {P : Program} {f : FuncId} {fn : Func} {c : Code} (hf : P.funcs[f]? = some fn) (hb : fn.body = some c) (hname : (fn.name == "runtime.NumGoroutine") = false) : Enters P f := by
  intro args w
  have : ¬ fn.name = "runtime.NumGoroutine" := by simpa using hname
  simp [callFunc, hf, hb, this]

section
variable {P : Program}
theorem loadAt_ptr {t : TypeId} {v u : Value} {w w' : World} (h : (Instr.loadAt t v).run P w = .ok u w') : (do loadVar t (← asAddr v) : Sem Value).run P w = .ok u w' := by
  unfold Instr.loadAt at h
  cases v with
  | pointer a =>
    cases a with
    | some a => simpa [Instr.sureAddr, asAddr] using h
    | none => simp [Instr.sureAddr] at h
  | _ => simp [Instr.sureAddr] at h
def resF (tmps : Array Value) : ResultVar → Sem Value
  | .tmp t => pure (tmps.getD t undef)
  | .cell a t => do loadVar t (← asAddr (tmps.getD a undef))
theorem results_eq (fn : Func) (tmps : Array Value) : results fn tmps = (do let vs ← fn.results.mapM (resF tmps); pure (if h : vs.size = 1 then vs[0] else .tuple vs)) := by
  unfold results
  congr 1
theorem resL_sound {φ : Place} {n : Nat} {w : World} {M0 : Nat → Prop} {h : Heap} (hH : HRel φ n w M0 h) {e : Env} {tmps : Array Value} (he : ∀ t, Rel φ w (Or M0 (Mut φ h)) (e t) (tmps.getD t undef)) :
    ∀ (rs : List ResultVar), (resL P e h rs).1 → ∃ vs, (rs.mapM (resF tmps)).run P w = .ok vs w ∧ RelL φ w (Or M0 (Mut φ h)) (resL P e h rs).2 vs
  | [], _ => ⟨[], by simp, .nil⟩
  | .tmp t :: rs, hc => by
    obtain ⟨vs, h1, h2⟩ := resL_sound hH he rs hc
    refine ⟨tmps.getD t undef :: vs, ?_, .cons (he t) h2⟩
    simp only [List.mapM_cons, resF, Sem.run_bind, Sem.run_pure, Result.andThen_ok, h1]
  | .cell a t :: rs, hc => by
    obtain ⟨hc1, hc2⟩ := hc
    obtain ⟨vs, h1, h2⟩ := resL_sound hH he rs hc2
    obtain ⟨u, h3, h4, _, _⟩ := load_reads (P := P) (t := t) hH (he a) hc1
    refine ⟨u :: vs, ?_, .cons h4 h2⟩
    have h5 := loadAt_ptr h3
    simp only [Sem.run_bind] at h5
    simp only [List.mapM_cons, resF, Sem.run_bind, h5, Result.andThen_ok, h1, Sem.run_pure]
theorem resV_sound {φ : Place} {w : World} {M : Nat → Prop} {xs : List AV} {vs : List Value} (h : RelL φ w M xs vs) :
    Rel φ w M (resV xs) (if h : (⟨vs⟩ : Array Value).size = 1 then (⟨vs⟩ : Array Value)[0] else .tuple ⟨vs⟩) := by
  cases h with
  | nil => exact .tup .nil
  | cons h t =>
    cases t with
    | nil => simpa [resV] using h
    | cons h' t' => simpa [resV] using Rel.tup (.cons h (.cons h' t'))

theorem argE_rel {φ : Place} {w : World} {M : Nat → Prop} : ∀ {xs : List AV} {vs : List Value} (_ : RelL φ w M xs vs) (i t : Nat), argE i xs t = .top ∨ ∃ k, t = i + k ∧ ∃ (hk : k < xs.length) (hk' : k < vs.length), argE i xs t = xs[k] ∧ Rel φ w M xs[k] vs[k]
  | [], _, _, i, t => .inl rfl
  | x :: xs, _, .cons h ht, i, t => by
    simp only [argE, upd]
    by_cases e : t = i
    · subst e; rw [if_pos rfl]; exact .inr ⟨0, rfl, by simp, by simp, rfl, h⟩
    · rw [if_neg e]
      rcases argE_rel ht (i + 1) t with h1 | ⟨k, rfl, hk, hk', h1, h2⟩
      · exact .inl h1
      · exact .inr ⟨k + 1, by omega, by simpa using hk, by simpa using hk', by simpa using h1, by simpa using h2⟩

/-- A FUNCTION, BY ITS BODY. -/
theorem ACallP.of_awp (hmix : P.follows .mixedOrders = true) {f : FuncId} {fn : Func} {c : Code} {args : List AV} {h : Heap} {n : Nat} {K : CallK} (hf : P.funcs[f]? = some fn) (hb : fn.body = some c) (hname : (fn.name == "runtime.NumGoroutine") = false)
    (hN : args.length ≤ fn.ntmps) (hd : dstB fn.ntmps c = true) (hh : awp P n c (RetQ P fn.results.toList K) (argE 0 args) h n) : ACallP P f args h n K := by
  refine ⟨enters_of hf hb hname, fun M0 φ w vs hH hargs => ?_⟩
  have hlen := hargs.length
  let B : Base := ⟨φ, w, M0, h, n, hH.fresh⟩
  have hsr : SR B fn.ntmps [] φ (argE 0 args) h n { tmps := ⟨vs⟩ ++ Array.replicate (fn.ntmps - (⟨vs⟩ : Array Value).size) undef, defers := [] } w := by
    refine ⟨fun t => ?_, by simp; omega, rfl, hH, .refl _ _ _ _⟩
    rcases argE_rel hargs 0 t with h1 | ⟨k, rfl, hk, hk', h1, h2⟩
    · rw [h1]; exact .top _
    · rw [h1]
      have : ((⟨vs⟩ : Array Value) ++ Array.replicate (fn.ntmps - (⟨vs⟩ : Array Value).size) undef).getD (0 + k) undef = vs[k] := by
        simp [Array.getD_eq_getD_getElem?, Array.getElem?_append, hk']
      rw [this]; exact h2
  have hw := awp_sound (P := P) hmix (B := B) (N := fn.ntmps) (D := []) (r := none) (m := 0) hd hsr hh
  refine callsIn_wide.1 (callsIn_of_wp (F := WF none) (n := 0) hf hb trivial (wpIn_mono hw ?_) rfl)
  rintro ex a' w' ⟨φ', e', h', n', hs', hq⟩
  have fin : (resL P e' h' fn.results.toList).1 ∧ K (resV (resL P e' h' fn.results.toList).2) h' n' → a'.defers = [] ∧ ∃ v, (results fn a'.tmps).run P w' = .ok v w' ∧
      ∃ v_1 φ'_1 r h'_1 n'_1, Ending.returned v = Ending.returned v_1 ∧ K r h'_1 n'_1 ∧ HRel φ'_1 n'_1 w' M0 h'_1 ∧ Rel φ'_1 w' (Or M0 (Mut φ'_1 h'_1)) r v_1 ∧ Step φ w M0 h φ'_1 w' h'_1 := by
    rintro ⟨q1, q2⟩
    obtain ⟨us, h1, h2⟩ := resL_sound (P := P) hs'.heap hs'.env fn.results.toList q1
    refine ⟨hs'.defs, _, ?_, _, φ', _, h', n', rfl, q2, hs'.heap, resV_sound h2, hs'.step⟩
    rw [results_eq, Array.mapM_eq_mapM_toList]
    simp only [Sem.run_bind, Sem.run_map, Sem.run_pure, h1, Result.andThen_ok]
  cases ex with
  | normal => exact fin hq
  | ret => exact fin hq
  | _ => exact hq.elim
end

/-! ### calls of functions that only compute -/
theorem hrel_noH {w : World} {M : Nat → Prop} (hM : ∀ k, M k → k < w.heap.size) : HRel noP 0 w M noH :=
  ⟨hM, fun _ _ => rfl, (fun o mt g sz rs ho => by cases ho), (fun o o' mt g sz rs mt' g' sz' rs' a a' b b' ho => by cases ho)⟩

theorem Pure.of {P : Program} {f : FuncId} {args : List AV} {r : AV} (hc : ACallP P f args noH 0 fun r' h' n' => LeV h' noH n' r' r ∧ Bel 0 r) : Pure P f args r := by
  refine ⟨hc.1, fun M w vs hM hargs => (hc.2 M noP w vs (hrel_noH hM) (hargs.keep noP.le_refl (fun _ _ _ => rfl) (fun k hk => hk.elim .inl fun h => (not_mut_noH h).elim))).mono ?_⟩
  rintro e w' ⟨v, φ', r', h', n', rfl, ⟨hle, hb⟩, hH, hx, st⟩
  have hk : Wk (fun _ => r') h' n' [(0, r)] [] 0 := ⟨fun p hp => by simp at hp; subst hp; exact ⟨hle, hb⟩, fun p hp => by cases hp⟩
  obtain ⟨φ'', h1, h2, h3, _⟩ := hk.sound hH (tmps := fun _ => v) (fun _ => hx)
  refine ⟨v, rfl, ?_, ?_⟩
  · have := h2 0
    simp only [mkE, upd_same] at this
    refine this.keep (fun o x ho => ?_) (fun _ _ _ => rfl) (fun k hk => .inl (.inl hk))
    rw [h1.fresh o (Nat.zero_le _)] at ho; cases ho
  · exact ⟨st.fr.os, st.fr.tape, st.fr.output, st.fr.size, fun k hk _ => st.fr.block k hk not_mut_noH⟩

/-- A CALL OF A FUNCTION THAT ONLY COMPUTES, whose result holds no memory. -/
theorem ACallP.flat {P : Program} {f : FuncId} {args args' : List AV} {r : AV} {h : Heap} {n : Nat} {K : CallK} (hp : Pure P f args' r) (hfl : Flat r) (hle : LeRow h noH n args args') (hb : ∀ c ∈ args', Bel 0 c)
    (hk : K r h n) : ACallP P f args h n K := by
  refine ⟨hp.1, fun M0 φ w vs hH hargs => ?_⟩
  have h1 := view_args (h' := noH) hH (fun o g sz rs ho => by cases ho) hle hb hargs
  refine (hp.2 _ w vs (fun k hk => hk.elim (hH.m0 k) fun h => (not_mut_noH h).elim) h1).mono ?_
  rintro e w' ⟨v, rfl, hr, hfr⟩
  have st : Step φ w M0 h φ w' h := ⟨φ.le_refl, fun k hk => .inl hk, ⟨hfr.os, hfr.tape, hfr.output, hfr.size, fun k hk _ => hfr.block k hk (fun h => h)⟩, fun k hk => .inl hk⟩
  exact ⟨v, φ, r, h, n, rfl, hk, hH.keepw st (fun k hk => hfr.block k hk fun h => h), hfl.rel hr, st⟩

/-- A CALL OF A FUNCTION THAT ONLY COMPUTES: what it was given of ours is frozen. -/
theorem ACallP.pure {P : Program} {f : FuncId} {args args' : List AV} {r : AV} {h : Heap} {n : Nat} {K : CallK} (h' : Heap) (hp : Pure P f args' r) (hfz : Frz h h') (hle : LeRow h h' n args args') (hb : ∀ c ∈ args', Bel 0 c)
    (hk : K r h' n) : ACallP P f args h n K := by
  refine ⟨hp.1, fun M0 φ w vs hH hargs => ?_⟩
  obtain ⟨hH', st0⟩ := hH.freeze hfz
  have hmt : ∀ o g sz rs, h' o = some (.rows true g sz rs) → h o = some (.rows true g sz rs) := by
    intro o g sz rs ho
    rcases hfz o with h1 | ⟨g1, sz1, rs1, _, h2⟩
    · rw [← h1]; exact ho
    · rw [h2] at ho; cases ho
  have h1 := view_args (h' := h') hH hmt hle hb hargs
  refine (hp.2 _ w vs (fun k hk => hH'.blk hk) h1).mono ?_
  rintro e w' ⟨v, rfl, hr, hfr⟩
  have st : Step φ w M0 h' φ w' h' := ⟨φ.le_refl, fun k hk => .inl hk, ⟨hfr.os, hfr.tape, hfr.output, hfr.size, fun k hk _ => hfr.block k hk (fun h => h)⟩, fun k hk => .inl hk⟩
  refine ⟨v, φ, r, h', n, rfl, hk, hH'.keepw st (fun k hk => hfr.block k hk fun h => h), ?_, st0.trans st⟩
  exact hr.keep (fun o x ho => by cases ho) (fun _ _ _ => rfl) (fun k hk => .inl hk)
/-- .. where nothing of ours is among the arguments. -/
theorem ACallP.plain {P : Program} {f : FuncId} {args : List AV} {r : AV} {h : Heap} {n : Nat} {K : CallK} (hp : Pure P f args r) (hb : ∀ c ∈ args, Bel 0 c) (hk : K r h n) : ACallP P f args h n K :=
  ACallP.pure h hp (.refl h) (.refl _ _ _ _) hb hk

/-! ### calls of functions that give new objects -/
mutual
/-- y is x, its objects' ids raised by n -/
inductive Sh (n : Nat) : AV → AV → Prop
  | same {x : AV} (h : Bel 0 x) : Sh n x x
  | ref {o g sz i off : Nat} : Sh n (.ref o g sz i off) (.ref (n + o) g sz i off)
  | sl {o g sz i len : Nat} : Sh n (.sl o g sz i len) (.sl (n + o) g sz i len)
  | agg {xs ys : List AV} (h : ShL n xs ys) : Sh n (.agg xs) (.agg ys)
  | tup {xs ys : List AV} (h : ShL n xs ys) : Sh n (.tup xs) (.tup ys)
  | fn {f : Fn} {a b a' b' : List AV} (h : ShL n a a') (h' : ShL n b b') : Sh n (.fn f a b) (.fn f a' b')
inductive ShL (n : Nat) : List AV → List AV → Prop
  | nil : ShL n [] []
  | cons {x y : AV} {xs ys : List AV} (h : Sh n x y) (t : ShL n xs ys) : ShL n (x :: xs) (y :: ys)
end
inductive ShLL (n : Nat) : List (List AV) → List (List AV) → Prop
  | same {rs : List (List AV)} (h : ∀ r ∈ rs, ∀ c ∈ r, Bel 0 c) : ShLL n rs rs
  | nil : ShLL n [] []
  | cons {x y : List AV} {xs ys : List (List AV)} (h : ShL n x y) (t : ShLL n xs ys) : ShLL n (x :: xs) (y :: ys)
inductive ShO (n : Nat) : AObj → AObj → Prop
  | rows {mt : Bool} {g sz : Nat} {rs rs' : List (List AV)} (h : ShLL n rs rs') : ShO n (.rows mt g sz rs) (.rows mt g sz rs')
inductive ShH (n : Nat) : List (Nat × AObj) → List (Nat × AObj) → Prop
  | nil : ShH n [] []
  | cons {o : Nat} {x y : AObj} {l l' : List (Nat × AObj)} (h : ShO n x y) (t : ShH n l l') : ShH n ((o, x) :: l) ((n + o, y) :: l')
theorem Sh.rel {φ φ' : Place} {w : World} {M M' : Nat → Prop} {n : Nat} (hφ : ∀ o, φ' (n + o) = φ o) (hM : ∀ k, M' k → M k) {x y : AV} (hs : Sh n x y) : ∀ {v : Value}, Rel φ w M x v → Rel φ' w M' y v := by
  refine Sh.rec (n := n) (motive_1 := fun x y _ => ∀ {v : Value}, Rel φ w M x v → Rel φ' w M' y v) (motive_2 := fun xs ys _ => ∀ {vs : List Value}, RelL φ w M xs vs → RelL φ' w M' ys vs)
    ?_ ?_ ?_ ?_ ?_ ?_ ?_ ?_ hs
  · intro x hb v hx; exact hx.closed hM hb
  · intro o g sz i off v hx
    cases hx with | ref ho hg h => exact .ref (by rw [hφ]; exact ho) hg h
  · intro o g sz i len v hx
    cases hx with | sl ho hg h => exact .sl (by rw [hφ]; exact ho) hg h
  · intro xs ys _ ih v hx
    cases hx with | agg hv h => exact .agg hv (ih h)
  · intro xs ys _ ih v hx
    cases hx with | tup h => exact .tup (ih h)
  · intro f a b a' b' _ _ ih1 ih2 v hx
    cases hx with | fn h1 h2 => exact .fn (ih1 h1) (ih2 h2)
  · intro vs hx; cases hx; exact .nil
  · intro x y xs ys _ _ ih1 ih2 vs hx
    cases hx with | cons h t => exact .cons (ih1 h) (ih2 t)
theorem ShL.rel {φ φ' : Place} {w : World} {M M' : Nat → Prop} {n : Nat} (hφ : ∀ o, φ' (n + o) = φ o) (hM : ∀ k, M' k → M k) : ∀ {xs ys : List AV} {vs : List Value}, ShL n xs ys → RelL φ w M xs vs → RelL φ' w M' ys vs
  | [], _, _, .nil, .nil => .nil
  | _ :: _, _, _, .cons h t, .cons h' t' => .cons (h.rel hφ hM h') (t.rel hφ hM t')
theorem ShL.length {n : Nat} : ∀ {xs ys : List AV}, ShL n xs ys → ys.length = xs.length
  | [], _, .nil => rfl
  | _ :: _, _, .cons _ t => by simp [t.length]
theorem ShLL.rel {φ φ' : Place} {w : World} {M M' : Nat → Prop} {n : Nat} (hφ : ∀ o, φ' (n + o) = φ o) (hM : ∀ k, M' k → M k) {xs ys : List (List AV)} (hs : ShLL n xs ys) :
    ∀ {vs : List Value}, RelL φ w M xs.flatten vs → RelL φ' w M' ys.flatten vs := by
  induction hs with
  | same h =>
    intro vs hx
    refine RelL.of_get hx.length fun k hk hk' => (hx.get k hk hk').closed hM ?_
    obtain ⟨r, hr, hc⟩ := List.mem_flatten.1 (List.getElem_mem hk)
    exact h r hr _ hc
  | nil => intro vs hx; cases hx; exact .nil
  | cons h _ ih =>
    intro vs hx
    rw [List.flatten_cons] at hx ⊢
    obtain ⟨us, ts, rfl, h1, h2⟩ := hx.split
    exact (h.rel hφ hM h1).append (ih h2)
theorem ShLL.shape {n : Nat} {xs ys : List (List AV)} (hs : ShLL n xs ys) : ys.length = xs.length ∧ ∀ sz, (∀ r ∈ xs, r.length = sz) → ∀ r ∈ ys, r.length = sz := by
  induction hs with
  | same h => exact ⟨rfl, fun _ h => h⟩
  | nil => exact ⟨rfl, fun _ h => h⟩
  | cons h _ ih =>
    refine ⟨by simp [ih.1], fun sz hr r hm => ?_⟩
    rcases List.mem_cons.1 hm with rfl | hm
    · rw [h.length]; exact hr _ (by simp)
    · exact ih.2 sz (fun r hr' => hr r (by simp [hr'])) r hm
theorem ShH.at {n : Nat} {l l' : List (Nat × AObj)} (hs : ShH n l l') {o : Nat} {y : AObj} (ho : mkH l' o = some y) : ∃ o0 x, o = n + o0 ∧ mkH l o0 = some x ∧ ShO n x y := by
  induction hs with
  | nil => cases ho
  | @cons o1 x1 y1 l l' h _ ih =>
    simp only [mkH, upd] at ho ⊢
    split at ho
    · rename_i e
      cases ho
      exact ⟨o1, x1, e, by simp, h⟩
    · rename_i e
      obtain ⟨o0, x, rfl, h1, h2⟩ := ih ho
      exact ⟨o0, x, rfl, by rw [if_neg (by omega)]; exact h1, h2⟩

/-- more objects -/
def over : List (Nat × AObj) → Heap → Heap
  | [], h => h
  | (o, x) :: l, h => upd (over l h) o (some x)
theorem over_eq (h : Heap) : ∀ (l : List (Nat × AObj)) (o : Nat), over l h o = match mkH l o with | some x => some x | none => h o
  | [], o => rfl
  | (a, x) :: l, o => by
    simp only [over, mkH, upd]
    by_cases e : o = a
    · simp [e]
    · simp only [if_neg e]; exact over_eq h l o
/-- A CALL THAT GIVES NEW OBJECTS; what it was given of ours is frozen. -/
theorem ACallP.frame {P : Program} {f : FuncId} {args args' : List AV} {h : Heap} {n k2 : Nat} {K K' : CallK} {R0 R : AV} {H0 HH : List (Nat × AObj)} (h' : Heap) (hp : ACallP P f args' noH 0 K')
    (hk' : ∀ r h1 n', K' r h1 n' → Wk (fun _ => r) h1 n' [(0, R0)] H0 k2) (hR : Sh n R0 R) (hHH : ShH n H0 HH) (hfz : Frz h h') (hle : LeRow h h' n args args') (hb : ∀ c ∈ args', Bel 0 c)
    (hk : K R (over HH h') (n + k2)) : ACallP P f args h n K := by
  refine ⟨hp.1, fun M0 φ w vs hH hargs => ?_⟩
  obtain ⟨hH', st0⟩ := hH.freeze hfz
  have hmt : ∀ o g sz rs, h' o = some (.rows true g sz rs) → h o = some (.rows true g sz rs) := by
    intro o g sz rs ho
    rcases hfz o with h1 | ⟨g1, sz1, rs1, h1, h2⟩
    · rw [← h1]; exact ho
    · rw [h2] at ho; cases ho
  have hv := view_args (h' := h') hH hmt hle hb hargs
  have hM1 : ∀ k, Or (Or M0 (Mut φ h')) (Mut noP noH) k → Or M0 (Mut φ h') k := fun k hk => hk.elim id fun h => (not_mut_noH h).elim
  have hH1 : HRel noP 0 w (Or M0 (Mut φ h')) noH := hrel_noH fun k hk => hH'.blk hk
  refine (hp.2 _ noP w vs hH1 (hv.keep noP.le_refl (fun _ _ _ => rfl) (fun k hk => .inl (hM1 k hk)))).mono ?_
  rintro e w' ⟨v, φ1, r, h1, n', rfl, hK, hH2, hx, st⟩
  obtain ⟨φ2, hH3, hx3, hm3, _⟩ := (hk' _ _ _ hK).sound hH2 (tmps := fun _ => v) (fun _ => hx)
  have hx3 := hx3 0
  simp only [mkE, upd_same] at hx3
  have hheap : ∀ k, k < w.heap.size → w'.heap[k]? = w.heap[k]? := fun k hk => st.fr.block k hk not_mut_noH
  let φ3 : Place := fun o => if o < n then φ o else φ2 (o - n)
  have e3 : ∀ o, φ3 (n + o) = φ2 o := fun o => by simp only [φ3]; rw [if_neg (by omega)]; congr 1; omega
  have e3' : ∀ o, o < n → φ3 o = φ o := fun o ho => if_pos ho
  have hlt : ∀ o x, φ o = some x → o < n := fun o x ho => Nat.lt_of_not_le fun hle => by rw [hH.fresh o hle] at ho; cases ho
  have hle3 : φ.le φ3 := fun o x ho => ⟨x, by rw [e3' o (hlt o x ho)]; exact ho, Nat.le_refl _, fun _ => rfl⟩
  -- where an object comes from
  have hsrc : ∀ o y, over HH h' o = some y → (∃ o0 x, o = n + o0 ∧ mkH H0 o0 = some x ∧ ShO n x y) ∨ (o < n ∧ h' o = some y) := by
    intro o x ho
    rw [over_eq] at ho
    split at ho
    · rename_i y hy
      cases ho
      exact .inl (hHH.at hy)
    · cases x with
      | rows mt g sz rs =>
        obtain ⟨A, hA, _⟩ := hH'.obj _ _ _ _ _ ho
        exact .inr ⟨hlt _ _ hA, ho⟩
  have hmut : ∀ k, Mut φ3 (over HH h') k → Mut φ2 (mkH H0) k ∨ Mut φ h' k := by
    rintro k ⟨o, g, sz, rs, g', a, bs, ho, hp, rfl⟩
    rcases hsrc o _ ho with ⟨o0, x, rfl, h1, h2⟩ | ⟨h1, h2⟩
    · cases h2 with
      | rows h2 => rw [e3] at hp; exact .inl ⟨o0, g, sz, _, g', a, bs, h1, hp, rfl⟩
    · rw [e3' o h1] at hp; exact .inr ⟨o, g, sz, rs, g', a, bs, h2, hp, rfl⟩
  have hnew : ∀ k, Mut φ2 (mkH H0) k → w.heap.size ≤ k := fun k hk => (st.mutd k (hm3 k hk)).elim (fun h => (not_mut_noH h).elim) id
  have hsub : ∀ k, Or M0 (Mut φ3 (over HH h')) k → Or (Or M0 (Mut φ h')) (Mut φ2 (mkH H0)) k := fun k hk => hk.elim (fun h => .inl (.inl h)) fun h => (hmut k h).elim .inr fun h => .inl (.inr h)
  have hsub' : ∀ k, Or M0 (Mut φ3 (over HH h')) k → Or M0 (Mut φ h') k ∨ w.heap.size ≤ k := fun k hk => hk.elim (fun h => .inl (.inl h)) fun h => (hmut k h).elim (fun h => .inr (hnew k h)) fun h => .inl (.inr h)
  have hblk : ∀ o x g' a bs, h' o = some x → φ o = some (g', some (a, bs)) → a.block < w.heap.size := by
    intro o x g' a bs ho hp
    cases x with
    | rows mt g sz rs =>
      obtain ⟨A, hA, hc⟩ := hH'.obj _ _ _ _ _ ho
      rw [hp] at hA
      simp only [Option.some.injEq, Prod.mk.injEq] at hA
      obtain ⟨rfl, rfl⟩ := hA
      rcases hc with ⟨h, _⟩ | ⟨a', bs', C, T, h, _, _, h2, _⟩
      · cases h
      · simp only [Option.some.injEq, Prod.mk.injEq] at h
        obtain ⟨rfl, rfl⟩ := h
        exact (Array.getElem?_eq_some_iff.1 h2).1
  -- a block of a new object is none of ours
  have hfar : ∀ o0 mt g sz rs g' a bs o' y g1 a' b', mkH H0 o0 = some (.rows mt g sz rs) → φ2 o0 = some (g', some (a, bs)) → h' o' = some y → φ o' = some (g1, some (a', b')) →
      (mt = true ∨ ∃ g sz rs, y = .rows true g sz rs) → a.block ≠ a'.block := by
    intro o0 mt g sz rs g' a bs o' y g1 a' b' q1 q2 q3 q4 hm
    have hb' := hblk _ _ _ _ _ q3 q4
    rcases hm with rfl | ⟨g2, sz2, rs2, rfl⟩
    · have := hnew a.block ⟨o0, g, sz, rs, _, a, bs, q1, q2, rfl⟩
      omega
    · intro he
      obtain ⟨A, hA, hc⟩ := hH3.obj _ _ _ _ _ q1
      rw [q2] at hA
      simp only [Option.some.injEq, Prod.mk.injEq] at hA
      obtain ⟨_, rfl⟩ := hA
      rcases hc with ⟨h, _⟩ | ⟨a1, bs1, C, T, h, _, hn0, _⟩
      · cases h
      · simp only [Option.some.injEq, Prod.mk.injEq] at h
        obtain ⟨rfl, rfl⟩ := h
        exact hn0 (.inr ⟨o', g2, sz2, rs2, _, a', b', q3, q4, he.symm⟩)
  refine ⟨v, φ3, R, over HH h', n + k2, rfl, hk, ⟨fun k hk => Nat.lt_of_lt_of_le (hH.m0 k hk) st.fr.size, fun o ho => ?_, fun o mt g sz rs ho => ?_, fun o o' mt g sz rs mt' g' sz' rs' a a' b b' ho ho' hne hm hp hp' => ?_⟩,
    hR.rel e3 hsub hx3, st0.trans ⟨hle3, hsub', ⟨st.fr.os, st.fr.tape, st.fr.output, st.fr.size, fun k hk _ => hheap k hk⟩, fun k hk => (hmut k hk).elim (fun h => .inr (hnew k h)) .inl⟩⟩
  · obtain ⟨d, rfl⟩ := Nat.exists_eq_add_of_le (show n ≤ o by omega)
    rw [e3]; exact hH3.fresh d (by omega)
  · rcases hsrc o _ ho with ⟨o0, x, rfl, h1, h2⟩ | ⟨h1, h2⟩
    · cases h2 with
      | rows hs =>
        obtain ⟨A, hA, hc⟩ := hH3.obj _ _ _ _ _ h1
        refine ⟨A, by rw [e3]; exact hA, hc.imp (fun h => ⟨h.1, ?_⟩) ?_⟩
        · obtain ⟨_, rfl⟩ := h
          exact List.eq_nil_of_length_eq_zero hs.shape.1
        · rintro ⟨a, bs, C, T, c1, c2, c3, c4, c5, c6, c7, c8, c9⟩
          refine ⟨a, bs, C, T, c1, c2, fun hk => c3 (.inl hk), c4, c5, hs.shape.2 sz c6, by rw [hs.shape.1]; exact c7, by rw [hs.shape.1]; exact c8, ?_⟩
          rw [hs.shape.1]
          exact hs.rel e3 hsub c9
    · obtain ⟨A, hA, hc⟩ := hH'.obj _ _ _ _ _ h2
      refine ⟨A, by rw [e3' o h1]; exact hA, hc.imp id ?_⟩
      rintro ⟨a, bs, C, T, c1, c2, c3, c4, c5, c6, c7, c8, c9⟩
      refine ⟨a, bs, C, T, c1, c2, c3, ?_, c5, c6, c7, c8, c9.keep hle3 (fun k _ hk => hheap k hk) hsub'⟩
      rw [hheap _ (Array.getElem?_eq_some_iff.1 c4).1]; exact c4
  · rcases hsrc o _ ho with ⟨o0, x, rfl, q1, q2⟩ | ⟨q1, q2⟩ <;> rcases hsrc o' _ ho' with ⟨o0', x', rfl, q1', q2'⟩ | ⟨q1', q2'⟩
    · cases q2; cases q2'
      rw [e3] at hp hp'
      exact hH3.inj _ _ _ _ _ _ _ _ _ _ _ _ _ _ q1 q1' (by omega) hm hp hp'
    · cases q2
      rw [e3] at hp; rw [e3' o' q1'] at hp'
      exact hfar _ _ _ _ _ _ _ _ _ _ _ _ _ q1 hp q2' hp' (hm.imp id fun h => by subst h; exact ⟨_, _, _, rfl⟩)
    · cases q2'
      rw [e3' o q1] at hp; rw [e3] at hp'
      exact Ne.symm (hfar _ _ _ _ _ _ _ _ _ _ _ _ _ q1' hp' q2 hp (hm.symm.imp id fun h => by subst h; exact ⟨_, _, _, rfl⟩))
    · rw [e3' o q1] at hp; rw [e3' o' q1'] at hp'
      exact hH'.inj _ _ _ _ _ _ _ _ _ _ _ _ _ _ q2 q2' hne hm hp hp'

/-- values that hold no frozen memory -/
inductive NoFz : AV → Prop
  | top : NoFz .top
  | v (x : Value) : NoFz (.v x)
  | ref (o g sz i off : Nat) : NoFz (.ref o g sz i off)
  | sl (o g sz i len : Nat) : NoFz (.sl o g sz i len)
  | agg {xs : List AV} (h : ∀ x ∈ xs, NoFz x) : NoFz (.agg xs)
  | tup {xs : List AV} (h : ∀ x ∈ xs, NoFz x) : NoFz (.tup xs)
  | fn {f : Fn} {a b : List AV} (h : ∀ x ∈ a, NoFz x) (h' : ∀ x ∈ b, NoFz x) : NoFz (.fn f a b)
theorem NoFz.rel {x : AV} (hf : NoFz x) {φ : Place} {w : World} {M M' : Nat → Prop} : ∀ {v : Value}, Rel φ w M x v → Rel φ w M' x v := by
  have hL : ∀ {xs : List AV}, (∀ x ∈ xs, ∀ {v : Value}, Rel φ w M x v → Rel φ w M' x v) → ∀ {vs : List Value}, RelL φ w M xs vs → RelL φ w M' xs vs := by
    intro xs
    induction xs with
    | nil => intro _ vs h; cases h; exact .nil
    | cons x xs ih => intro h vs hr; cases hr with | cons a b => exact .cons (h x (by simp) a) (ih (fun y hy => h y (by simp [hy])) b)
  induction hf with
  | top => intro v _; exact .top _
  | v x => intro v h; cases h; exact .v _
  | ref => intro v h; cases h with | ref a b c => exact .ref a b c
  | sl => intro v h; cases h with | sl a b c => exact .sl a b c
  | agg _ ih => intro v h; cases h with | agg a b => exact .agg a (hL ih b)
  | tup _ ih => intro v h; cases h with | tup b => exact .tup (hL ih b)
  | fn _ _ ih1 ih2 => intro v h; cases h with | fn a b => exact .fn (hL ih1 a) (hL ih2 b)
theorem NoFz.relL {φ : Place} {w : World} {M M' : Nat → Prop} : ∀ {xs : List AV}, (∀ x ∈ xs, NoFz x) → ∀ {vs : List Value}, RelL φ w M xs vs → RelL φ w M' xs vs
  | [], _, _, h => by cases h; exact .nil
  | x :: xs, h, _, hr => by cases hr with | cons a b => exact .cons ((h x (by simp)).rel a) (NoFz.relL (fun y hy => h y (by simp [hy])) b)
def NoFzO : AObj → Prop
  | .rows mt _ _ rs => mt = true ∧ ∀ r ∈ rs, ∀ x ∈ r, NoFz x
theorem HRelF.widen {φ : Place} {F : Nat → Prop} {w' : World} {M0 M1 : Nat → Prop} {H : Heap} {N : Nat} (hH : HRelF φ F w' M0 H) (hO : ∀ o x, H o = some x → NoFzO x) (hnew : ∀ k, Mut φ H k → N ≤ k) (hM : ∀ k, M1 k → k < N) (hN : N ≤ w'.heap.size) :
    HRelF φ F w' (Or M0 M1) H := by
  refine ⟨fun k hk => hk.elim (hH.m0 k) fun h => Nat.lt_of_lt_of_le (hM k h) hN, hH.fresh, fun o mt g sz rs ho => ?_, hH.inj⟩
  obtain ⟨A, hA, hc⟩ := hH.obj _ _ _ _ _ ho
  refine ⟨A, hA, hc.imp id ?_⟩
  obtain ⟨hmt, hnf⟩ := hO _ _ ho
  rintro ⟨a, bs, C, T, c1, c2, c3, c4, c5, c6, c7, c8, c9⟩
  refine ⟨a, bs, C, T, c1, c2, fun hk => hk.elim c3 fun h => ?_, c4, c5, c6, c7, c8, NoFz.relL (fun x hx => ?_) c9⟩
  · have h1 := hnew a.block ⟨o, g, sz, rs, g, a, bs, by rw [← hmt]; exact ho, by rw [hA, c1], rfl⟩
    have h2 := hM _ h
    omega
  · obtain ⟨r, hr, hx⟩ := List.mem_flatten.1 hx
    exact hnf r hr x hx
/-- A CALL THAT GIVES NEW OBJECTS, which hold none of what it was given: that stays as it was. -/
theorem ACallP.frameN {P : Program} {f : FuncId} {args args' : List AV} {h : Heap} {n k2 : Nat} {K K' : CallK} {R0 R : AV} {H0 HH : List (Nat × AObj)} (hp : ACallP P f args' noH 0 K')
    (hk' : ∀ r h1 n', K' r h1 n' → Wk (fun _ => r) h1 n' [(0, R0)] H0 k2) (hR : Sh n R0 R) (hHH : ShH n H0 HH) (hnR : NoFz R0) (hnH : ∀ p ∈ H0, NoFzO p.2) (hle : LeRow h noH n args args') (hb : ∀ c ∈ args', Bel 0 c)
    (hk : K R (over HH h) (n + k2)) : ACallP P f args h n K := by
  refine ⟨hp.1, fun M0 φ w vs hH hargs => ?_⟩
  have hv := view_args (h' := noH) hH (fun o g sz rs ho => by cases ho) hle hb hargs
  have hM1 : ∀ k, Or M0 (Mut noP noH) k → M0 k := fun k hk => hk.elim id fun h => (not_mut_noH h).elim
  have hM2 : ∀ k, Or M0 (Mut φ noH) k → M0 k := fun k hk => hk.elim id fun h => (not_mut_noH h).elim
  have hH1 : HRel noP 0 w M0 noH := hrel_noH fun k hk => hH.m0 k hk
  refine (hp.2 _ noP w vs hH1 (hv.keep noP.le_refl (fun _ _ _ => rfl) (fun k hk => .inl (.inl (hM1 k hk))))).mono ?_
  rintro e w' ⟨v, φ1, r, h1, n', rfl, hK, hH2, hx, st⟩
  obtain ⟨φ2, hH3, hx3, hm3, _⟩ := (hk' _ _ _ hK).sound hH2 (tmps := fun _ => v) (fun _ => hx)
  have hnw : ∀ k, Mut φ2 (mkH H0) k → w.heap.size ≤ k := fun k hk => (st.mutd k (hm3 k hk)).elim (fun h => (not_mut_noH h).elim) id
  have hold : ∀ k, Mut φ h k → k < w.heap.size := fun k hk => hH.blk (.inr hk)
  replace hH3 : HRel φ2 k2 w' (Or M0 (Mut φ h)) (mkH H0) := hH3.widen (N := w.heap.size) (fun o x ho => hnH _ (mkH_mem ho)) hnw hold st.fr.size
  have hmt : ∀ o g sz rs, h o = some (.rows true g sz rs) → h o = some (.rows true g sz rs) := fun _ _ _ _ h => h
  have hH' := hH
  have st0 : Step φ w M0 h φ w h := ⟨φ.le_refl, fun k hk => .inl hk, Fr.refl _ _, fun k hk => .inl hk⟩
  replace hx3 : ∀ i, Rel φ2 w' (Or (Or M0 (Mut φ h)) (Mut φ2 (mkH H0))) (mkE [(0, R0)] i) v := fun i => by
    have := hx3 i
    simp only [mkE, upd] at this ⊢
    split
    · rename_i hi
      rw [if_pos hi] at this
      exact hnR.rel this
    · exact .top _
  have hx3 := hx3 0
  simp only [mkE, upd_same] at hx3
  have hheap : ∀ k, k < w.heap.size → w'.heap[k]? = w.heap[k]? := fun k hk => st.fr.block k hk not_mut_noH
  let φ3 : Place := fun o => if o < n then φ o else φ2 (o - n)
  have e3 : ∀ o, φ3 (n + o) = φ2 o := fun o => by simp only [φ3]; rw [if_neg (by omega)]; congr 1; omega
  have e3' : ∀ o, o < n → φ3 o = φ o := fun o ho => if_pos ho
  have hlt : ∀ o x, φ o = some x → o < n := fun o x ho => Nat.lt_of_not_le fun hle => by rw [hH.fresh o hle] at ho; cases ho
  have hle3 : φ.le φ3 := fun o x ho => ⟨x, by rw [e3' o (hlt o x ho)]; exact ho, Nat.le_refl _, fun _ => rfl⟩
  -- where an object comes from
  have hsrc : ∀ o y, over HH h o = some y → (∃ o0 x, o = n + o0 ∧ mkH H0 o0 = some x ∧ ShO n x y) ∨ (o < n ∧ h o = some y) := by
    intro o x ho
    rw [over_eq] at ho
    split at ho
    · rename_i y hy
      cases ho
      exact .inl (hHH.at hy)
    · cases x with
      | rows mt g sz rs =>
        obtain ⟨A, hA, _⟩ := hH'.obj _ _ _ _ _ ho
        exact .inr ⟨hlt _ _ hA, ho⟩
  have hmut : ∀ k, Mut φ3 (over HH h) k → Mut φ2 (mkH H0) k ∨ Mut φ h k := by
    rintro k ⟨o, g, sz, rs, g', a, bs, ho, hp, rfl⟩
    rcases hsrc o _ ho with ⟨o0, x, rfl, h1, h2⟩ | ⟨h1, h2⟩
    · cases h2 with
      | rows h2 => rw [e3] at hp; exact .inl ⟨o0, g, sz, _, g', a, bs, h1, hp, rfl⟩
    · rw [e3' o h1] at hp; exact .inr ⟨o, g, sz, rs, g', a, bs, h2, hp, rfl⟩
  have hnew : ∀ k, Mut φ2 (mkH H0) k → w.heap.size ≤ k := fun k hk => (st.mutd k (hm3 k hk)).elim (fun h => (not_mut_noH h).elim) id
  have hsub : ∀ k, Or M0 (Mut φ3 (over HH h)) k → Or (Or M0 (Mut φ h)) (Mut φ2 (mkH H0)) k := fun k hk => hk.elim (fun h => .inl (.inl h)) fun h => (hmut k h).elim .inr fun h => .inl (.inr h)
  have hsub' : ∀ k, Or M0 (Mut φ3 (over HH h)) k → Or M0 (Mut φ h) k ∨ w.heap.size ≤ k := fun k hk => hk.elim (fun h => .inl (.inl h)) fun h => (hmut k h).elim (fun h => .inr (hnew k h)) fun h => .inl (.inr h)
  have hblk : ∀ o x g' a bs, h o = some x → φ o = some (g', some (a, bs)) → a.block < w.heap.size := by
    intro o x g' a bs ho hp
    cases x with
    | rows mt g sz rs =>
      obtain ⟨A, hA, hc⟩ := hH'.obj _ _ _ _ _ ho
      rw [hp] at hA
      simp only [Option.some.injEq, Prod.mk.injEq] at hA
      obtain ⟨rfl, rfl⟩ := hA
      rcases hc with ⟨h, _⟩ | ⟨a', bs', C, T, h, _, _, h2, _⟩
      · cases h
      · simp only [Option.some.injEq, Prod.mk.injEq] at h
        obtain ⟨rfl, rfl⟩ := h
        exact (Array.getElem?_eq_some_iff.1 h2).1
  -- a block of a new object is none of ours
  have hfar : ∀ o0 mt g sz rs g' a bs o' y g1 a' b', mkH H0 o0 = some (.rows mt g sz rs) → φ2 o0 = some (g', some (a, bs)) → h o' = some y → φ o' = some (g1, some (a', b')) →
      (mt = true ∨ ∃ g sz rs, y = .rows true g sz rs) → a.block ≠ a'.block := by
    intro o0 mt g sz rs g' a bs o' y g1 a' b' q1 q2 q3 q4 hm
    have hb' := hblk _ _ _ _ _ q3 q4
    rcases hm with rfl | ⟨g2, sz2, rs2, rfl⟩
    · have := hnew a.block ⟨o0, g, sz, rs, _, a, bs, q1, q2, rfl⟩
      omega
    · intro he
      obtain ⟨A, hA, hc⟩ := hH3.obj _ _ _ _ _ q1
      rw [q2] at hA
      simp only [Option.some.injEq, Prod.mk.injEq] at hA
      obtain ⟨_, rfl⟩ := hA
      rcases hc with ⟨h, _⟩ | ⟨a1, bs1, C, T, h, _, hn0, _⟩
      · cases h
      · simp only [Option.some.injEq, Prod.mk.injEq] at h
        obtain ⟨rfl, rfl⟩ := h
        exact hn0 (.inr ⟨o', g2, sz2, rs2, _, a', b', q3, q4, he.symm⟩)
  refine ⟨v, φ3, R, over HH h, n + k2, rfl, hk, ⟨fun k hk => Nat.lt_of_lt_of_le (hH.m0 k hk) st.fr.size, fun o ho => ?_, fun o mt g sz rs ho => ?_, fun o o' mt g sz rs mt' g' sz' rs' a a' b b' ho ho' hne hm hp hp' => ?_⟩,
    hR.rel e3 hsub hx3, st0.trans ⟨hle3, hsub', ⟨st.fr.os, st.fr.tape, st.fr.output, st.fr.size, fun k hk _ => hheap k hk⟩, fun k hk => (hmut k hk).elim (fun h => .inr (hnew k h)) .inl⟩⟩
  · obtain ⟨d, rfl⟩ := Nat.exists_eq_add_of_le (show n ≤ o by omega)
    rw [e3]; exact hH3.fresh d (by omega)
  · rcases hsrc o _ ho with ⟨o0, x, rfl, h1, h2⟩ | ⟨h1, h2⟩
    · cases h2 with
      | rows hs =>
        obtain ⟨A, hA, hc⟩ := hH3.obj _ _ _ _ _ h1
        refine ⟨A, by rw [e3]; exact hA, hc.imp (fun h => ⟨h.1, ?_⟩) ?_⟩
        · obtain ⟨_, rfl⟩ := h
          exact List.eq_nil_of_length_eq_zero hs.shape.1
        · rintro ⟨a, bs, C, T, c1, c2, c3, c4, c5, c6, c7, c8, c9⟩
          refine ⟨a, bs, C, T, c1, c2, fun hk => c3 (.inl hk), c4, c5, hs.shape.2 sz c6, by rw [hs.shape.1]; exact c7, by rw [hs.shape.1]; exact c8, ?_⟩
          rw [hs.shape.1]
          exact hs.rel e3 hsub c9
    · obtain ⟨A, hA, hc⟩ := hH'.obj _ _ _ _ _ h2
      refine ⟨A, by rw [e3' o h1]; exact hA, hc.imp id ?_⟩
      rintro ⟨a, bs, C, T, c1, c2, c3, c4, c5, c6, c7, c8, c9⟩
      refine ⟨a, bs, C, T, c1, c2, c3, ?_, c5, c6, c7, c8, c9.keep hle3 (fun k _ hk => hheap k hk) hsub'⟩
      rw [hheap _ (Array.getElem?_eq_some_iff.1 c4).1]; exact c4
  · rcases hsrc o _ ho with ⟨o0, x, rfl, q1, q2⟩ | ⟨q1, q2⟩ <;> rcases hsrc o' _ ho' with ⟨o0', x', rfl, q1', q2'⟩ | ⟨q1', q2'⟩
    · cases q2; cases q2'
      rw [e3] at hp hp'
      exact hH3.inj _ _ _ _ _ _ _ _ _ _ _ _ _ _ q1 q1' (by omega) hm hp hp'
    · cases q2
      rw [e3] at hp; rw [e3' o' q1'] at hp'
      exact hfar _ _ _ _ _ _ _ _ _ _ _ _ _ q1 hp q2' hp' (hm.imp id fun h => by subst h; exact ⟨_, _, _, rfl⟩)
    · cases q2'
      rw [e3' o q1] at hp; rw [e3] at hp'
      exact Ne.symm (hfar _ _ _ _ _ _ _ _ _ _ _ _ _ q1' hp' q2 hp (hm.symm.imp id fun h => by subst h; exact ⟨_, _, _, rfl⟩))
    · rw [e3' o q1] at hp; rw [e3' o' q1'] at hp'
      exact hH'.inj _ _ _ _ _ _ _ _ _ _ _ _ _ _ q2 q2' hne hm hp hp'

/-- f, called at these arguments, gives R and the new objects HH: k ids. -/
def Owns (P : Program) (f : FuncId) (args : List AV) (R : Nat → AV) (HH : Nat → List (Nat × AObj)) (k : Nat) : Prop :=
  ACallP P f args noH 0 (fun r h n' => Wk (fun _ => r) h n' [(0, R 0)] (HH 0) k) ∧ ∀ n, Sh n (R 0) (R n) ∧ ShH n (HH 0) (HH n)
theorem ACallP.owns {P : Program} {f : FuncId} {args args' : List AV} {h : Heap} {n : Nat} {K : CallK} {R : Nat → AV} {HH : Nat → List (Nat × AObj)} {k : Nat} (h' : Heap) (hp : Owns P f args' R HH k)
    (hfz : Frz h h') (hle : LeRow h h' n args args') (hb : ∀ c ∈ args', Bel 0 c) (hk : K (R n) (over (HH n) h') (n + k)) : ACallP P f args h n K :=
  ACallP.frame h' hp.1 (fun _ _ _ h => h) (hp.2 n).1 (hp.2 n).2 hfz hle hb hk
/-- such a function's result as data -/
theorem Owns.pure {P : Program} {f : FuncId} {args : List AV} {R : Nat → AV} {HH : Nat → List (Nat × AObj)} {k : Nat} {r : AV} (hp : Owns P f args R HH k) (hle : LeV (mkH (HH 0)) noH k (R 0) r) (hb : Bel 0 r) : Pure P f args r := by
  refine ⟨hp.1.1, fun M w vs hM hargs => (hp.1.2 M noP w vs (hrel_noH hM) (hargs.keep noP.le_refl (fun _ _ _ => rfl) (fun k hk => hk.elim .inl fun h => (not_mut_noH h).elim))).mono ?_⟩
  rintro e w' ⟨v, φ', r', h', n', rfl, hk, hH, hx, st⟩
  obtain ⟨φ1, g1, g2, _, _⟩ := hk.sound hH (tmps := fun _ => v) (fun _ => hx)
  have g2 := g2 0
  simp only [mkE, upd_same] at g2
  have hk2 : Wk (fun _ => R 0) (mkH (HH 0)) k [(0, r)] [] 0 := ⟨fun p hp => by simp at hp; subst hp; exact ⟨hle, hb⟩, fun p hp => by cases hp⟩
  obtain ⟨φ'', h1, h2, h3, _⟩ := hk2.sound g1 (tmps := fun _ => v) (fun _ => g2)
  refine ⟨v, rfl, ?_, ?_⟩
  · have := h2 0
    simp only [mkE, upd_same] at this
    refine this.keep (fun o x ho => ?_) (fun _ _ _ => rfl) (fun k hk => .inl (.inl hk))
    rw [h1.fresh o (Nat.zero_le _)] at ho; cases ho
  · exact ⟨st.fr.os, st.fr.tape, st.fr.output, st.fr.size, fun k hk _ => st.fr.block k hk not_mut_noH⟩
/-- .. where nothing of ours is among the arguments. -/
theorem ACallP.ownsPlain {P : Program} {f : FuncId} {args : List AV} {h : Heap} {n : Nat} {K : CallK} {R : Nat → AV} {HH : Nat → List (Nat × AObj)} {k : Nat} (hp : Owns P f args R HH k)
    (hb : ∀ c ∈ args, Bel 0 c) (hk : K (R n) (over (HH n) h) (n + k)) : ACallP P f args h n K :=
  ACallP.owns h hp (.refl h) (.refl _ _ _ _) hb hk
/-- a slice as an argument: if it has no elements, it is nil, or it is not -/
theorem ACallP.emp {P : Program} {f : FuncId} {sz : Nat} {rows : List (List AV)} {xs : List AV} {h : Heap} {n : Nat} {K : CallK} (h1 : rows ≠ [] → ACallP P f (.lst sz rows :: xs) h n K)
    (h2 : rows = [] → ∀ A c, ACallP P f (.v (.slice A 0 c) :: xs) h n K) : ACallP P f (.lst sz rows :: xs) h n K := by
  by_cases hr : rows = []
  · refine ⟨(h2 hr none 0).1, fun M0 φ w vs hH hargs => ?_⟩
    cases hargs with
    | cons hx ht =>
      cases hx with
      | nil _ A c => exact (h2 hr A c).2 M0 φ w _ hH (.cons (.v _) ht)
      | @lst _ _ a len cap C T fz hs hM hb hrr hl hc hcap hv h =>
        have : len = 0 := by rw [hl, hr]; rfl
        subst this
        exact (h2 hr (some a) cap).2 M0 φ w _ hH (.cons (.v _) ht)
  · exact h1 hr
end Go.Av
