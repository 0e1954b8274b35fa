/- Texts of ours, part 5: our library and contracts of functions. -/
import Derived.Test.YtkahkcakggflaaaGreatDoorB04
import Derived.Scope
import Derived.RangeFuncLeaves
import Derived.RangeFuncRecord
set_option linter.unusedSimpArgs false
set_option linter.unusedVariables false
set_option maxRecDepth 100000
set_option maxHeartbeats 40000000
section
/- Our library, part 13: code is sound. -/
namespace Go.Av
open Go

theorem stepR_scope {P : Program} {b : Frame} {a : Act} {k : List Item} {cs : List Frame} {w : World} {c : Code} : step P (lone (b.atR a (.code (.scope c) :: k)) cs w) = .next (lone (b.atR a (.code c :: .inScope c :: k)) cs w) :=
 step_lone_go (by simp [stepG, stepG.exec, Frame.atR])
theorem stepR_inScope {P : Program} {b : Frame} {a : Act} {k : List Item} {cs : List Frame} {w : World} {c : Code} : step P (lone (b.atR a (.inScope c :: k)) cs w) = .next (lone (b.atR a k) cs w) :=
 step_lone_go (by simp [stepG, stepG.exec, Frame.atR])
theorem wpIn_scope {F : Fence} {n : Nat} {P : Program} {c : Code} {Q : Exit → Act → World → Prop} {a : Act} {w : World} (h : c.wpIn F n P (Exit.noGoto Q) a w) : (Code.scope c).wpIn F n P Q a w := by
 intro b k cs hro hb hr
 have h0 : (lone (b.atR a (.code (.scope c) :: k)) cs w).fenced P F := fenced_calm hb hr rfl
 obtain ⟨e, a₁, w₁, hq, harr⟩ := h b (.inScope c :: k) cs hro hb hr
 cases e with
 | normal => exact ⟨.normal, a₁, w₁, hq, .head h0 stepR_scope (StepsIn.trans harr (.one (fenced_calm hb hr rfl) stepR_inScope))⟩
 | exit id =>
  have hx : exitTo id (.inScope c :: k) = exitTo id k := by simp [exitTo]
  exact ⟨.exit id, a₁, w₁, hq, fun k' hk => .head h0 stepR_scope (harr.1 k' (by rw [hx]; exact hk)),
   fun hr' hk => let ⟨k₁, h1, h2⟩ := harr.2 hr' (by rw [hx]; exact hk); ⟨k₁, h1, .head h0 stepR_scope h2⟩⟩
 | goto l => exact hq.elim
 | ret => exact ⟨_, a₁, w₁, hq, .of_steps (.one h0 stepR_scope) harr⟩
 | panic ch => exact ⟨_, a₁, w₁, hq, .of_steps (.one h0 stepR_scope) harr⟩
 | outgrown => exact ⟨_, a₁, w₁, hq, .of_steps (.one h0 stepR_scope) harr⟩
theorem awp_sound {P : Program} (hmix : P.follows .mixedOrders = true) {N : Nat} : ∀ {c : Code} {B : Base P} {m : Nat} {Q : Post}, dstB N c = true → ∀ {M : Nat → Prop} {φ : Place} {e : Env} {h : Heap} {n : Nat} {a : Act} {w : World},
  SR B N M φ e h n a w → awp P B.n0 c Q e h n → c.wpIn (WF B.round) m P (SQ B N Q) a w := by
 intro c
 induction c with
 | skip => intro B m Q _ M φ e h n a w hs hh; exact wpIn_skip ⟨M, φ, e, h, n, hs, hh⟩
 | label l => intro B m Q _ M φ e h n a w hs hh; exact wpIn_label ⟨M, φ, e, h, n, hs, hh⟩
 | region id ops draw =>
  intro B m Q hd M φ e h n a w hs hh
  cases draw with
  | false =>
   refine wpIn_region ?_
   rw [List.range_eq_range']
   refine aops_sound (fun o ho => ?_) ops.size 0 (by omega) hs hh
   simp only [dstB, List.all_eq_true] at hd
   have := hd o ho
   split at this <;> simp_all
  | true =>
   obtain ⟨h', hfz, hh⟩ := hh
   obtain ⟨hH', st0⟩ := hs.heap.freeze hfz
   refine adraw_sound hmix (fun o ho => ?_) (hs.put (dst := none) trivial (.top undef) hH' st0) hh
   simp only [dstB, List.all_eq_true] at hd
   have := hd o ho
   split at this <;> simp_all
 | seq x y ihx ihy =>
  intro B m Q hd M φ e h n a w hs hh
  simp only [dstB, Bool.and_eq_true] at hd
  refine wpIn_seq (wpIn_mono (ihx hd.1 hs hh) ?_)
  rintro ex a' w' ⟨M', φ', e', h', n', hs', hq⟩
  cases ex with
  | normal => exact ihy hd.2 hs' hq
  | _ => exact ⟨M', φ', e', h', n', hs', hq⟩
 | cond o x y ihx ihy =>
  intro B m Q hd M φ e h n a w hs hh
  simp only [dstB, Bool.and_eq_true] at hd
  unfold awp at hh
  split at hh
  ·rename_i t ht
   have hr := rel_ev hs.heap.glob hs.env o
   rw [ht] at hr
   generalize hq : a.eval o = q at hr
   cases hr
   cases t with
   | true => exact wpIn_cond hq (ihx hd.1 hs (hh.1 rfl))
   | false => exact wpIn_cond hq (ihy hd.2 hs (hh.2 rfl))
  ·exact hh.elim
 | block id x ih =>
  intro B m Q hd M φ e h n a w hs hh
  refine wpIn_block (wpIn_mono (ih hd hs hh) ?_)
  rintro ex a' w' ⟨M', φ', e', h', n', hs', hq⟩
  cases ex with
  | exit id' =>
   simp only [QBlock] at hq
   simp only [Exit.inBlock]
   split at hq
   ·rename_i e0; rw [if_pos e0]; exact ⟨M', φ', e', h', n', hs', hq⟩
   ·rename_i e0; rw [if_neg e0]; exact ⟨M', φ', e', h', n', hs', hq⟩
  | _ => exact ⟨M', φ', e', h', n', hs', hq⟩
 | scope x ih =>
  intro B m Q hd M φ e h n a w hs hh
  refine wpIn_scope (wpIn_mono (ih hd hs hh) ?_)
  rintro ex a' w' ⟨M', φ', e', h', n', hs', hq⟩
  cases ex with
  | goto l => exact hq.elim
  | _ => exact ⟨M', φ', e', h', n', hs', hq⟩
 | loop x ih =>
  intro B m Q hd M φ e h n a w hs hh b k cs hro hb hr
  have key := hh (fun e h n => ∀ M φ a w, SR B N M φ e h n a w →
   ∃ ex a' w', SQ B N Q ex a' w' ∧ ArrivesIn (Machine.fenced P (WF B.round)) P (lone (b.atR a (.code x :: .inLoop x :: k)) cs w) b k cs ex a' w') ?_ ?_ M φ a w hs
  ·obtain ⟨ex, a', w', hq, harr⟩ := key
   exact ⟨ex, a', w', hq, .of_steps (.one (fenced_calm hb hr rfl) stepR_loop) harr⟩
  ·intro e h n hB M φ a w hs
   obtain ⟨ex, a₁, w₁, ⟨M', φ', e', h', n', hs', hq⟩, harr⟩ := ih hd hs hB b (.inLoop x :: k) cs hro hb hr
   cases ex with
   | normal =>
    obtain ⟨ex, a₂, w₂, hq₂, harr₂⟩ := hq M' φ' a₁ w₁ hs'
    exact ⟨ex, a₂, w₂, hq₂, .of_steps (StepsIn.trans harr (.one (fenced_calm (fr := b.atR a₁ (.inLoop x :: k)) hb hr rfl) stepR_inLoop)) harr₂⟩
   | exit id => exact ⟨_, a₁, w₁, ⟨M', φ', e', h', n', hs', hq⟩, .pass (x := .inLoop x) rfl (fun _ _ => .inl (by simp)) harr⟩
   | goto l => exact ⟨_, a₁, w₁, ⟨M', φ', e', h', n', hs', hq⟩, .pass (x := .inLoop x) rfl (fun _ _ => .inl (by simp)) harr⟩
   | ret => exact ⟨_, a₁, w₁, ⟨M', φ', e', h', n', hs', hq⟩, .pass (x := .inLoop x) rfl (fun _ _ => .inl (by simp)) harr⟩
   | panic ch => exact ⟨_, a₁, w₁, ⟨M', φ', e', h', n', hs', hq⟩, .pass (x := .inLoop x) rfl (fun _ _ => .inl (by simp)) harr⟩
   | outgrown => exact ⟨_, a₁, w₁, ⟨M', φ', e', h', n', hs', hq⟩, .pass (x := .inLoop x) rfl (fun _ _ => .inl (by simp)) harr⟩
  ·intro e h n E HH n' hk hn hX M φ a w hs
   obtain ⟨φ', h1, h2, h3, h4⟩ := hk.sound hs.heap hs.env
   refine hX M φ' a w ⟨h2, hs.size, hs.defs, h1, B.forget hs.ok ?_ h3 h4 hn, hs.small⟩
   rcases mkE_mem (E := E) GH with h5 | h5
   ·exact .inr h5
   ·have h6 := (hk.env _ h5).1
    simp only at h6
    generalize mkE E GH = y at h6
    rcases B.isG hs.ok with h7 | ⟨x, h7⟩
    ·rw [h7] at h6 ⊢
     cases h6 <;> simp
    ·rw [h7] at h6 ⊢
     cases h6 <;> simp
 | rangeFunc g ps x y ihx ihy =>
  intro B m Q hd M φ e h n a w hs hh
  simp only [dstB, Bool.and_eq_true, List.all_eq_true, decide_eq_true_eq] at hd
  exact rangeFunc_sound (fun hs hh => ihx hd.2.1 hs hh) (fun hs hh => ihy hd.2.2 hs hh) hd.1 hs hh
 | exit id => intro B m Q _ M φ e h n a w hs hh; exact wpIn_exit ⟨M, φ, e, h, n, hs, hh⟩
 | ret => intro B m Q _ M φ e h n a w hs hh; exact wpIn_ret ⟨M, φ, e, h, n, hs, hh⟩
 | _ => intro B m Q _ M φ e h n a w hs hh; exact hh.elim
end Go.Av
end
section
/- Our library, part 12: functions' contracts; calls of functions that only compute. -/
namespace Go.Av
open Go

theorem enters_of {P : Program} {f : FuncId} {fn : Func} {c : Code} (hf : P.funcs[f]? = some fn) (hb : fn.body = some c) (hname : (fn.name == "runtime.NumGoroutine") = false) : Enters P f := by
 intro args w
 have : ¬ fn.name = "runtime.NumGoroutine" := by simpa using hname
 simp [callFunc, hf, hb, this]

section
variable {P : Program}
theorem loadAt_ptr {t : TypeId} {v u : Value} {w w' : World} (h : (Instr.loadAt t v).run P w = .ok u w') : (do loadVar t (← asAddr v) : Sem Value).run P w = .ok u w' := by
 unfold Instr.loadAt at h
 cases v with
 | pointer a =>
  cases a with
  | some a => simpa [Instr.sureAddr, asAddr] using h
  | none => simp [Instr.sureAddr] at h
 | _ => simp [Instr.sureAddr] at h
def resF (tmps : Array Value) : ResultVar → Sem Value
 | .tmp t => pure (tmps.getD t undef)
 | .cell a t => do loadVar t (← asAddr (tmps.getD a undef))
theorem results_eq (fn : Func) (tmps : Array Value) : results fn tmps = (do let vs ← fn.results.mapM (resF tmps); pure (if h : vs.size = 1 then vs[0] else .tuple vs)) := by
 unfold results
 congr 1
theorem resL_sound {φ : Place} {n : Nat} {w : World} {M0 : Nat → Prop} {h : Heap} (hH : HRel φ n w M0 h) {e : Env} {tmps : Array Value} (he : ∀ t, Rel φ w (Or M0 (Mut φ h)) (e t) (tmps.getD t undef)) :
  ∀ (rs : List ResultVar), (resL P e h rs).1 → ∃ vs, (rs.mapM (resF tmps)).run P w = .ok vs w ∧ RelL φ w (Or M0 (Mut φ h)) (resL P e h rs).2 vs
 | [], _ => ⟨[], by simp, .nil⟩
 | .tmp t :: rs, hc => by
  obtain ⟨vs, h1, h2⟩ := resL_sound hH he rs hc
  refine ⟨tmps.getD t undef :: vs, ?_, .cons (he t) h2⟩
  simp only [List.mapM_cons, resF, Sem.run_bind, Sem.run_pure, Result.andThen_ok, h1]
 | .cell a t :: rs, hc => by
  obtain ⟨hc1, hc2⟩ := hc
  obtain ⟨vs, h1, h2⟩ := resL_sound hH he rs hc2
  obtain ⟨u, h3, h4, _, _⟩ := load_reads (P := P) (t := t) hH (he a) hc1
  refine ⟨u :: vs, ?_, .cons h4 h2⟩
  have h5 := loadAt_ptr h3
  simp only [Sem.run_bind] at h5
  simp only [List.mapM_cons, resF, Sem.run_bind, h5, Result.andThen_ok, h1, Sem.run_pure]
theorem resV_sound {φ : Place} {w : World} {M : Nat → Prop} {xs : List AV} {vs : List Value} (h : RelL φ w M xs vs) :
  Rel φ w M (resV xs) (if h : (⟨vs⟩ : Array Value).size = 1 then (⟨vs⟩ : Array Value)[0] else .tuple ⟨vs⟩) := by
 cases h with
 | nil => exact .tup .nil
 | cons h t =>
  cases t with
  | nil => simpa [resV] using h
  | cons h' t' => simpa [resV] using Rel.tup (.cons h (.cons h' t'))

theorem argE_rel {φ : Place} {w : World} {M : Nat → Prop} : ∀ {xs : List AV} {vs : List Value} (_ : RelL φ w M xs vs) (i t : Nat), argE i xs t = .top ∨ ∃ k, t = i + k ∧ ∃ (hk : k < xs.length) (hk' : k < vs.length), argE i xs t = xs[k] ∧ Rel φ w M xs[k] vs[k]
 | [], _, _, i, t => .inl rfl
 | x :: xs, _, .cons h ht, i, t => by
  simp only [argE, upd]
  by_cases e : t = i
  ·subst e; rw [if_pos rfl]; exact .inr ⟨0, rfl, by simp, by simp, rfl, h⟩
  ·rw [if_neg e]
   rcases argE_rel ht (i + 1) t with h1 | ⟨k, rfl, hk, hk', h1, h2⟩
   ·exact .inl h1
   ·exact .inr ⟨k + 1, by omega, by simpa using hk, by simpa using hk', by simpa using h1, by simpa using h2⟩

theorem argE_top : ∀ {xs : List AV} {i t : Nat}, i + xs.length ≤ t → argE i xs t = .top
 | [], _, _, _ => rfl
 | x :: xs, i, t, h => by
  simp only [List.length_cons] at h
  simp only [argE, upd]
  rw [if_neg (by omega)]
  exact argE_top (by omega)
theorem leaves_marks {P : Program} {F : Fence} {n : Nat} {fn : Func} {tmps : Array Value} {R : Ending → World → Prop} {lo : Nat} {M : Nat → Prop} : ∀ {ds : List Deferred} {w : World}, Marks lo M ds w →
  (∀ w', NC lo w w' → ∃ v, (results fn tmps).run P w' = .ok v w' ∧ R (.returned v) w') → LeavesInM F n P fn tmps R ds .returning w
 | [], w, _, h => h w (.refl lo w)
 | d :: ds, w, hm, h => by
  obtain ⟨hp, hd⟩ := hm
  rw [List.pairwise_cons] at hp
  obtain ⟨D, e1, e0, e2, e3⟩ := hd d (by simp)
  have hnc : NC lo w (w.putObj D (.deferred none)) := .putObj _ e0 e3 (by simp) (by simp)
  refine ⟨by simp, .inl ⟨D, _, by rw [e1], run_takeDeferred e3, leaves_marks (M := M) ⟨hp.2, fun d' hd' => ?_⟩ fun w' hn => h w' (hnc.trans hn)⟩⟩
  obtain ⟨D', k1, k0, k2, k3⟩ := hd d' (by simp [hd'])
  refine ⟨D', k1, k0, k2, (World.putObj_heap_other ?_).trans k3⟩
  rintro rfl
  exact hp.1 d' hd' (e1.trans k1.symm)
def fnBase (P : Program) (φ : Place) (w : World) (M0 : Nat → Prop) (h : Heap) (n0 : Nat) (fresh : ∀ o, n0 ≤ o → φ o = none) : Base P where
 n0 := n0
 lo := w.heap.size
 round := none
 ok0 g M O φ' w' h' := g = .top ∧ M = M0 ∧ (∀ k, O k → Mut φ h k ∨ w.heap.size ≤ k) ∧ Step φ w M0 h φ' w' h'
 isG0 hk := .inl hk.1
 step0 hk st := by
  obtain ⟨h1, rfl, h2, h3⟩ := hk
  exact ⟨h1, rfl, h2, h3.trans st⟩
 forget0 := by
  rintro g g' M O φ1 w1 h1 φ2 h2 n' ⟨e1, rfl, hO, st⟩ hg h3 h4 hn
  refine ⟨by rcases hg with h | h <;> simp [h, e1], rfl, hO, ?_, fun k hk => ?_, st.fr, fun k hk => st.mutd k (h3 k hk)⟩
  ·intro o x hx
   obtain ⟨x', hx', l1, l2⟩ := st.le o x hx
   have : o < n0 := Nat.lt_of_not_le fun hle => by rw [fresh o hle] at hx; cases hx
   exact ⟨x', h4 o x' (by omega) hx', l1, l2⟩
  ·rcases hk with hk | hk
   ·exact st.or k (.inl hk)
   ·exact st.or k (.inr (h3 k hk))
 yld0 hk := by cases hk.1
 exh0 hk := by cases hk.1
 oth0 := by
  rintro g M O O' φ' w1 w2 h1 ⟨e1, rfl, hO, st⟩ hfr hO'
  have hs := st.fr.size
  exact ⟨e1, rfl, fun k hk => (hO' k hk).elim (hO k) (fun h => .inr (by omega)), st.le, st.or,
   ⟨hfr.os.trans st.fr.os, hfr.tape.trans st.fr.tape, hfr.output.trans st.fr.output, Nat.le_trans st.fr.drawn hfr.drawn, Nat.le_trans hs hfr.size, fun k hk hu => (hfr.block k (by omega) (fun h => (hO k h).elim hu (fun h => by omega))).trans (st.fr.block k hk hu)⟩, st.mutd⟩
 give0 := by
  rintro g M O O' φ' w1 h1 h2 ⟨e1, rfl, hO, st⟩ hO' hm
  refine ⟨e1, rfl, fun k hk => (hO' k hk).elim (hO k) (st.mutd k), st.le, fun k hk => hk.elim (fun h => .inl (.inl h)) (fun h => st.or k (.inr (hm k h))), st.fr, fun k hk => st.mutd k (hm k hk)⟩
 nc0 := by
  rintro g M O φ' w1 w2 h1 ⟨e1, rfl, hO, st⟩ hn
  exact ⟨e1, rfl, hO, st.nc hn⟩
 lo0 hk := hk.2.2.2.fr.size
 rec0 _ h := by cases h
theorem ACallP.of_awp (hmix : P.follows .mixedOrders = true) {f : FuncId} {fn : Func} {c : Code} {args : List AV} {h : Heap} {n : Nat} {K : CallK} (hf : P.funcs[f]? = some fn) (hb : fn.body = some c) (hname : (fn.name == "runtime.NumGoroutine") = false)
  (hN : args.length ≤ fn.ntmps) (hd : dstB fn.ntmps c = true) (hh : awp P n c (RetQ P fn.results.toList K) (argE 0 args) h n) (hG : fn.ntmps ≤ GH := by exact Nat.le_of_ble_eq_true rfl) : ACallP P f args h n K := by
 refine ⟨enters_of hf hb hname, fun M0 φ w vs hH hargs => ?_⟩
 have hlen := hargs.length
 let B : Base P := fnBase P φ w M0 h n hH.fresh
 have hsr : SR B fn.ntmps M0 φ (argE 0 args) h n { tmps := ⟨vs⟩ ++ Array.replicate (fn.ntmps - (⟨vs⟩ : Array Value).size) undef, defers := [] } w := by
  refine ⟨fun t => ?_, by simp; omega, Marks.nil, hH, ⟨M0, fun _ => False, (or_false0 M0).symm, argE_top (by omega), rfl, fun _ h => h.elim, .refl _ _ _ _⟩, hG⟩
  rcases argE_rel hargs 0 t with h1 | ⟨k, rfl, hk, hk', h1, h2⟩
  ·rw [h1]; exact .top _
  ·rw [h1]
   have : ((⟨vs⟩ : Array Value) ++ Array.replicate (fn.ntmps - (⟨vs⟩ : Array Value).size) undef).getD (0 + k) undef = vs[k] := by
    simp [Array.getD_eq_getD_getElem?, Array.getElem?_append, hk']
   rw [this]; exact h2
 have hw := awp_sound (P := P) hmix (B := B) (N := fn.ntmps) (m := 0) hd hsr hh
 refine callsIn_wide.1 (callsIn_of_wp_marks (F := WF none) (n := 0) hf hb trivial (wpIn_mono hw ?_) rfl)
 rintro ex a' w' ⟨M, φ', e', h', n', hs', hq⟩
 have fin : (resL P e' h' fn.results.toList).1 ∧ K (resV (resL P e' h' fn.results.toList).2) h' n' → LeavesInM (WF none) 0 P fn a'.tmps (fun e w' => ∃ v_1 φ'_1 r h'_1 n'_1, e = Ending.returned v_1 ∧ K r h'_1 n'_1 ∧ HRel φ'_1 n'_1 w' M0 h'_1 ∧ Rel φ'_1 w' (Or M0 (Mut φ'_1 h'_1)) r v_1 ∧ Step φ w M0 h φ'_1 w' h'_1) a'.defers .returning w' := by
  rintro ⟨q1, q2⟩
  obtain ⟨M1, O, rfl, _, rfl, _, hst⟩ := hs'.ok
  refine leaves_marks hs'.defs fun w'' hn => ?_
  have hsub : ∀ k, Or M1 (Mut φ' h') k → Or (Or M1 O) (Mut φ' h') k := fun k hk => hk.imp .inl id
  have hHm : HRel φ' n' w' M1 h' := hs'.heap.lessM fun k hk => .inl hk
  obtain ⟨us, h1, h2⟩ := resL_sound (P := P) (hHm.nc hn) (fun t => ((hs'.env t).lessM hsub).nc hn) fn.results.toList q1
  refine ⟨_, ?_, _, φ', _, h', n', rfl, q2, hHm.nc hn, resV_sound h2, hst.nc hn⟩
  rw [results_eq, Array.mapM_eq_mapM_toList]
  simp only [Sem.run_bind, Sem.run_map, Sem.run_pure, h1, Result.andThen_ok]
 cases ex with
 | normal => exact fin hq
 | ret => exact fin hq
 | _ => exact hq.elim
end

theorem hrel_noH {w : World} {M : Nat → Prop} (hM : ∀ k, M k → k < w.heap.size) (hg : GlbOk w M) : HRel noP 0 w M noH :=
 ⟨hM, fun _ _ => rfl, (fun o mt g sz rs ho => by cases ho), (fun o o' mt g sz rs mt' g' sz' rs' a a' b b' ho => by cases ho),
  hg.keep (fun _ _ _ => rfl) (fun k hk => .inl (hk.elim id fun h => (not_mut_noH h).elim))⟩

def RetI (P : Program) (rs : List ResultVar) (l more : Nat) : Post
 | .normal, e, h, n | .ret, e, h, n => (resL P e h rs).1 ∧ ((more = 0 ∧ e GH = ghost l 0 []) ∨ e GH = ghost l 2 [])
 | _, _, _, _ => False
theorem ghost_inj {l l' m m' : Nat} {r r' : List (List AV)} (h : ghost l m r = ghost l' m' r') : l = l' ∧ m = m' ∧ r = r' := by
 simp only [ghost, AV.gd.injEq, AV.tup.injEq, List.cons.injEq, AV.v.injEq, Value.int.injEq, AV.lst.injEq, and_true, true_and] at h
 obtain ⟨h1, h2, h3⟩ := h
 exact ⟨by omega, h2, h3⟩
def itBase (P : Program) (w : World) (l more : Nat) (J : List (List AV) → NSet → NSet → World → Prop) (Jx : NSet → NSet → World → Prop)
  (hJ : ∀ rs M O O' w1 w2, J rs M O w1 → Fr w1 O w2 → (∀ k, O' k → O k ∨ w1.heap.size ≤ k) → J rs M O' w2)
  (hJx : ∀ M O O' w1 w2, Jx M O w1 → Fr w1 O w2 → (∀ k, O' k → O k ∨ w1.heap.size ≤ k) → Jx M O' w2)
  (hn : ∀ rs M O w1 w2, J rs M O w1 → NC w.heap.size w1 w2 → J rs M O w2) (hnx : ∀ M O w1 w2, Jx M O w1 → NC w.heap.size w1 w2 → Jx M O w2)
  (hr : ∀ (r : Option Nat) (m : Nat) xs rest M O w1 vs, J (xs :: rest) M O w1 → (∀ k, O k → k < w1.heap.size) → RelL noP w1 (Or M O) xs vs →
   ∃ fn tmps assign body, (Instr.yield l ⟨vs⟩).run P w1 = .ok (.round l fn tmps assign body) w1 ∧ RoundIn (WF r) m P l fn tmps assign body w1 fun e w' =>
    ∃ b M', e = .returned (.bool b) ∧ Grow M w1 M' w' ∧ if b then J rest M' O w' else Jx M' O w')
  (hm : more = 1 → ∀ M O w1, ¬ J [] M O w1) : Base P where
 n0 := 0
 lo := w.heap.size
 round := none
 ok0 g M O φ w1 h := w.heap.size ≤ w1.heap.size ∧ w1.os = w1.os ∧ ((∃ rs, g = ghost l more rs ∧ J rs M (Or O (Mut φ h)) w1) ∨ (g = ghost l 2 [] ∧ Jx M (Or O (Mut φ h)) w1) ∨ g = .top)
 isG0 := by
  rintro g M O φ w1 h ⟨_, _, ⟨rs, rfl, _⟩ | ⟨rfl, _⟩ | rfl⟩
  ·exact .inr ⟨_, rfl⟩
  ·exact .inr ⟨_, rfl⟩
  ·exact .inl rfl
 step0 := by
  rintro g M O φ w1 h φ' w2 h' ⟨h1, _, h2⟩ st
  have hfr : Fr w1 (Or O (Mut φ h)) w2 := st.fr.more fun k hk => .inr hk
  have hO : ∀ k, Or O (Mut φ' h') k → Or O (Mut φ h) k ∨ w1.heap.size ≤ k := fun k hk => hk.elim (fun h => .inl (.inl h)) fun h => (st.mutd k h).imp .inr id
  exact ⟨Nat.le_trans h1 st.fr.size, rfl, h2.imp (fun ⟨rs, e, h⟩ => ⟨rs, e, hJ _ _ _ _ _ _ h hfr hO⟩) (fun h => h.imp (fun h => ⟨h.1, hJx _ _ _ _ _ h.2 hfr hO⟩) id)⟩
 forget0 := by
  rintro g g' M O φ w1 h φ' h' n' ⟨h1, _, h2⟩ hg h3 h4 _
  have hO : ∀ k, Or O (Mut φ' h') k → Or O (Mut φ h) k ∨ w1.heap.size ≤ k := fun k hk => .inl (hk.imp id (h3 k))
  rcases hg with rfl | rfl
  ·exact ⟨h1, rfl, h2.imp (fun ⟨rs, e, h⟩ => ⟨rs, e, hJ _ _ _ _ _ _ h (Fr.refl _ _) hO⟩) (fun h => h.imp (fun h => ⟨h.1, hJx _ _ _ _ _ h.2 (Fr.refl _ _) hO⟩) id)⟩
  ·exact ⟨h1, rfl, .inr (.inr rfl)⟩
 yld0 := by
  rintro r m l' more' xs rest M O φ w1 h n vs ⟨h1, _, ⟨rs, e, h2⟩ | ⟨e, _⟩ | e⟩ hH hv
  ·obtain ⟨rfl, rfl, rfl⟩ := ghost_inj e
   obtain ⟨fn, tm, asg, body, k1, k2⟩ := hr r m xs rest M _ w1 vs h2 (fun k hk => hk.elim (fun h => hH.m0 k (.inr h)) fun h => hH.blk (.inr h)) (by rw [← or_assoc0]; exact hv)
   refine ⟨fn, tm, asg, body, k1, k2.mono ?_⟩
   rintro en w2 ⟨b, M', e1, g, hk⟩
   refine ⟨b, M', e1, g, Nat.le_trans h1 g.size, rfl, ?_⟩
   cases b with
   | true => exact .inl ⟨rest, rfl, hk⟩
   | false => exact .inr (.inl ⟨rfl, hk⟩)
  ·obtain ⟨_, _, e⟩ := ghost_inj e
   cases e
  ·cases e
 exh0 := by
  rintro l' M O φ w1 h ⟨h1, _, ⟨rs, e, h2⟩ | ⟨e, _⟩ | e⟩
  ·obtain ⟨rfl, e1, rfl⟩ := ghost_inj e
   exact hm e1.symm _ _ _ h2
  ·obtain ⟨_, e, _⟩ := ghost_inj e
   cases e
  ·cases e
 oth0 := by
  rintro g M O O' φ w1 w2 h ⟨h1, _, h2⟩ hfr hO
  have hfr' : Fr w1 (Or O (Mut φ h)) w2 := hfr.more fun k hk => .inl hk
  have hO' : ∀ k, Or O' (Mut φ h) k → Or O (Mut φ h) k ∨ w1.heap.size ≤ k := fun k hk => hk.elim (fun h => (hO k h).imp .inl id) fun h => .inl (.inr h)
  exact ⟨Nat.le_trans h1 hfr.size, rfl, h2.imp (fun ⟨rs, e, h⟩ => ⟨rs, e, hJ _ _ _ _ _ _ h hfr' hO'⟩) (fun h => h.imp (fun h => ⟨h.1, hJx _ _ _ _ _ h.2 hfr' hO'⟩) id)⟩
 nc0 := by
  rintro g M O φ w1 w2 h ⟨h1, _, h2⟩ hnc
  exact ⟨by rw [hnc.size]; exact h1, rfl, h2.imp (fun ⟨rs, e, h⟩ => ⟨rs, e, hn _ _ _ _ _ h hnc⟩) (fun h => h.imp (fun h => ⟨h.1, hnx _ _ _ _ h.2 hnc⟩) id)⟩
 give0 := by
  rintro g M O O' φ w1 h h' ⟨h1, _, h2⟩ hO' hm
  have hO : ∀ k, Or O' (Mut φ h') k → Or O (Mut φ h) k ∨ w1.heap.size ≤ k := fun k hk => .inl (hk.elim (hO' k) fun h => .inr (hm k h))
  exact ⟨h1, rfl, h2.imp (fun ⟨rs, e, h⟩ => ⟨rs, e, hJ _ _ _ _ _ _ h (Fr.refl _ _) hO⟩) (fun h => h.imp (fun h => ⟨h.1, hJx _ _ _ _ _ h.2 (Fr.refl _ _) hO⟩) id)⟩
 lo0 h := h.1
 rec0 _ h := by cases h
theorem PSeq.of_awp {P : Program} (hmix : P.follows .mixedOrders = true) {f : FuncId} {fn : Func} {c : Code} {caps : List AV} {more : Nat} {rows : List (List AV)} (hf : P.funcs[f]? = some fn) (hb : fn.body = some c) (hname : (fn.name == "runtime.NumGoroutine") = false)
  (hN : caps.length + 1 ≤ fn.ntmps) (hd : dstB fn.ntmps c = true)
  (hh : ∀ l, awp P 0 c (RetI P fn.results.toList l more) (upd (argE 0 (.fn (.yield l) [] [] :: caps)) GH (ghost l more rows)) noH 0) (hG : fn.ntmps ≤ GH := by exact Nat.le_of_ble_eq_true rfl) (hm2 : more ≠ 2 := by decide) : PSeq P f caps more rows := by
 refine ⟨enters_of hf hb hname, fun w M0 cvs l J Jx hM0 hgl hcaps hJ hJx hn hnx hr hm h0 => ?_⟩
 have hlen := hcaps.length
 let B : Base P := itBase P w l more J Jx hJ hJx hn hnx hr hm
 have hargs : RelL noP w (Or M0 (Mut noP noH)) (.fn (.yield l) [] [] :: caps) (.func (.yield l) #[] #[] :: cvs) :=
  .cons (.fn .nil .nil) (hcaps.keep noP.le_refl (fun _ _ _ => rfl) fun k hk => .inl (hk.elim id fun h => (not_mut_noH h).elim))
 have hsr : SR B fn.ntmps M0 noP (upd (argE 0 (.fn (.yield l) [] [] :: caps)) GH (ghost l more rows)) noH 0
   { tmps := ⟨.func (.yield l) #[] #[] :: cvs⟩ ++ Array.replicate (fn.ntmps - (⟨.func (.yield l) #[] #[] :: cvs⟩ : Array Value).size) undef, defers := [] } w := by
  refine ⟨fun t => ?_, by simp; omega, Marks.nil, hrel_noH hM0 hgl, ⟨M0, fun _ => False, (or_false0 M0).symm, Nat.le_refl _, rfl, .inl ⟨rows, by rw [upd_same], hJ _ _ _ _ _ _ h0 (Fr.refl _ _) fun k hk => .inl (hk.elim id fun h => (not_mut_noH h).elim)⟩⟩, hG⟩
  by_cases ht : t = GH
  ·subst ht
   rw [upd_same, Array.getD_eq_getD_getElem?, Array.getElem?_eq_none (by simp; omega)]
   exact .gd (fun h => by cases h) (fun _ => rfl)
  rw [upd_ne _ _ ht]
  rcases argE_rel hargs 0 t with h1 | ⟨k, rfl, hk, hk', h1, h2⟩
  ·rw [h1]; exact .top _
  ·rw [h1]
   have : ((⟨.func (.yield l) #[] #[] :: cvs⟩ : Array Value) ++ Array.replicate (fn.ntmps - (⟨.func (.yield l) #[] #[] :: cvs⟩ : Array Value).size) undef).getD (0 + k) undef = (Value.func (.yield l) #[] #[] :: cvs)[k] := by
    simp only [List.length_cons] at hk'
    simp [Array.getD_eq_getD_getElem?, Array.getElem?_append, hk']
   rw [this]; exact h2
 have hw := awp_sound (P := P) hmix (B := B) (N := fn.ntmps) (m := 0) hd hsr (hh l)
 refine callsIn_wide.1 (callsIn_of_wp_marks (F := WF none) (n := 0) hf hb trivial (wpIn_mono hw ?_) rfl)
 rintro ex a' w' ⟨M, φ', e', h', n', hs', hq⟩
 have fin : (resL P e' h' fn.results.toList).1 ∧ ((more = 0 ∧ e' GH = ghost l 0 []) ∨ e' GH = ghost l 2 []) →
   LeavesInM (WF none) 0 P fn a'.tmps (fun e w' => (∃ v, e = .returned v) ∧ ∃ M' O', (∀ k, O' k → k < w'.heap.size) ∧ ((more = 0 ∧ J [] M' O' w') ∨ Jx M' O' w')) a'.defers .returning w' := by
  rintro ⟨q1, q2⟩
  obtain ⟨Mc, O, rfl, _, _, hst⟩ := hs'.ok
  refine leaves_marks hs'.defs fun w'' hnc => ?_
  obtain ⟨us, h1, h2⟩ := resL_sound (P := P) (hs'.heap.nc hnc) (fun t => (hs'.env t).nc hnc) fn.results.toList q1
  refine ⟨if h : (⟨us⟩ : Array Value).size = 1 then (⟨us⟩ : Array Value)[0] else .tuple ⟨us⟩, ?_, ⟨_, rfl⟩, Mc, Or O (Mut φ' h'), fun k hk => ?_, ?_⟩
  ·rw [results_eq, Array.mapM_eq_mapM_toList]
   simp only [Sem.run_bind, Sem.run_map, Sem.run_pure, h1, Result.andThen_ok]
  ·rw [hnc.size]; exact hk.elim (fun h => hs'.heap.m0 k (.inr h)) fun h => hs'.heap.blk (.inr h)
  ·rcases hst with ⟨rs, e1, h⟩ | ⟨e1, h⟩ | e1
   ·rw [e1] at q2
    rcases q2 with ⟨e2, q2⟩ | q2
    ·obtain ⟨_, _, rfl⟩ := ghost_inj q2
     exact .inl ⟨e2, hn _ _ _ _ _ h hnc⟩
    ·obtain ⟨_, e3, rfl⟩ := ghost_inj q2
     exact absurd e3 hm2
   ·exact .inr (hnx _ _ _ _ h hnc)
   ·rw [e1] at q2
    rcases q2 with ⟨_, q2⟩ | q2 <;> cases q2
 cases ex with
 | normal => exact fin hq
 | ret => exact fin hq
 | _ => exact hq.elim

theorem PSeqO.of_awp {P : Program} (hmix : P.follows .mixedOrders = true) {f : FuncId} {fn : Func} {c : Code} {caps : List AV} {HO : List (Nat × AObj)} {k0 : Nat} {more : Nat} {rows : List (List AV)} (hf : P.funcs[f]? = some fn) (hb : fn.body = some c) (hname : (fn.name == "runtime.NumGoroutine") = false)
  (hN : caps.length + 1 ≤ fn.ntmps) (hd : dstB fn.ntmps c = true)
  (hh : ∀ l, awp P 0 c (RetI P fn.results.toList l more) (upd (argE 0 (.fn (.yield l) [] [] :: caps)) GH (ghost l more rows)) (mkH HO) k0) (hG : fn.ntmps ≤ GH := by exact Nat.le_of_ble_eq_true rfl) (hm2 : more ≠ 2 := by decide) : PSeqO P f caps HO k0 more rows := by
 refine ⟨enters_of hf hb hname, fun φ w M0 cvs l J Jx hH0 hcaps hJ hJx hn hnx hr hm h0 => ?_⟩
 have hlen := hcaps.length
 let B : Base P := itBase P w l more J Jx hJ hJx hn hnx hr hm
 have hargs : RelL φ w (Or M0 (Mut φ (mkH HO))) (.fn (.yield l) [] [] :: caps) (.func (.yield l) #[] #[] :: cvs) := .cons (.fn .nil .nil) hcaps
 have hsr : SR B fn.ntmps M0 φ (upd (argE 0 (.fn (.yield l) [] [] :: caps)) GH (ghost l more rows)) (mkH HO) k0
   { tmps := ⟨.func (.yield l) #[] #[] :: cvs⟩ ++ Array.replicate (fn.ntmps - (⟨.func (.yield l) #[] #[] :: cvs⟩ : Array Value).size) undef, defers := [] } w := by
  refine ⟨fun t => ?_, by simp; omega, Marks.nil, hH0, ⟨M0, fun _ => False, (or_false0 M0).symm, Nat.le_refl _, rfl, .inl ⟨rows, by rw [upd_same], hJ _ _ _ _ _ _ h0 (Fr.refl _ _) fun k hk => .inl (hk.elim False.elim id)⟩⟩, hG⟩
  by_cases ht : t = GH
  ·subst ht
   rw [upd_same, Array.getD_eq_getD_getElem?, Array.getElem?_eq_none (by simp; omega)]
   exact .gd (fun h => by cases h) (fun _ => rfl)
  rw [upd_ne _ _ ht]
  rcases argE_rel hargs 0 t with h1 | ⟨k, rfl, hk, hk', h1, h2⟩
  ·rw [h1]; exact .top _
  ·rw [h1]
   have : ((⟨.func (.yield l) #[] #[] :: cvs⟩ : Array Value) ++ Array.replicate (fn.ntmps - (⟨.func (.yield l) #[] #[] :: cvs⟩ : Array Value).size) undef).getD (0 + k) undef = (Value.func (.yield l) #[] #[] :: cvs)[k] := by
    simp only [List.length_cons] at hk'
    simp [Array.getD_eq_getD_getElem?, Array.getElem?_append, hk']
   rw [this]; exact h2
 have hw := awp_sound (P := P) hmix (B := B) (N := fn.ntmps) (m := 0) hd hsr (hh l)
 refine callsIn_wide.1 (callsIn_of_wp_marks (F := WF none) (n := 0) hf hb trivial (wpIn_mono hw ?_) rfl)
 rintro ex a' w' ⟨M, φ', e', h', n', hs', hq⟩
 have fin : (resL P e' h' fn.results.toList).1 ∧ ((more = 0 ∧ e' GH = ghost l 0 []) ∨ e' GH = ghost l 2 []) →
   LeavesInM (WF none) 0 P fn a'.tmps (fun e w' => (∃ v, e = .returned v) ∧ ∃ M' O', (∀ k, O' k → k < w'.heap.size) ∧ ((more = 0 ∧ J [] M' O' w') ∨ Jx M' O' w')) a'.defers .returning w' := by
  rintro ⟨q1, q2⟩
  obtain ⟨Mc, O, rfl, _, _, hst⟩ := hs'.ok
  refine leaves_marks hs'.defs fun w'' hnc => ?_
  obtain ⟨us, h1, h2⟩ := resL_sound (P := P) (hs'.heap.nc hnc) (fun t => (hs'.env t).nc hnc) fn.results.toList q1
  refine ⟨if h : (⟨us⟩ : Array Value).size = 1 then (⟨us⟩ : Array Value)[0] else .tuple ⟨us⟩, ?_, ⟨_, rfl⟩, Mc, Or O (Mut φ' h'), fun k hk => ?_, ?_⟩
  ·rw [results_eq, Array.mapM_eq_mapM_toList]
   simp only [Sem.run_bind, Sem.run_map, Sem.run_pure, h1, Result.andThen_ok]
  ·rw [hnc.size]; exact hk.elim (fun h => hs'.heap.m0 k (.inr h)) fun h => hs'.heap.blk (.inr h)
  ·rcases hst with ⟨rs, e1, h⟩ | ⟨e1, h⟩ | e1
   ·rw [e1] at q2
    rcases q2 with ⟨e2, q2⟩ | q2
    ·obtain ⟨_, _, rfl⟩ := ghost_inj q2
     exact .inl ⟨e2, hn _ _ _ _ _ h hnc⟩
    ·obtain ⟨_, e3, rfl⟩ := ghost_inj q2
     exact absurd e3 hm2
   ·exact .inr (hnx _ _ _ _ h hnc)
   ·rw [e1] at q2
    rcases q2 with ⟨_, q2⟩ | q2 <;> cases q2
 cases ex with
 | normal => exact fin hq
 | ret => exact fin hq
 | _ => exact hq.elim

theorem HRelF.up {φ : Place} {w : World} {M0 : Nat → Prop} {h : Heap} {n : Nat} (hH : HRel φ 0 w M0 h) : HRel φ n w M0 h := ⟨hH.m0, fun o _ => hH.fresh o (Nat.zero_le _), hH.obj, hH.inj, hH.glob⟩
theorem Pure.ofN {P : Program} {f : FuncId} {args : List AV} {r : AV} {n : Nat} (hc : ACallP P f args noH n fun r' h' n' => LeV h' noH n' r' r ∧ Bel 0 r) : Pure P f args r := by
 refine ⟨hc.1, fun M w vs hM hgl hargs => (hc.2 M noP w vs (hrel_noH hM hgl).up (hargs.keep noP.le_refl (fun _ _ _ => rfl) (fun k hk => hk.elim .inl fun h => (not_mut_noH h).elim))).mono ?_⟩
 rintro e w' ⟨v, φ', r', h', n', rfl, ⟨hle, hb⟩, hH, hx, st⟩
 have hk : Wk (fun _ => r') h' n' [(0, r)] [] 0 := ⟨fun p hp => by simp at hp; subst hp; exact ⟨hle, hb⟩, fun p hp => by cases hp⟩
 obtain ⟨φ'', h1, h2, h3, _⟩ := hk.sound hH (tmps := fun _ => v) (fun _ => hx)
 refine ⟨v, rfl, ?_, ?_⟩
 ·have := h2 0
  simp only [mkE, upd_same] at this
  refine this.keep (fun o x ho => ?_) (fun _ _ _ => rfl) (fun k hk => .inl (.inl hk))
  rw [h1.fresh o (Nat.zero_le _)] at ho; cases ho
 ·exact ⟨st.fr.os, st.fr.tape, st.fr.output, st.fr.drawn, st.fr.size, fun k hk _ => st.fr.block k hk not_mut_noH⟩
theorem Pure.of {P : Program} {f : FuncId} {args : List AV} {r : AV} (hc : ACallP P f args noH 0 fun r' h' n' => LeV h' noH n' r' r ∧ Bel 0 r) : Pure P f args r := Pure.ofN hc

theorem ACallP.flat {P : Program} {f : FuncId} {args args' : List AV} {r : AV} {h : Heap} {n : Nat} {K : CallK} (hp : Pure P f args' r) (hfl : Flat r) (hle : LeRow h noH n args args') (hb : ∀ c ∈ args', Bel 0 c)
  (hk : K r h n) : ACallP P f args h n K := by
 refine ⟨hp.1, fun M0 φ w vs hH hargs => ?_⟩
 have h1 := view_args (h' := noH) hH (fun o g sz rs ho => by cases ho) hle hb hargs
 refine (hp.2 _ w vs (fun k hk => hk.elim (hH.m0 k) fun h => (not_mut_noH h).elim) (hH.glob.keep (fun _ _ _ => rfl) (fun k hk => .inl (hk.imp id fun h => (not_mut_noH h).elim))) h1).mono ?_
 rintro e w' ⟨v, rfl, hr, hfr⟩
 have st : Step φ w M0 h φ w' h := ⟨φ.le_refl, fun k hk => .inl hk, ⟨hfr.os, hfr.tape, hfr.output, hfr.drawn, hfr.size, fun k hk _ => hfr.block k hk (fun h => h)⟩, fun k hk => .inl hk⟩
 exact ⟨v, φ, r, h, n, rfl, hk, hH.keepw st (fun k hk => hfr.block k hk fun h => h), hfl.rel hr, st⟩

theorem ACallP.pure {P : Program} {f : FuncId} {args args' : List AV} {r : AV} {h : Heap} {n : Nat} {K : CallK} (h' : Heap) (hp : Pure P f args' r) (hfz : Frz h h') (hle : LeRow h h' n args args') (hb : ∀ c ∈ args', Bel 0 c)
  (hk : K r h' n) : ACallP P f args h n K := by
 refine ⟨hp.1, fun M0 φ w vs hH hargs => ?_⟩
 obtain ⟨hH', st0⟩ := hH.freeze hfz
 have hmt : ∀ o g sz rs, h' o = some (.rows true g sz rs) → h o = some (.rows true g sz rs) := by
  intro o g sz rs ho
  rcases hfz o with h1 | ⟨g1, sz1, rs1, _, h2⟩
  ·rw [← h1]; exact ho
  ·rw [h2] at ho; cases ho
 have h1 := view_args (h' := h') hH hmt hle hb hargs
 refine (hp.2 _ w vs (fun k hk => hH'.blk hk) hH'.glob h1).mono ?_
 rintro e w' ⟨v, rfl, hr, hfr⟩
 have st : Step φ w M0 h' φ w' h' := ⟨φ.le_refl, fun k hk => .inl hk, ⟨hfr.os, hfr.tape, hfr.output, hfr.drawn, hfr.size, fun k hk _ => hfr.block k hk (fun h => h)⟩, fun k hk => .inl hk⟩
 refine ⟨v, φ, r, h', n, rfl, hk, hH'.keepw st (fun k hk => hfr.block k hk fun h => h), ?_, st0.trans st⟩
 exact hr.keep (fun o x ho => by cases ho) (fun _ _ _ => rfl) (fun k hk => .inl hk)
theorem ACallP.plain {P : Program} {f : FuncId} {args : List AV} {r : AV} {h : Heap} {n : Nat} {K : CallK} (hp : Pure P f args r) (hb : ∀ c ∈ args, Bel 0 c) (hk : K r h n) : ACallP P f args h n K :=
 ACallP.pure h hp (.refl h) (.refl _ _ _ _) hb hk

theorem ACallP.frame {P : Program} {f : FuncId} {args args' : List AV} {h : Heap} {n k2 : Nat} {K K' : CallK} {R0 R : AV} {H0 HH : List (Nat × AObj)} (h' : Heap) (hp : ACallP P f args' noH 0 K')
  (hk' : ∀ r h1 n', K' r h1 n' → Wk (fun _ => r) h1 n' [(0, R0)] H0 k2) (hR : Sh n R0 R) (hHH : ShH n H0 HH) (hfz : Frz h h') (hle : LeRow h h' n args args') (hb : ∀ c ∈ args', Bel 0 c)
  (hk : K R (over HH h') (n + k2)) : ACallP P f args h n K := by
 refine ⟨hp.1, fun M0 φ w vs hH hargs => ?_⟩
 obtain ⟨hH', st0⟩ := hH.freeze hfz
 have hmt : ∀ o g sz rs, h' o = some (.rows true g sz rs) → h o = some (.rows true g sz rs) := by
  intro o g sz rs ho
  rcases hfz o with h1 | ⟨g1, sz1, rs1, h1, h2⟩
  ·rw [← h1]; exact ho
  ·rw [h2] at ho; cases ho
 have hv := view_args (h' := h') hH hmt hle hb hargs
 have hM1 : ∀ k, Or (Or M0 (Mut φ h')) (Mut noP noH) k → Or M0 (Mut φ h') k := fun k hk => hk.elim id fun h => (not_mut_noH h).elim
 have hH1 : HRel noP 0 w (Or M0 (Mut φ h')) noH := hrel_noH (fun k hk => hH'.blk hk) hH'.glob
 refine (hp.2 _ noP w vs hH1 (hv.keep noP.le_refl (fun _ _ _ => rfl) (fun k hk => .inl (hM1 k hk)))).mono ?_
 rintro e w' ⟨v, φ1, r, h1, n', rfl, hK, hH2, hx, st⟩
 obtain ⟨φ2, hH3, hx3, hm3, _⟩ := (hk' _ _ _ hK).sound hH2 (tmps := fun _ => v) (fun _ => hx)
 have hx3 := hx3 0
 simp only [mkE, upd_same] at hx3
 have hheap : ∀ k, k < w.heap.size → w'.heap[k]? = w.heap[k]? := fun k hk => st.fr.block k hk not_mut_noH
 let φ3 : Place := fun o => if o < n then φ o else φ2 (o - n)
 have e3 : ∀ o, φ3 (n + o) = φ2 o := fun o => by simp only [φ3]; rw [if_neg (by omega)]; congr 1; omega
 have e3' : ∀ o, o < n → φ3 o = φ o := fun o ho => if_pos ho
 have hlt : ∀ o x, φ o = some x → o < n := fun o x ho => Nat.lt_of_not_le fun hle => by rw [hH.fresh o hle] at ho; cases ho
 have hle3 : φ.le φ3 := fun o x ho => ⟨x, by rw [e3' o (hlt o x ho)]; exact ho, Nat.le_refl _, fun _ => rfl⟩
 have hsrc : ∀ o y, over HH h' o = some y → (∃ o0 x, o = n + o0 ∧ mkH H0 o0 = some x ∧ ShO n x y) ∨ (o < n ∧ h' o = some y) := by
  intro o x ho
  rw [over_eq] at ho
  split at ho
  ·rename_i y hy
   cases ho
   exact .inl (hHH.at hy)
  ·cases x with
   | rows mt g sz rs =>
    obtain ⟨A, hA, _⟩ := hH'.obj _ _ _ _ _ ho
    exact .inr ⟨hlt _ _ hA, ho⟩
 have hmut : ∀ k, Mut φ3 (over HH h') k → Mut φ2 (mkH H0) k ∨ Mut φ h' k := by
  rintro k ⟨o, g, sz, rs, g', a, bs, ho, hp, rfl⟩
  rcases hsrc o _ ho with ⟨o0, x, rfl, h1, h2⟩ | ⟨h1, h2⟩
  ·cases h2 with
   | rows h2 => rw [e3] at hp; exact .inl ⟨o0, g, sz, _, g', a, bs, h1, hp, rfl⟩
  ·rw [e3' o h1] at hp; exact .inr ⟨o, g, sz, rs, g', a, bs, h2, hp, rfl⟩
 have hnew : ∀ k, Mut φ2 (mkH H0) k → w.heap.size ≤ k := fun k hk => (st.mutd k (hm3 k hk)).elim (fun h => (not_mut_noH h).elim) id
 have hsub : ∀ k, Or M0 (Mut φ3 (over HH h')) k → Or (Or M0 (Mut φ h')) (Mut φ2 (mkH H0)) k := fun k hk => hk.elim (fun h => .inl (.inl h)) fun h => (hmut k h).elim .inr fun h => .inl (.inr h)
 have hsub' : ∀ k, Or M0 (Mut φ3 (over HH h')) k → Or M0 (Mut φ h') k ∨ w.heap.size ≤ k := fun k hk => hk.elim (fun h => .inl (.inl h)) fun h => (hmut k h).elim (fun h => .inr (hnew k h)) fun h => .inl (.inr h)
 have hblk : ∀ o x g' a bs, h' o = some x → φ o = some (g', some (a, bs)) → a.block < w.heap.size := by
  intro o x g' a bs ho hp
  cases x with
  | rows mt g sz rs =>
   obtain ⟨A, hA, hc⟩ := hH'.obj _ _ _ _ _ ho
   rw [hp] at hA
   simp only [Option.some.injEq, Prod.mk.injEq] at hA
   obtain ⟨rfl, rfl⟩ := hA
   rcases hc with ⟨h, _⟩ | ⟨a', bs', h, _, h2⟩
   ·cases h
   ·simp only [Option.some.injEq, Prod.mk.injEq] at h
    obtain ⟨rfl, rfl⟩ := h
    exact h2.blk
 have hfar : ∀ o0 mt g sz rs g' a bs o' y g1 a' b', mkH H0 o0 = some (.rows mt g sz rs) → φ2 o0 = some (g', some (a, bs)) → h' o' = some y → φ o' = some (g1, some (a', b')) →
   (mt = true ∨ ∃ g sz rs, y = .rows true g sz rs) → a.block ≠ a'.block := by
  intro o0 mt g sz rs g' a bs o' y g1 a' b' q1 q2 q3 q4 hm
  have hb' := hblk _ _ _ _ _ q3 q4
  rcases hm with rfl | ⟨g2, sz2, rs2, rfl⟩
  ·have := hnew a.block ⟨o0, g, sz, rs, _, a, bs, q1, q2, rfl⟩
   omega
  ·intro he
   obtain ⟨A, hA, hc⟩ := hH3.obj _ _ _ _ _ q1
   rw [q2] at hA
   simp only [Option.some.injEq, Prod.mk.injEq] at hA
   obtain ⟨_, rfl⟩ := hA
   rcases hc with ⟨h, _⟩ | ⟨a1, bs1, h, hn0, _⟩
   ·cases h
   ·simp only [Option.some.injEq, Prod.mk.injEq] at h
    obtain ⟨rfl, rfl⟩ := h
    exact hn0 (.inr ⟨o', g2, sz2, rs2, _, a', b', q3, q4, he.symm⟩)
 refine ⟨v, φ3, R, over HH h', n + k2, rfl, hk, ⟨fun k hk => Nat.lt_of_lt_of_le (hH.m0 k hk) st.fr.size, fun o ho => ?_, fun o mt g sz rs ho => ?_, fun o o' mt g sz rs mt' g' sz' rs' a a' b b' ho ho' hne hm hp hp' => ?_, hH'.glob.keep (fun k _ hk => hheap k hk) hsub'⟩,
  hR.rel (fun o x h => (e3 o).trans h) hsub hx3, st0.trans ⟨hle3, hsub', ⟨st.fr.os, st.fr.tape, st.fr.output, st.fr.drawn, st.fr.size, fun k hk _ => hheap k hk⟩, fun k hk => (hmut k hk).elim (fun h => .inr (hnew k h)) .inl⟩⟩
 ·obtain ⟨d, rfl⟩ := Nat.exists_eq_add_of_le (show n ≤ o by omega)
  rw [e3]; exact hH3.fresh d (by omega)
 ·rcases hsrc o _ ho with ⟨o0, x, rfl, h1, h2⟩ | ⟨h1, h2⟩
  ·cases h2 with
   | rows hs =>
    obtain ⟨A, hA, hc⟩ := hH3.obj _ _ _ _ _ h1
    refine ⟨A, by rw [e3]; exact hA, hc.imp (fun h => ⟨h.1, ?_⟩) ?_⟩
    ·obtain ⟨_, rfl⟩ := h
     exact List.eq_nil_of_length_eq_zero hs.shape.1
    ·rintro ⟨a, bs, c1, c3, hd⟩
     exact ⟨a, bs, c1, fun hk => c3 (.inl hk), hd.turn rfl hs.shape.1 (hs.shape.2 sz) (fun c9 => hs.rel (fun o x h => (e3 o).trans h) hsub c9)⟩
  ·obtain ⟨A, hA, hc⟩ := hH'.obj _ _ _ _ _ h2
   refine ⟨A, by rw [e3' o h1]; exact hA, hc.imp id ?_⟩
   rintro ⟨a, bs, c1, c3, hd⟩
   exact ⟨a, bs, c1, c3, hd.keep (hheap _ hd.blk) (fun c9 => c9.keep hle3 (fun k _ hk => hheap k hk) hsub')⟩
 ·rcases hsrc o _ ho with ⟨o0, x, rfl, q1, q2⟩ | ⟨q1, q2⟩ <;> rcases hsrc o' _ ho' with ⟨o0', x', rfl, q1', q2'⟩ | ⟨q1', q2'⟩
  ·cases q2; cases q2'
   rw [e3] at hp hp'
   exact hH3.inj _ _ _ _ _ _ _ _ _ _ _ _ _ _ q1 q1' (by omega) hm hp hp'
  ·cases q2
   rw [e3] at hp; rw [e3' o' q1'] at hp'
   exact hfar _ _ _ _ _ _ _ _ _ _ _ _ _ q1 hp q2' hp' (hm.imp id fun h => by subst h; exact ⟨_, _, _, rfl⟩)
  ·cases q2'
   rw [e3' o q1] at hp; rw [e3] at hp'
   exact Ne.symm (hfar _ _ _ _ _ _ _ _ _ _ _ _ _ q1' hp' q2 hp (hm.symm.imp id fun h => by subst h; exact ⟨_, _, _, rfl⟩))
  ·rw [e3' o q1] at hp; rw [e3' o' q1'] at hp'
   exact hH'.inj _ _ _ _ _ _ _ _ _ _ _ _ _ _ q2 q2' hne hm hp hp'

def Owns (P : Program) (f : FuncId) (args : List AV) (R : Nat → AV) (HH : Nat → List (Nat × AObj)) (k : Nat) : Prop :=
 ACallP P f args noH 0 (fun r h n' => Wk (fun _ => r) h n' [(0, R 0)] (HH 0) k) ∧ ∀ n, Sh n (R 0) (R n) ∧ ShH n (HH 0) (HH n)
theorem ACallP.owns {P : Program} {f : FuncId} {args args' : List AV} {h : Heap} {n : Nat} {K : CallK} {R : Nat → AV} {HH : Nat → List (Nat × AObj)} {k : Nat} (h' : Heap) (hp : Owns P f args' R HH k)
  (hfz : Frz h h') (hle : LeRow h h' n args args') (hb : ∀ c ∈ args', Bel 0 c) (hk : K (R n) (over (HH n) h') (n + k)) : ACallP P f args h n K :=
 ACallP.frame h' hp.1 (fun _ _ _ h => h) (hp.2 n).1 (hp.2 n).2 hfz hle hb hk
theorem Owns.pure {P : Program} {f : FuncId} {args : List AV} {R : Nat → AV} {HH : Nat → List (Nat × AObj)} {k : Nat} {r : AV} (hp : Owns P f args R HH k) (hle : LeV (mkH (HH 0)) noH k (R 0) r) (hb : Bel 0 r) : Pure P f args r := by
 refine ⟨hp.1.1, fun M w vs hM hgl hargs => (hp.1.2 M noP w vs (hrel_noH hM hgl) (hargs.keep noP.le_refl (fun _ _ _ => rfl) (fun k hk => hk.elim .inl fun h => (not_mut_noH h).elim))).mono ?_⟩
 rintro e w' ⟨v, φ', r', h', n', rfl, hk, hH, hx, st⟩
 obtain ⟨φ1, g1, g2, _, _⟩ := hk.sound hH (tmps := fun _ => v) (fun _ => hx)
 have g2 := g2 0
 simp only [mkE, upd_same] at g2
 have hk2 : Wk (fun _ => R 0) (mkH (HH 0)) k [(0, r)] [] 0 := ⟨fun p hp => by simp at hp; subst hp; exact ⟨hle, hb⟩, fun p hp => by cases hp⟩
 obtain ⟨φ'', h1, h2, h3, _⟩ := hk2.sound g1 (tmps := fun _ => v) (fun _ => g2)
 refine ⟨v, rfl, ?_, ?_⟩
 ·have := h2 0
  simp only [mkE, upd_same] at this
  refine this.keep (fun o x ho => ?_) (fun _ _ _ => rfl) (fun k hk => .inl (.inl hk))
  rw [h1.fresh o (Nat.zero_le _)] at ho; cases ho
 ·exact ⟨st.fr.os, st.fr.tape, st.fr.output, st.fr.drawn, st.fr.size, fun k hk _ => st.fr.block k hk not_mut_noH⟩
theorem ACallP.ownsPlain {P : Program} {f : FuncId} {args : List AV} {h : Heap} {n : Nat} {K : CallK} {R : Nat → AV} {HH : Nat → List (Nat × AObj)} {k : Nat} (hp : Owns P f args R HH k)
  (hb : ∀ c ∈ args, Bel 0 c) (hk : K (R n) (over (HH n) h) (n + k)) : ACallP P f args h n K :=
 ACallP.owns h hp (.refl h) (.refl _ _ _ _) hb hk
theorem ACallP.emp {P : Program} {f : FuncId} {sz : Nat} {rows : List (List AV)} {xs : List AV} {h : Heap} {n : Nat} {K : CallK} (h1 : rows ≠ [] → ACallP P f (.lst sz rows :: xs) h n K)
  (h2 : rows = [] → ∀ A c, ACallP P f (.v (.slice A 0 c) :: xs) h n K) : ACallP P f (.lst sz rows :: xs) h n K := by
 by_cases hr : rows = []
 ·refine ⟨(h2 hr none 0).1, fun M0 φ w vs hH hargs => ?_⟩
  cases hargs with
  | cons hx ht =>
   cases hx with
   | nil _ A c => exact (h2 hr A c).2 M0 φ w _ hH (.cons (.v _) ht)
   | @lst _ _ a len cap C T fz hs hM hb hrr hl hc hcap hv h =>
    have : len = 0 := by rw [hl, hr]; rfl
    subst this
    exact (h2 hr (some a) cap).2 M0 φ w _ hH (.cons (.v _) ht)
 ·exact h1 hr
theorem pF {P : Program} {f : FuncId} {fn : Func} {c : Code} {args : List AV} {r : AV} (hf : P.funcs[f]? = some fn) (hh : awp P 0 c (RetQ P fn.results.toList fun r' h' n' => LeV h' noH n' r' r ∧ Bel 0 r) (argE 0 args) noH 0) (hmix : P.follows .mixedOrders = true := by kernel_rfl) (hb : fn.body = some c := by rfl) (hname : (fn.name == "runtime.NumGoroutine") = false := by rfl) (hN : args.length ≤ fn.ntmps := by exact Nat.le_of_ble_eq_true rfl) (hd : dstB fn.ntmps c = true := by kernel_rfl) (hG : fn.ntmps ≤ GH := by exact Nat.le_of_ble_eq_true rfl) : Pure P f args r := Pure.of (ACallP.of_awp hmix hf hb hname hN hd hh hG)
end Go.Av
end
section
/- Our library, part 13: equations by which code is evaluated. -/
namespace Go.Av
open Go

section
variable {P : Program} {n0 : Nat} {Q : Post} {e : Env} {h : Heap} {n : Nat} {ops rest : List Oper}
def VC (a b : Prop) : Prop := a ∧ b
theorem VC_false {b : Prop} : VC False b = False := by simp [VC]
def VQ (a b : Prop) : Prop := a ∧ b
theorem VQ_true {b : Prop} : VQ True b = b := by simp [VQ]
theorem VQ.mk {a b : Prop} (h1 : a) (h2 : a → b) : VQ a b := ⟨h1, h2 h1⟩
@[congr] theorem VQ_congr {a b c : Prop} (h1 : a = c) : VQ a b = VQ c b := by subst h1; rfl
theorem VC.mk {a b : Prop} (h1 : a) (h2 : a → b) : VC a b := ⟨h1, h2 h1⟩
@[congr] theorem VC_congr {a b c : Prop} (h1 : a = c) : VC a b = VC c b := by subst h1; rfl
def aIf (t : Bool) (a b : Prop) : Prop := (t = true → a) ∧ (t = false → b)
theorem aIf.mk {t : Bool} {a b : Prop} (h1 : t = true → a) (h2 : t = false → b) : aIf t a b := ⟨h1, h2⟩
theorem evExtract_tup (vs : List AV) (i : Nat) : evExtract (.tup vs) i = Res.if (i < vs.length) (cel vs i) := rfl
@[congr] theorem aIf_congr {t t' : Bool} {a b : Prop} (h : t = t') : aIf t a b = aIf t' a b := by subst h; rfl
@[congr] theorem upd_congr {α : Type} {f : Nat → α} {k : Nat} {x : α} {j j' : Nat} (h : j = j') : upd f k x j = upd f k x j' := by subst h; rfl
theorem nth_zero {α : Type} [Inhabited α] (x : α) (l : List α) : nth (x :: l) 0 = x := rfl
theorem nth_succ {α : Type} [Inhabited α] (x : α) (l : List α) (k : Nat) : nth (x :: l) (k + 1) = nth l k := by simp [nth]
theorem cel_zero (x : AV) (l : List AV) : cel (x :: l) 0 = x := rfl
theorem cel_succ (x : AV) (l : List AV) (k : Nat) : cel (x :: l) (k + 1) = cel l k := by simp [cel]
theorem nth_map {α β : Type} [Inhabited α] [Inhabited β] (f : α → β) (l : List α) (i : Nat) (h : i < l.length) : nth (l.map f) i = f (nth l i) := by simp [nth, h]
theorem cel_map {α : Type} [Inhabited α] (f : α → AV) (l : List α) (i : Nat) (h : i < l.length) : cel (l.map f) i = f (nth l i) := by simp [nth, cel, h]
theorem nth_eq {α : Type} [Inhabited α] (l : List α) (i : Nat) (h : i < l.length) : nth l i = l[i] := by simp [nth, h]
theorem nth_mem {α : Type} [Inhabited α] {l : List α} {i : Nat} (h : i < l.length) : nth l i ∈ l := by rw [nth_eq l i h]; exact List.getElem_mem _
def aopsL (P : Program) (ops : List Oper) (Q : Post) (rest : List Oper) (e : Env) (h : Heap) (n : Nat) : Prop := aops P ops Q rest e h n
def awpL (P : Program) (n0 : Nat) (c : Code) (Q : Post) (e : Env) (h : Heap) (n : Nat) : Prop := awp P n0 c Q e h n
theorem VC_aops : VC True (aopsL P ops Q rest e h n) = aops P ops Q rest e h n := by simp [VC, aopsL]
theorem VC.mkL {a : Prop} (h1 : a) (h2 : a → aops P ops Q rest e h n) : VC a (aopsL P ops Q rest e h n) := ⟨h1, h2 h1⟩
theorem aIf_trueL {a : Code} {y : Prop} : aIf true (awpL P n0 a Q e h n) y = awp P n0 a Q e h n := by simp [aIf, awpL]
theorem aIf_falseL {b : Code} {y : Prop} : aIf false y (awpL P n0 b Q e h n) = awp P n0 b Q e h n := by simp [aIf, awpL]
theorem aIf.mkL {t : Bool} {a b : Code} (h1 : t = true → awp P n0 a Q e h n) (h2 : t = false → awp P n0 b Q e h n) : aIf t (awpL P n0 a Q e h n) (awpL P n0 b Q e h n) := ⟨h1, h2⟩
def aRes (P : Program) (ops : List Oper) (Q : Post) (rest : List Oper) (dst : Option Tmp) (r : Res) (e : Env) (h : Heap) (n : Nat) : Prop :=
 VC r.cond (aops P ops Q rest (put e dst r.val) (applyW r.wr h) (n + r.al))
def aResG (P : Program) (ops : List Oper) (Q : Post) (rest : List Oper) (dst : Option Tmp) (g : Bool) (r : Res) (e : Env) (h : Heap) (n : Nat) : Prop :=
 VC (g = true → r.cond) (aops P ops Q rest (put e dst (.gd g r.val)) (applyW (gW g r.wr) h) (n + gN g r.al))
def aCall (P : Program) (ops : List Oper) (Q : Post) (rest : List Oper) (dst : Option Tmp) (fv : AV) (args : List AV) (e : Env) (h : Heap) (n : Nat) : Prop :=
 acall P fv args h n (fun r h' n' => aops P ops Q rest (put e dst r) h' n') ∨ ycall e fv args h n (fun e' r h' => aops P ops Q rest (put e' dst r) h' n)
def aYld (P : Program) (ops : List Oper) (Q : Post) (rest : List Oper) (dst : Option Tmp) (l : Nat) (args : List AV) (e : Env) (h : Heap) (n : Nat) : Prop :=
 ycall e (.fn (.yield l) [] []) args h n (fun e' r h' => aops P ops Q rest (put e' dst r) h' n)
theorem ycall_func {e : Env} {f : FuncId} {a b args : List AV} {h : Heap} {n : Nat} {K : Env → AV → Heap → Prop} : ¬ ycall e (.fn (.func f) a b) args h n K := by
 rintro ⟨l, more, rows, h1, _⟩; cases h1
def aGrd (P : Program) (ops : List Oper) (Q : Post) (rest : List Oper) (dst : Option Tmp) (op : Op) (g : Option Bool) (e : Env) (h : Heap) (n : Nat) : Prop :=
 match g with
 | none => False
 | some g => VQ (∀ t ∈ gT op, okG g (e t)) (aResG P ops Q rest dst g (aev P n op (gE op e) h) e h n)

theorem awp_skip : awp P n0 .skip Q e h n = Q .normal e h n := rfl
theorem awp_label (l : Nat) : awp P n0 (.label l) Q e h n = Q .normal e h n := rfl
theorem awp_region (id : Nat) (ops : List Oper) : awp P n0 (.region id ops.toArray false) Q e h n = aops P ops Q ops e h n := rfl
theorem awp_seq (a b : Code) : awp P n0 (.seq a b) Q e h n = awp P n0 a (QSeq (awp P n0 b Q) Q) e h n := rfl
def aCond (P : Program) (n0 : Nat) (a b : Code) (Q : Post) (x : AV) (e : Env) (h : Heap) (n : Nat) : Prop := match x with
 | .v (.bool t) => (t = true → awp P n0 a Q e h n) ∧ (t = false → awp P n0 b Q e h n)
 | _ => False
theorem awp_cond (c : Operand) (a b : Code) : awp P n0 (.cond c a b) Q e h n = aCond P n0 a b Q (ev e c) e h n := rfl
theorem aCond_bool (a b : Code) (t : Bool) : aCond P n0 a b Q (.v (.bool t)) e h n = aIf t (awpL P n0 a Q e h n) (awpL P n0 b Q e h n) := rfl
theorem awp_scope (b : Code) : awp P n0 (.scope b) Q e h n = awp P n0 b (QScope Q) e h n := rfl
theorem awp_block (id : Nat) (b : Code) : awp P n0 (.block id b) Q e h n = awp P n0 b (QBlock id Q) e h n := rfl
theorem awp_loop (b : Code) : awp P n0 (.loop b) Q e h n = ALoop n0 (awp P n0 b) Q e h n := rfl
theorem awp_exit (id : Nat) : awp P n0 (.exit id) Q e h n = Q (.exit id) e h n := rfl
theorem awp_ret : awp P n0 .ret Q e h n = Q .ret e h n := rfl
theorem QSeq_normal (K : Env → Heap → Nat → Prop) : QSeq K Q .normal e h n = K e h n := rfl
theorem QSeq_exit (K : Env → Heap → Nat → Prop) (id : Nat) : QSeq K Q (.exit id) e h n = Q (.exit id) e h n := rfl
theorem QSeq_ret (K : Env → Heap → Nat → Prop) : QSeq K Q .ret e h n = Q .ret e h n := rfl
theorem QScope_normal : QScope Q .normal e h n = Q .normal e h n := rfl
theorem QScope_exit (id : Nat) : QScope Q (.exit id) e h n = Q (.exit id) e h n := rfl
theorem QScope_ret : QScope Q .ret e h n = Q .ret e h n := rfl
theorem QBlock_normal (id : Nat) : QBlock id Q .normal e h n = Q .normal e h n := rfl
theorem QBlock_exit (id id' : Nat) : QBlock id Q (.exit id') e h n = if id' = id then Q .normal e h n else Q (.exit id') e h n := rfl
theorem QBlock_ret (id : Nat) : QBlock id Q .ret e h n = Q .ret e h n := rfl
theorem RetQ_ret (rs : List ResultVar) (K : CallK) : RetQ P rs K .ret e h n = VQ (resL P e h rs).1 (K (resV (resL P e h rs).2) h n) := rfl
theorem RetQ_normal (rs : List ResultVar) (K : CallK) : RetQ P rs K .normal e h n = VQ (resL P e h rs).1 (K (resV (resL P e h rs).2) h n) := rfl
theorem aops_nil : aops P ops Q [] e h n = Q .normal e h n := rfl
theorem aops_call {dst : Option Tmp} {f : Operand} {args : Array Operand} {ats : Array TypeId} {ty : TypeId} {pos : String} {after : Array Edge} :
  aops P ops Q (⟨dst, .call ⟨.value f, args, ats⟩, ty, pos, after, none⟩ :: rest) e h n = aCall P ops Q rest dst (ev e f) (args.toList.map (ev e)) e h n := rfl
theorem aops_some {dst : Option Tmp} {op : Op} {ty : TypeId} {pos : String} {after : Array Edge} {j : Nat} {want : Bool} (hc : isCall op = false) :
  aops P ops Q (⟨dst, op, ty, pos, after, some (j, want)⟩ :: rest) e h n = aGrd P ops Q rest dst op ((slotOf ops j).bind fun t => guardB (e t) want) e h n := by
 unfold aops aGrd aResG
 cases op with
 | call c =>
  obtain ⟨callee, args, ats⟩ := c
  cases callee with
  | value f => simp [isCall] at hc
  | _ => rfl
 | _ => rfl
theorem aops_move {dst : Option Tmp} {ty : TypeId} {pos : String} {after : Array Edge} {x : Operand} : aops P ops Q (⟨dst, .move x, ty, pos, after, none⟩ :: rest) e h n = aRes P ops Q rest dst (aev P n (.move x) e h) e h n := rfl
theorem aopsG_move {dst : Option Tmp} {ty : TypeId} {pos : String} {after : Array Edge} {j : Nat} {want : Bool} {x : Operand} : aops P ops Q (⟨dst, .move x, ty, pos, after, some (j, want)⟩ :: rest) e h n = aGrd P ops Q rest dst (.move x) ((slotOf ops j).bind fun t => guardB (e t) want) e h n := aops_some rfl
theorem aops_assign {dst : Option Tmp} {ty : TypeId} {pos : String} {after : Array Edge} {x : Operand} : aops P ops Q (⟨dst, .assign x, ty, pos, after, none⟩ :: rest) e h n = aRes P ops Q rest dst (aev P n (.assign x) e h) e h n := rfl
theorem aopsG_assign {dst : Option Tmp} {ty : TypeId} {pos : String} {after : Array Edge} {j : Nat} {want : Bool} {x : Operand} : aops P ops Q (⟨dst, .assign x, ty, pos, after, some (j, want)⟩ :: rest) e h n = aGrd P ops Q rest dst (.assign x) ((slotOf ops j).bind fun t => guardB (e t) want) e h n := aops_some rfl
theorem aops_pick {dst : Option Tmp} {ty : TypeId} {pos : String} {after : Array Edge} {c a b : Operand} : aops P ops Q (⟨dst, .pick c a b, ty, pos, after, none⟩ :: rest) e h n = aRes P ops Q rest dst (aev P n (.pick c a b) e h) e h n := rfl
theorem aopsG_pick {dst : Option Tmp} {ty : TypeId} {pos : String} {after : Array Edge} {j : Nat} {want : Bool} {c a b : Operand} : aops P ops Q (⟨dst, .pick c a b, ty, pos, after, some (j, want)⟩ :: rest) e h n = aGrd P ops Q rest dst (.pick c a b) ((slotOf ops j).bind fun t => guardB (e t) want) e h n := aops_some rfl
theorem aops_alloc {dst : Option Tmp} {ty : TypeId} {pos : String} {after : Array Edge} {t : TypeId} : aops P ops Q (⟨dst, .alloc t, ty, pos, after, none⟩ :: rest) e h n = aRes P ops Q rest dst (aev P n (.alloc t) e h) e h n := rfl
theorem aopsG_alloc {dst : Option Tmp} {ty : TypeId} {pos : String} {after : Array Edge} {j : Nat} {want : Bool} {t : TypeId} : aops P ops Q (⟨dst, .alloc t, ty, pos, after, some (j, want)⟩ :: rest) e h n = aGrd P ops Q rest dst (.alloc t) ((slotOf ops j).bind fun t => guardB (e t) want) e h n := aops_some rfl
theorem aops_box {dst : Option Tmp} {ty : TypeId} {pos : String} {after : Array Edge} {t : TypeId} {x : Operand} : aops P ops Q (⟨dst, .box t x, ty, pos, after, none⟩ :: rest) e h n = aRes P ops Q rest dst (aev P n (.box t x) e h) e h n := rfl
theorem aopsG_box {dst : Option Tmp} {ty : TypeId} {pos : String} {after : Array Edge} {j : Nat} {want : Bool} {t : TypeId} {x : Operand} : aops P ops Q (⟨dst, .box t x, ty, pos, after, some (j, want)⟩ :: rest) e h n = aGrd P ops Q rest dst (.box t x) ((slotOf ops j).bind fun t => guardB (e t) want) e h n := aops_some rfl
theorem aops_build {dst : Option Tmp} {ty : TypeId} {pos : String} {after : Array Edge} {t : TypeId} {ps : Array (Nat × Operand)} : aops P ops Q (⟨dst, .build t ps, ty, pos, after, none⟩ :: rest) e h n = aRes P ops Q rest dst (aev P n (.build t ps) e h) e h n := rfl
theorem aopsG_build {dst : Option Tmp} {ty : TypeId} {pos : String} {after : Array Edge} {j : Nat} {want : Bool} {t : TypeId} {ps : Array (Nat × Operand)} : aops P ops Q (⟨dst, .build t ps, ty, pos, after, some (j, want)⟩ :: rest) e h n = aGrd P ops Q rest dst (.build t ps) ((slotOf ops j).bind fun t => guardB (e t) want) e h n := aops_some rfl
theorem aops_buildSlice {dst : Option Tmp} {ty : TypeId} {pos : String} {after : Array Edge} {t : TypeId} {k : Nat} {ps : Array (Nat × Operand)} : aops P ops Q (⟨dst, .buildSlice t k ps, ty, pos, after, none⟩ :: rest) e h n = aRes P ops Q rest dst (aev P n (.buildSlice t k ps) e h) e h n := rfl
theorem aopsG_buildSlice {dst : Option Tmp} {ty : TypeId} {pos : String} {after : Array Edge} {j : Nat} {want : Bool} {t : TypeId} {k : Nat} {ps : Array (Nat × Operand)} : aops P ops Q (⟨dst, .buildSlice t k ps, ty, pos, after, some (j, want)⟩ :: rest) e h n = aGrd P ops Q rest dst (.buildSlice t k ps) ((slotOf ops j).bind fun t => guardB (e t) want) e h n := aops_some rfl
theorem aops_load {dst : Option Tmp} {ty : TypeId} {pos : String} {after : Array Edge} {t : TypeId} {x : Operand} : aops P ops Q (⟨dst, .load t x, ty, pos, after, none⟩ :: rest) e h n = aRes P ops Q rest dst (aev P n (.load t x) e h) e h n := rfl
theorem aopsG_load {dst : Option Tmp} {ty : TypeId} {pos : String} {after : Array Edge} {j : Nat} {want : Bool} {t : TypeId} {x : Operand} : aops P ops Q (⟨dst, .load t x, ty, pos, after, some (j, want)⟩ :: rest) e h n = aGrd P ops Q rest dst (.load t x) ((slotOf ops j).bind fun t => guardB (e t) want) e h n := aops_some rfl
theorem aops_store {dst : Option Tmp} {ty : TypeId} {pos : String} {after : Array Edge} {t : TypeId} {x y : Operand} : aops P ops Q (⟨dst, .store t x y, ty, pos, after, none⟩ :: rest) e h n = aRes P ops Q rest dst (aev P n (.store t x y) e h) e h n := rfl
theorem aopsG_store {dst : Option Tmp} {ty : TypeId} {pos : String} {after : Array Edge} {j : Nat} {want : Bool} {t : TypeId} {x y : Operand} : aops P ops Q (⟨dst, .store t x y, ty, pos, after, some (j, want)⟩ :: rest) e h n = aGrd P ops Q rest dst (.store t x y) ((slotOf ops j).bind fun t => guardB (e t) want) e h n := aops_some rfl
theorem aops_binOp {dst : Option Tmp} {ty : TypeId} {pos : String} {after : Array Edge} {o : BinOp} {t : TypeId} {x y : Operand} {t' : TypeId} : aops P ops Q (⟨dst, .binOp o t x y t', ty, pos, after, none⟩ :: rest) e h n = aRes P ops Q rest dst (aev P n (.binOp o t x y t') e h) e h n := rfl
theorem aopsG_binOp {dst : Option Tmp} {ty : TypeId} {pos : String} {after : Array Edge} {j : Nat} {want : Bool} {o : BinOp} {t : TypeId} {x y : Operand} {t' : TypeId} : aops P ops Q (⟨dst, .binOp o t x y t', ty, pos, after, some (j, want)⟩ :: rest) e h n = aGrd P ops Q rest dst (.binOp o t x y t') ((slotOf ops j).bind fun t => guardB (e t) want) e h n := aops_some rfl
theorem aops_unOp {dst : Option Tmp} {ty : TypeId} {pos : String} {after : Array Edge} {o : UnOp} {t : TypeId} {x : Operand} : aops P ops Q (⟨dst, .unOp o t x, ty, pos, after, none⟩ :: rest) e h n = aRes P ops Q rest dst (aev P n (.unOp o t x) e h) e h n := rfl
theorem aops_nilCheck {dst : Option Tmp} {ty : TypeId} {pos : String} {after : Array Edge} {x : Operand} : aops P ops Q (⟨dst, .nilCheck x, ty, pos, after, none⟩ :: rest) e h n = aRes P ops Q rest dst (aev P n (.nilCheck x) e h) e h n := rfl
theorem aopsG_unOp {dst : Option Tmp} {ty : TypeId} {pos : String} {after : Array Edge} {j : Nat} {want : Bool} {o : UnOp} {t : TypeId} {x : Operand} : aops P ops Q (⟨dst, .unOp o t x, ty, pos, after, some (j, want)⟩ :: rest) e h n = aGrd P ops Q rest dst (.unOp o t x) ((slotOf ops j).bind fun t => guardB (e t) want) e h n := aops_some rfl
theorem aopsG_nilCheck {dst : Option Tmp} {ty : TypeId} {pos : String} {after : Array Edge} {j : Nat} {want : Bool} {x : Operand} : aops P ops Q (⟨dst, .nilCheck x, ty, pos, after, some (j, want)⟩ :: rest) e h n = aGrd P ops Q rest dst (.nilCheck x) ((slotOf ops j).bind fun t => guardB (e t) want) e h n := aops_some rfl
theorem aops_convert {dst : Option Tmp} {ty : TypeId} {pos : String} {after : Array Edge} {s d : TypeId} {x : Operand} : aops P ops Q (⟨dst, .convert s d x, ty, pos, after, none⟩ :: rest) e h n = aRes P ops Q rest dst (aev P n (.convert s d x) e h) e h n := rfl
theorem aopsG_convert {dst : Option Tmp} {ty : TypeId} {pos : String} {after : Array Edge} {j : Nat} {want : Bool} {s d : TypeId} {x : Operand} : aops P ops Q (⟨dst, .convert s d x, ty, pos, after, some (j, want)⟩ :: rest) e h n = aGrd P ops Q rest dst (.convert s d x) ((slotOf ops j).bind fun t => guardB (e t) want) e h n := aops_some rfl
theorem aops_makeFunc {dst : Option Tmp} {ty : TypeId} {pos : String} {after : Array Edge} {f : Fn} {xs ys : Array Operand} : aops P ops Q (⟨dst, .makeFunc f xs ys, ty, pos, after, none⟩ :: rest) e h n = aRes P ops Q rest dst (aev P n (.makeFunc f xs ys) e h) e h n := rfl
theorem aopsG_makeFunc {dst : Option Tmp} {ty : TypeId} {pos : String} {after : Array Edge} {j : Nat} {want : Bool} {f : Fn} {xs ys : Array Operand} : aops P ops Q (⟨dst, .makeFunc f xs ys, ty, pos, after, some (j, want)⟩ :: rest) e h n = aGrd P ops Q rest dst (.makeFunc f xs ys) ((slotOf ops j).bind fun t => guardB (e t) want) e h n := aops_some rfl
theorem aops_makeSlice {dst : Option Tmp} {ty : TypeId} {pos : String} {after : Array Edge} {t : TypeId} {l c : Operand} : aops P ops Q (⟨dst, .makeSlice t l c, ty, pos, after, none⟩ :: rest) e h n = aRes P ops Q rest dst (aev P n (.makeSlice t l c) e h) e h n := rfl
theorem aopsG_makeSlice {dst : Option Tmp} {ty : TypeId} {pos : String} {after : Array Edge} {j : Nat} {want : Bool} {t : TypeId} {l c : Operand} : aops P ops Q (⟨dst, .makeSlice t l c, ty, pos, after, some (j, want)⟩ :: rest) e h n = aGrd P ops Q rest dst (.makeSlice t l c) ((slotOf ops j).bind fun t => guardB (e t) want) e h n := aops_some rfl
theorem aops_slice {dst : Option Tmp} {ty : TypeId} {pos : String} {after : Array Edge} {t : TypeId} {x : Operand} {lo hi mx : Option Operand} : aops P ops Q (⟨dst, .slice t x lo hi mx, ty, pos, after, none⟩ :: rest) e h n = aRes P ops Q rest dst (aev P n (.slice t x lo hi mx) e h) e h n := rfl
theorem aopsG_slice {dst : Option Tmp} {ty : TypeId} {pos : String} {after : Array Edge} {j : Nat} {want : Bool} {t : TypeId} {x : Operand} {lo hi mx : Option Operand} : aops P ops Q (⟨dst, .slice t x lo hi mx, ty, pos, after, some (j, want)⟩ :: rest) e h n = aGrd P ops Q rest dst (.slice t x lo hi mx) ((slotOf ops j).bind fun t => guardB (e t) want) e h n := aops_some rfl
theorem aops_fieldAddr {dst : Option Tmp} {ty : TypeId} {pos : String} {after : Array Edge} {t : TypeId} {x : Operand} {f : Nat} : aops P ops Q (⟨dst, .fieldAddr t x f, ty, pos, after, none⟩ :: rest) e h n = aRes P ops Q rest dst (aev P n (.fieldAddr t x f) e h) e h n := rfl
theorem aopsG_fieldAddr {dst : Option Tmp} {ty : TypeId} {pos : String} {after : Array Edge} {j : Nat} {want : Bool} {t : TypeId} {x : Operand} {f : Nat} : aops P ops Q (⟨dst, .fieldAddr t x f, ty, pos, after, some (j, want)⟩ :: rest) e h n = aGrd P ops Q rest dst (.fieldAddr t x f) ((slotOf ops j).bind fun t => guardB (e t) want) e h n := aops_some rfl
theorem aops_field {dst : Option Tmp} {ty : TypeId} {pos : String} {after : Array Edge} {t : TypeId} {x : Operand} {f : Nat} : aops P ops Q (⟨dst, .field t x f, ty, pos, after, none⟩ :: rest) e h n = aRes P ops Q rest dst (aev P n (.field t x f) e h) e h n := rfl
theorem aopsG_field {dst : Option Tmp} {ty : TypeId} {pos : String} {after : Array Edge} {j : Nat} {want : Bool} {t : TypeId} {x : Operand} {f : Nat} : aops P ops Q (⟨dst, .field t x f, ty, pos, after, some (j, want)⟩ :: rest) e h n = aGrd P ops Q rest dst (.field t x f) ((slotOf ops j).bind fun t => guardB (e t) want) e h n := aops_some rfl
theorem aops_indexAddr {dst : Option Tmp} {ty : TypeId} {pos : String} {after : Array Edge} {t : TypeId} {x i : Operand} : aops P ops Q (⟨dst, .indexAddr t x i, ty, pos, after, none⟩ :: rest) e h n = aRes P ops Q rest dst (aev P n (.indexAddr t x i) e h) e h n := rfl
theorem aopsG_indexAddr {dst : Option Tmp} {ty : TypeId} {pos : String} {after : Array Edge} {j : Nat} {want : Bool} {t : TypeId} {x i : Operand} : aops P ops Q (⟨dst, .indexAddr t x i, ty, pos, after, some (j, want)⟩ :: rest) e h n = aGrd P ops Q rest dst (.indexAddr t x i) ((slotOf ops j).bind fun t => guardB (e t) want) e h n := aops_some rfl
theorem aops_index {dst : Option Tmp} {ty : TypeId} {pos : String} {after : Array Edge} {t : TypeId} {x i : Operand} : aops P ops Q (⟨dst, .index t x i, ty, pos, after, none⟩ :: rest) e h n = aRes P ops Q rest dst (aev P n (.index t x i) e h) e h n := rfl
theorem aopsG_index {dst : Option Tmp} {ty : TypeId} {pos : String} {after : Array Edge} {j : Nat} {want : Bool} {t : TypeId} {x i : Operand} : aops P ops Q (⟨dst, .index t x i, ty, pos, after, some (j, want)⟩ :: rest) e h n = aGrd P ops Q rest dst (.index t x i) ((slotOf ops j).bind fun t => guardB (e t) want) e h n := aops_some rfl
theorem aops_extract {dst : Option Tmp} {ty : TypeId} {pos : String} {after : Array Edge} {x : Operand} {i : Nat} : aops P ops Q (⟨dst, .extract x i, ty, pos, after, none⟩ :: rest) e h n = aRes P ops Q rest dst (aev P n (.extract x i) e h) e h n := rfl
theorem aopsG_extract {dst : Option Tmp} {ty : TypeId} {pos : String} {after : Array Edge} {j : Nat} {want : Bool} {x : Operand} {i : Nat} : aops P ops Q (⟨dst, .extract x i, ty, pos, after, some (j, want)⟩ :: rest) e h n = aGrd P ops Q rest dst (.extract x i) ((slotOf ops j).bind fun t => guardB (e t) want) e h n := aops_some rfl
theorem aops_makeMap {dst : Option Tmp} {ty : TypeId} {pos : String} {after : Array Edge} {t : TypeId} {r : Option Operand} : aops P ops Q (⟨dst, .makeMap t r, ty, pos, after, none⟩ :: rest) e h n = aRes P ops Q rest dst (aev P n (.makeMap t r) e h) e h n := rfl
theorem aopsG_makeMap {dst : Option Tmp} {ty : TypeId} {pos : String} {after : Array Edge} {j : Nat} {want : Bool} {t : TypeId} {r : Option Operand} : aops P ops Q (⟨dst, .makeMap t r, ty, pos, after, some (j, want)⟩ :: rest) e h n = aGrd P ops Q rest dst (.makeMap t r) ((slotOf ops j).bind fun t => guardB (e t) want) e h n := aops_some rfl
theorem aops_mapUpdate {dst : Option Tmp} {ty : TypeId} {pos : String} {after : Array Edge} {t : TypeId} {m' k x : Operand} : aops P ops Q (⟨dst, .mapUpdate t m' k x, ty, pos, after, none⟩ :: rest) e h n = aRes P ops Q rest dst (aev P n (.mapUpdate t m' k x) e h) e h n := rfl
theorem aopsG_mapUpdate {dst : Option Tmp} {ty : TypeId} {pos : String} {after : Array Edge} {j : Nat} {want : Bool} {t : TypeId} {m' k x : Operand} : aops P ops Q (⟨dst, .mapUpdate t m' k x, ty, pos, after, some (j, want)⟩ :: rest) e h n = aGrd P ops Q rest dst (.mapUpdate t m' k x) ((slotOf ops j).bind fun t => guardB (e t) want) e h n := aops_some rfl
theorem aops_insert {dst : Option Tmp} {ty : TypeId} {pos : String} {after : Array Edge} {t : TypeId} {m' k x : Operand} : aops P ops Q (⟨dst, .insert t m' k x, ty, pos, after, none⟩ :: rest) e h n = aRes P ops Q rest dst (aev P n (.insert t m' k x) e h) e h n := rfl
theorem aopsG_insert {dst : Option Tmp} {ty : TypeId} {pos : String} {after : Array Edge} {j : Nat} {want : Bool} {t : TypeId} {m' k x : Operand} : aops P ops Q (⟨dst, .insert t m' k x, ty, pos, after, some (j, want)⟩ :: rest) e h n = aGrd P ops Q rest dst (.insert t m' k x) ((slotOf ops j).bind fun t => guardB (e t) want) e h n := aops_some rfl
theorem aops_lookup {dst : Option Tmp} {ty : TypeId} {pos : String} {after : Array Edge} {t : TypeId} {m' k : Operand} {ok : Bool} : aops P ops Q (⟨dst, .lookup t m' k ok, ty, pos, after, none⟩ :: rest) e h n = aRes P ops Q rest dst (aev P n (.lookup t m' k ok) e h) e h n := rfl
theorem aopsG_lookup {dst : Option Tmp} {ty : TypeId} {pos : String} {after : Array Edge} {j : Nat} {want : Bool} {t : TypeId} {m' k : Operand} {ok : Bool} : aops P ops Q (⟨dst, .lookup t m' k ok, ty, pos, after, some (j, want)⟩ :: rest) e h n = aGrd P ops Q rest dst (.lookup t m' k ok) ((slotOf ops j).bind fun t => guardB (e t) want) e h n := aops_some rfl
theorem aops_makeInterface {dst : Option Tmp} {ty : TypeId} {pos : String} {after : Array Edge} {t : TypeId} {x : Operand} : aops P ops Q (⟨dst, .makeInterface t x, ty, pos, after, none⟩ :: rest) e h n = aRes P ops Q rest dst (aev P n (.makeInterface t x) e h) e h n := rfl
theorem aopsG_makeInterface {dst : Option Tmp} {ty : TypeId} {pos : String} {after : Array Edge} {j : Nat} {want : Bool} {t : TypeId} {x : Operand} : aops P ops Q (⟨dst, .makeInterface t x, ty, pos, after, some (j, want)⟩ :: rest) e h n = aGrd P ops Q rest dst (.makeInterface t x) ((slotOf ops j).bind fun t => guardB (e t) want) e h n := aops_some rfl
theorem aops_panic {dst : Option Tmp} {ty : TypeId} {pos : String} {after : Array Edge} {x : Operand} : aops P ops Q (⟨dst, .panic x, ty, pos, after, none⟩ :: rest) e h n = aRes P ops Q rest dst (aev P n (.panic x) e h) e h n := rfl
theorem aopsG_panic {dst : Option Tmp} {ty : TypeId} {pos : String} {after : Array Edge} {j : Nat} {want : Bool} {x : Operand} : aops P ops Q (⟨dst, .panic x, ty, pos, after, some (j, want)⟩ :: rest) e h n = aGrd P ops Q rest dst (.panic x) ((slotOf ops j).bind fun t => guardB (e t) want) e h n := aops_some rfl
theorem aops_builtin {dst : Option Tmp} {ty : TypeId} {pos : String} {after : Array Edge} {b : Builtin} {args : Array Operand} {ats : Array TypeId} : aops P ops Q (⟨dst, .call ⟨.builtin b, args, ats⟩, ty, pos, after, none⟩ :: rest) e h n = aRes P ops Q rest dst (aev P n (.call ⟨.builtin b, args, ats⟩) e h) e h n := rfl
theorem aopsG_builtin {dst : Option Tmp} {ty : TypeId} {pos : String} {after : Array Edge} {j : Nat} {want : Bool} {b : Builtin} {args : Array Operand} {ats : Array TypeId} : aops P ops Q (⟨dst, .call ⟨.builtin b, args, ats⟩, ty, pos, after, some (j, want)⟩ :: rest) e h n = aGrd P ops Q rest dst (.call ⟨.builtin b, args, ats⟩) ((slotOf ops j).bind fun t => guardB (e t) want) e h n := aops_some rfl
theorem aRes_0 {d : Tmp} {c : Prop} {x : AV} : aRes P ops Q rest (some d) ⟨c, x, [], 0⟩ e h n = VC c (aopsL P ops Q rest (upd e d x) h n) := rfl
theorem aRes_0n {c : Prop} {x : AV} : aRes P ops Q rest none ⟨c, x, [], 0⟩ e h n = VC c (aopsL P ops Q rest e h n) := rfl
theorem aRes_1 {d : Tmp} {c : Prop} {x : AV} {o : Nat} {y : Option AObj} {al : Nat} : aRes P ops Q rest (some d) ⟨c, x, [(o, y)], al⟩ e h n = VC c (aopsL P ops Q rest (upd e d x) (upd h o y) (n + al)) := rfl
theorem aRes_1n {c : Prop} {x : AV} {o : Nat} {y : Option AObj} {al : Nat} : aRes P ops Q rest none ⟨c, x, [(o, y)], al⟩ e h n = VC c (aopsL P ops Q rest e (upd h o y) (n + al)) := rfl
theorem aResG_0 {d : Tmp} {g : Bool} {c : Prop} {x : AV} : aResG P ops Q rest (some d) g ⟨c, x, [], 0⟩ e h n = VC (g = true → c) (aopsL P ops Q rest (upd e d (.gd g x)) h n) := by
 cases g <;> simp [aResG, put, VC, aopsL, gW, gN, applyW]
theorem aResG_T {d : Tmp} {c : Prop} {x : AV} {o : Nat} {y : Option AObj} {al : Nat} : aResG P ops Q rest (some d) true ⟨c, x, [(o, y)], al⟩ e h n = VC c (aopsL P ops Q rest (upd e d (.gd true x)) (upd h o y) (n + al)) := by
 simp [aResG, put, VC, aopsL, gW, gN, applyW]
theorem aResG_Tn {c : Prop} {x : AV} {o : Nat} {y : Option AObj} {al : Nat} : aResG P ops Q rest none true ⟨c, x, [(o, y)], al⟩ e h n = VC c (aopsL P ops Q rest e (upd h o y) (n + al)) := by
 simp [aResG, put, VC, aopsL, gW, gN, applyW]
theorem aResG_F {d : Tmp} {r : Res} : aResG P ops Q rest (some d) false r e h n = aops P ops Q rest (upd e d (.gd false r.val)) h n := by
 simp [aResG, put, VC, gW, gN, applyW]
theorem aResG_Fn {r : Res} : aResG P ops Q rest none false r e h n = aops P ops Q rest e h n := by
 simp [aResG, put, VC, gW, gN, applyW]
theorem aGrd_some {dst : Option Tmp} {op : Op} {g : Bool} : aGrd P ops Q rest dst op (some g) e h n = (VQ (∀ t ∈ gT op, okG g (e t)) (aResG P ops Q rest dst g (aev P n op (gE op e) h) e h n)) := rfl
theorem aCall_fn {dst : Option Tmp} {f : FuncId} {first caps args : List AV} :
  aCall P ops Q rest dst (.fn (.func f) first caps) args e h n = ACallP P f (first ++ args ++ caps) h n fun r h' n' => aops P ops Q rest (put e dst r) h' n' := by
 unfold aCall
 simp only [acall]
 exact propext ⟨fun h => h.elim id (fun h => (ycall_func h).elim), .inl⟩
theorem aCall_yield {dst : Option Tmp} {l : Nat} {args : List AV} : aCall P ops Q rest dst (.fn (.yield l) [] []) args e h n = aYld P ops Q rest dst l args e h n := by
 unfold aCall aYld
 simp only [acall]
 exact propext ⟨fun h => h.elim False.elim id, .inr⟩
end
theorem put_some (e : Env) (d : Nat) (x : AV) : put e (some d) x = upd e d x := rfl
theorem put_none (e : Env) (x : AV) : put e none x = e := rfl

section congr
variable {P : Program} {n0 : Nat} {Q : Post} {e e' : Env} {h h' : Heap} {n n' : Nat} {ops rest : List Oper}
@[congr] theorem awp_congr {c : Code} (h3 : n = n') : awp P n0 c Q e h n = awp P n0 c Q e h n' := by subst h3; rfl
@[congr] theorem aCond_congr {a b : Code} {x x' : AV} (h0 : x = x') : aCond P n0 a b Q x e h n = aCond P n0 a b Q x' e h n := by subst h0; rfl
@[congr] theorem aops_congr (h3 : n = n') : aops P ops Q rest e h n = aops P ops Q rest e h n' := by subst h3; rfl
@[congr] theorem aRes_congr {dst : Option Tmp} {r r' : Res} (h0 : r = r') : aRes P ops Q rest dst r e h n = aRes P ops Q rest dst r' e h n := by subst h0; rfl
@[congr] theorem aResG_congr {dst : Option Tmp} {g g' : Bool} {r r' : Res} (hg : g = g') (h0 : r = r') : aResG P ops Q rest dst g r e h n = aResG P ops Q rest dst g' r' e h n := by subst h0 hg; rfl
@[congr] theorem aCall_congr {dst : Option Tmp} {fv fv' : AV} {args args' : List AV} (h0 : fv = fv') (h1 : args = args') : aCall P ops Q rest dst fv args e h n = aCall P ops Q rest dst fv' args' e h n := by subst h0 h1; rfl
@[congr] theorem aGrd_congr {dst : Option Tmp} {op : Op} {g g' : Option Bool} (h0 : g = g') : aGrd P ops Q rest dst op g e h n = aGrd P ops Q rest dst op g' e h n := by subst h0; rfl
@[congr] theorem ACallP_congr {f : FuncId} {args args' : List AV} {K : CallK} (h1 : args = args') : ACallP P f args h n K = ACallP P f args' h n K := by subst h1; rfl
@[congr] theorem ALoop_congr {B : Post → Env → Heap → Nat → Prop} (h3 : n = n') : ALoop n0 B Q e h n = ALoop n0 B Q e h n' := by subst h3; rfl
@[congr] theorem QSeq_congr {K : Env → Heap → Nat → Prop} {x : Exit} (h3 : n = n') : QSeq K Q x e h n = QSeq K Q x e h n' := by subst h3; rfl
@[congr] theorem QScope_congr {x : Exit} (h3 : n = n') : QScope Q x e h n = QScope Q x e h n' := by subst h3; rfl
@[congr] theorem QBlock_congr {id : Nat} {x : Exit} (h3 : n = n') : QBlock id Q x e h n = QBlock id Q x e h n' := by subst h3; rfl
end congr

theorem Bel_top {n : Nat} : Bel n .top = True := eq_true .top
theorem Bel_v {n : Nat} {x : Value} : Bel n (.v x) = True := eq_true (.v x)
theorem Bel_agg {n : Nat} {cs : List AV} : Bel n (.agg cs) = ∀ c ∈ cs, Bel n c := propext ⟨fun h => by cases h; assumption, .agg⟩
theorem Bel_tup {n : Nat} {cs : List AV} : Bel n (.tup cs) = ∀ c ∈ cs, Bel n c := propext ⟨fun h => by cases h; assumption, .tup⟩
theorem Bel_lst {n sz : Nat} {rows : List (List AV)} : Bel n (.lst sz rows) = ∀ r ∈ rows, ∀ c ∈ r, Bel n c := propext ⟨fun h => by cases h; assumption, .lst⟩
theorem Bel_fp {n : Nat} {cs : List AV} : Bel n (.fp cs) = ∀ c ∈ cs, Bel n c := propext ⟨fun h => by cases h; assumption, .fp⟩
theorem Bel_ref {n o g sz i off : Nat} : Bel n (.ref o g sz i off) = (o < n) := propext ⟨fun h => by cases h; assumption, .ref⟩
theorem Bel_sl {n o g sz i len : Nat} : Bel n (.sl o g sz i len) = (o < n) := propext ⟨fun h => by cases h; assumption, .sl⟩
theorem Bel_fn {n : Nat} {f : Fn} {a b : List AV} : Bel n (.fn f a b) = ((∀ c ∈ a, Bel n c) ∧ ∀ c ∈ b, Bel n c) := propext ⟨fun h => by cases h; exact ⟨by assumption, by assumption⟩, fun h => .fn h.1 h.2⟩
theorem Bel_mp {n o : Nat} : Bel n (.mp o) = (o < n) := propext ⟨fun h => by cases h; assumption, .mp⟩
theorem Bel_gd {n : Nat} {g : Bool} {x : AV} : Bel n (.gd g x) = Bel n x := propext ⟨fun h => by cases h; assumption, .gd⟩

theorem okG_self {g : Bool} {x : AV} : okG g (.gd g x) = True := eq_true (fun h => h)
theorem okG_gd {g g' : Bool} {x : AV} : okG g (.gd g' x) = (g = true → g' = true) := rfl
theorem okG_v {g : Bool} {x : Value} : okG g (.v x) = True := rfl
theorem okG_ref {o g sz i off : Nat} {b : Bool} : okG b (.ref o g sz i off) = True := rfl
theorem okG_sl {o g sz i len : Nat} {b : Bool} : okG b (.sl o g sz i len) = True := rfl
theorem okG_lst {b : Bool} {sz : Nat} {rows : List (List AV)} : okG b (.lst sz rows) = True := rfl
theorem okG_fp {b : Bool} {cs : List AV} : okG b (.fp cs) = True := rfl
theorem okG_agg {b : Bool} {cs : List AV} : okG b (.agg cs) = True := rfl
theorem okG_tup {b : Bool} {cs : List AV} : okG b (.tup cs) = True := rfl
theorem okG_fn {b : Bool} {f : Fn} {x y : List AV} : okG b (.fn f x y) = True := rfl
theorem okG_top {b : Bool} : okG b .top = True := rfl
attribute [go_sem high] okG_self
attribute [go_sem] VC_aops aIf_trueL aIf_falseL VQ_true VC_false nth_zero nth_succ nth_map cel_zero cel_succ cel_map awp_skip awp_label awp_region awp_seq awp_cond aCond_bool awp_block awp_loop awp_exit awp_ret QSeq_normal QSeq_exit QSeq_ret QBlock_normal QBlock_exit QBlock_ret awp_scope QScope_normal QScope_exit QScope_ret RetQ_ret RetQ_normal
 aops_makeMap aopsG_makeMap aops_mapUpdate aopsG_mapUpdate aops_insert aopsG_insert aops_lookup aopsG_lookup evMakeMap evMapUpd evLookup keyK keyEq mapFind mapPut
 aops_nil aops_call aops_move aopsG_move aops_assign aopsG_assign aops_pick aopsG_pick aops_alloc aopsG_alloc aops_box aopsG_box aops_build aopsG_build aops_buildSlice aopsG_buildSlice aops_load aopsG_load aops_store aopsG_store aops_binOp aopsG_binOp aops_unOp aopsG_unOp aops_nilCheck aopsG_nilCheck aops_convert aopsG_convert aops_makeFunc aopsG_makeFunc aops_makeSlice aopsG_makeSlice aops_slice aopsG_slice aops_fieldAddr aopsG_fieldAddr aops_field aopsG_field aops_indexAddr aopsG_indexAddr aops_index aopsG_index aops_extract aopsG_extract aops_makeInterface aopsG_makeInterface aops_panic aopsG_panic aops_builtin aopsG_builtin aRes_0 aRes_0n aRes_1 aRes_1n aResG_0 aResG_T aResG_Tn aResG_F aResG_Fn aGrd_some aCall_fn put_some put_none aev ev ofV upd_apply evPick pB evEq evBin2 evMin evMax evCopy evNil evClear eqS mixCells gE gT evBin evUn evConv evLoad evStore evFieldAddr evField evIndexAddr evIndex evLen ldRow
 applyW unG okG_gd okG_v okG_ref okG_sl okG_lst okG_fp okG_agg okG_tup okG_fn okG_top opTmps Op.operands Call.operands guardB slotOf AV.cells AV.okCells AV.isCell alive rowsOf evStr bytesOf evApp isInt evAppendN evCap keepQ evAppendK evAppend evMakeSlice evSlice evBuild evBuildSlice fillRows fillCells fillArr setMany optInt resL resV argE
 Bel_top Bel_v Bel_agg Bel_tup Bel_lst Bel_fp Bel_ref Bel_sl Bel_fn Bel_mp Bel_gd

section draw
variable {P : Program} {n0 : Nat} {Q : Post} {e e' : Env} {h h' : Heap} {n i i' : Nat} {ops rest : List Oper} {acc : List DRec} {K : Env → Heap → List DRec → Prop}
def dEnd (Q : Post) (ops : List Oper) (n : Nat) (e : Env) (h : Heap) (recs : List DRec) : Prop := okDraw ops recs = true ∧ ((noNew recs = true ∧ Q .normal e h n) ∨ Q .normal e h (n + 16 * ops.length))
def adr (P : Program) (n : Nat) (ops : List Oper) (Q : Post) (m : Nat) (i : Nat) (rest : List Oper) (e : Env) (h : Heap) (acc : List DRec) : Prop := adrawGo P n ops (dEnd Q ops m) i rest e h acc
def adrL (P : Program) (n : Nat) (ops : List Oper) (Q : Post) (m : Nat) (i : Nat) (rest : List Oper) (e : Env) (h : Heap) (acc : List DRec) : Prop := adrawGo P n ops (dEnd Q ops m) i rest e h acc
variable {m : Nat}
def adrZ (P : Program) (n : Nat) (ops : List Oper) (Q : Post) (e : Env) (h : Heap) : Prop := ∃ h', Frz h h' ∧ adraw P ops Q e h' n
theorem adr_draw (hk : adr P n ops Q (n + ops.length) 0 ops e h []) : adraw P ops Q e h n := by
 refine ⟨ops.length, ?_⟩
 rw [List.take_length, List.drop_length]
 exact hk
theorem wZ (hk : adr P n ops Q (n + ops.length) 0 ops e h []) : adrZ P n ops Q e h := ⟨h, .refl h, adr_draw hk⟩
theorem adrZ.frz (h' : Heap) (hf : Frz h h') (hk : adr P n ops Q (n + ops.length) 0 ops e h' []) : adrZ P n ops Q e h := ⟨h', hf, adr_draw hk⟩
def QTail (P : Program) (ops : List Oper) (Q : Post) (k : Nat) : Post
 | .normal, e, h, n => aops P ops Q (ops.drop k) e h n
 | _, _, _, _ => False
theorem QTail_normal {k : Nat} : QTail P ops Q k .normal e h n = aops P ops Q (ops.drop k) e h n := rfl
theorem adrZ.split (k : Nat) (hk : adr P n ops (QTail P ops Q k) (n + ops.length) 0 (ops.take k) e h []) : adrZ P n ops Q e h := ⟨h, .refl h, k, hk⟩
attribute [go_sem] QTail_normal
theorem awp_draw (id : Nat) (ops : List Oper) : awp P n0 (.region id ops.toArray true) Q e h n = adrZ P n ops Q e h := rfl
def dRes (P : Program) (n : Nat) (ops : List Oper) (Q : Post) (m : Nat) (i : Nat) (rest : List Oper) (dst : Option Tmp) (rd : List Nat) (r : Res) (e : Env) (h : Heap) (acc : List DRec) : Prop :=
 VC r.cond (adr P n ops Q m (i + 1) rest (put e dst r.val) (applyW r.wr h) (acc ++ [(rd, r.wr.map (·.1))]))
def dResG (P : Program) (n : Nat) (ops : List Oper) (Q : Post) (m : Nat) (i : Nat) (rest : List Oper) (dst : Option Tmp) (g : Bool) (rd : List Nat) (r : Res) (e : Env) (h : Heap) (acc : List DRec) : Prop :=
 VC (g = true → r.cond) (adr P n ops Q m (i + 1) rest (put e dst (.gd g r.val)) (applyW (gW g r.wr) h) (acc ++ [(rd, (gW g r.wr).map (·.1))]))
def dGrd (P : Program) (n : Nat) (ops : List Oper) (Q : Post) (m : Nat) (i : Nat) (rest : List Oper) (dst : Option Tmp) (op : Op) (g : Option Bool) (e : Env) (h : Heap) (acc : List DRec) : Prop :=
 match g with
 | none => False
 | some g => VQ (∀ t ∈ gT op, okG g (e t)) (dResG P n ops Q m i rest dst g ((op.operands.toList.map (ev (gE op e))).flatMap AV.ids) (aev P (n + i) op (gE op e) h) e h acc)
def dCall (P : Program) (n : Nat) (ops : List Oper) (Q : Post) (m : Nat) (i : Nat) (rest : List Oper) (dst : Option Tmp) (fv : AV) (args : List AV) (e : Env) (h : Heap) (acc : List DRec) : Prop :=
 ∃ r S wr, PCallW P (n + ops.length + 16 * i) fv args h r S wr ∧ adr P n ops Q m (i + 1) rest (put e dst r) (applyW wr h) (acc ++ [(S, wr.map (·.1))])
theorem adr_nil : adr P n ops Q m i [] e h acc = dEnd Q ops m e h acc := rfl
theorem adr_none {dst : Option Tmp} {op : Op} {ty : TypeId} {pos : String} {after : Array Edge} (hc : isCall op = false) :
  adr P n ops Q m i (⟨dst, op, ty, pos, after, none⟩ :: rest) e h acc = dRes P n ops Q m i rest dst ((op.operands.toList.map (ev e)).flatMap AV.ids) (aev P (n + i) op e h) e h acc := by
 unfold adr dRes
 cases op with
 | call c =>
  obtain ⟨callee, args, ats⟩ := c
  cases callee with
  | value f => simp [isCall] at hc
  | _ => rfl
 | _ => rfl
theorem adr_call {dst : Option Tmp} {f : Operand} {args : Array Operand} {ats : Array TypeId} {ty : TypeId} {pos : String} {after : Array Edge} :
  adr P n ops Q m i (⟨dst, .call ⟨.value f, args, ats⟩, ty, pos, after, none⟩ :: rest) e h acc = dCall P n ops Q m i rest dst (ev e f) (args.toList.map (ev e)) e h acc := rfl
theorem adr_some {dst : Option Tmp} {op : Op} {ty : TypeId} {pos : String} {after : Array Edge} {j : Nat} {want : Bool} (hc : isCall op = false) :
  adr P n ops Q m i (⟨dst, op, ty, pos, after, some (j, want)⟩ :: rest) e h acc = dGrd P n ops Q m i rest dst op ((slotOf ops j).bind fun t => guardB (e t) want) e h acc := by
 unfold adr dGrd dResG
 cases op with
 | call c =>
  obtain ⟨callee, args, ats⟩ := c
  cases callee with
  | value f => simp [isCall] at hc
  | _ => rfl
 | _ => rfl
theorem VC_adr : VC True (adrL P n ops Q m i rest e h acc) = adr P n ops Q m i rest e h acc := by simp [VC, adrL, adr]
theorem VC.mkD {a : Prop} (h1 : a) (h2 : a → adr P n ops Q m i rest e h acc) : VC a (adrL P n ops Q m i rest e h acc) := ⟨h1, h2 h1⟩
theorem dEnd.mk {recs : List DRec} (h1 : (okDraw ops recs && noNew recs) = true) (h2 : Q .normal e h n) : dEnd Q ops n e h recs := by
 rw [Bool.and_eq_true] at h1
 exact ⟨h1.1, .inl ⟨h1.2, h2⟩⟩
theorem dEnd.mkN {recs : List DRec} (h1 : okDraw ops recs = true) (h2 : Q .normal e h (n + 16 * ops.length)) : dEnd Q ops n e h recs := ⟨h1, .inr h2⟩
theorem wL {a : Prop} (h2 : a → aops P ops Q rest e h n) (h1 : a := by first | omega | exact True.intro | rfl) : VC a (aopsL P ops Q rest e h n) := ⟨h1, h2 h1⟩
theorem wD {a : Prop} (h2 : a → adr P n ops Q m i rest e h acc) (h1 : a := by first | omega | exact True.intro | (intros; omega)) : VC a (adrL P n ops Q m i rest e h acc) := ⟨h1, h2 h1⟩
theorem wE {recs : List DRec} (h2 : Q .normal e h n) (h1 : (okDraw ops recs && noNew recs) = true := by kernel_rfl) : dEnd Q ops n e h recs := dEnd.mk h1 h2
theorem dRes_0 {d : Tmp} {rd : List Nat} {c : Prop} {x : AV} : dRes P n ops Q m i rest (some d) rd ⟨c, x, [], 0⟩ e h acc = VC c (adrL P n ops Q m (i + 1) rest (upd e d x) h (acc ++ [(rd, [])])) := rfl
theorem dRes_0n {rd : List Nat} {c : Prop} {x : AV} : dRes P n ops Q m i rest none rd ⟨c, x, [], 0⟩ e h acc = VC c (adrL P n ops Q m (i + 1) rest e h (acc ++ [(rd, [])])) := rfl
theorem dRes_1 {d : Tmp} {rd : List Nat} {c : Prop} {x : AV} {o : Nat} {y : Option AObj} {al : Nat} : dRes P n ops Q m i rest (some d) rd ⟨c, x, [(o, y)], al⟩ e h acc = VC c (adrL P n ops Q m (i + 1) rest (upd e d x) (upd h o y) (acc ++ [(rd, [o])])) := rfl
theorem dRes_1n {rd : List Nat} {c : Prop} {x : AV} {o : Nat} {y : Option AObj} {al : Nat} : dRes P n ops Q m i rest none rd ⟨c, x, [(o, y)], al⟩ e h acc = VC c (adrL P n ops Q m (i + 1) rest e (upd h o y) (acc ++ [(rd, [o])])) := rfl
theorem dResG_0 {d : Tmp} {g : Bool} {rd : List Nat} {c : Prop} {x : AV} : dResG P n ops Q m i rest (some d) g rd ⟨c, x, [], 0⟩ e h acc = VC (g = true → c) (adrL P n ops Q m (i + 1) rest (upd e d (.gd g x)) h (acc ++ [(rd, [])])) := by
 cases g <;> simp [dResG, put, VC, adr, adrL, gW, applyW]
theorem dResG_T {d : Tmp} {rd : List Nat} {c : Prop} {x : AV} {o : Nat} {y : Option AObj} {al : Nat} : dResG P n ops Q m i rest (some d) true rd ⟨c, x, [(o, y)], al⟩ e h acc = VC c (adrL P n ops Q m (i + 1) rest (upd e d (.gd true x)) (upd h o y) (acc ++ [(rd, [o])])) := by
 simp [dResG, put, VC, adr, adrL, gW, applyW]
theorem dResG_Tn {rd : List Nat} {c : Prop} {x : AV} {o : Nat} {y : Option AObj} {al : Nat} : dResG P n ops Q m i rest none true rd ⟨c, x, [(o, y)], al⟩ e h acc = VC c (adrL P n ops Q m (i + 1) rest e (upd h o y) (acc ++ [(rd, [o])])) := by
 simp [dResG, put, VC, adr, adrL, gW, applyW]
theorem dResG_F {d : Tmp} {rd : List Nat} {r : Res} : dResG P n ops Q m i rest (some d) false rd r e h acc = adr P n ops Q m (i + 1) rest (upd e d (.gd false r.val)) h (acc ++ [(rd, [])]) := by
 simp [dResG, put, VC, adr, gW, applyW]
theorem dResG_Fn {rd : List Nat} {r : Res} : dResG P n ops Q m i rest none false rd r e h acc = adr P n ops Q m (i + 1) rest e h (acc ++ [(rd, [])]) := by
 simp [dResG, put, VC, adr, gW, applyW]
theorem dGrd_some {dst : Option Tmp} {op : Op} {g : Bool} : dGrd P n ops Q m i rest dst op (some g) e h acc = VQ (∀ t ∈ gT op, okG g (e t)) (dResG P n ops Q m i rest dst g ((op.operands.toList.map (ev (gE op e))).flatMap AV.ids) (aev P (n + i) op (gE op e) h) e h acc) := rfl
theorem dCall.flat {dst : Option Tmp} {f : FuncId} {first caps args : List AV} (args' : List AV) (r : AV) (S : List Nat) (hp : Pure P f args' r) (hfl : Flat r) (hle : ∀ h₁ : Heap, (∀ o ∈ S, h o = h₁ o) → LeRow h₁ noH 0 (first ++ args ++ caps) args') (hb : ∀ c ∈ args', Bel 0 c)
  (hk : adr P n ops Q m (i + 1) rest (put e dst r) h (acc ++ [(S, [])])) : dCall P n ops Q m i rest dst (.fn (.func f) first caps) args e h acc := ⟨r, S, [], .inl ⟨rfl, f, first, caps, args', rfl, hb, hp, .inl ⟨hle, hfl⟩⟩, hk⟩
theorem dCall.plain {dst : Option Tmp} {f : FuncId} {first caps args : List AV} {r : AV} (hp : Pure P f (first ++ args ++ caps) r) (hb : ∀ c ∈ first ++ args ++ caps, Bel 0 c)
  (hk : adr P n ops Q m (i + 1) rest (put e dst r) h (acc ++ [([], [])])) : dCall P n ops Q m i rest dst (.fn (.func f) first caps) args e h acc := ⟨r, [], [], .inl ⟨rfl, f, first, caps, _, rfl, hb, hp, .inr rfl⟩, hk⟩
theorem dCall.frz {dst : Option Tmp} {f : FuncId} {first caps args : List AV} (args' : List AV) (r : AV) (S : List Nat) (wr : List (Nat × Option AObj)) (hp : Pure P f args' r)
  (hw : ∀ p ∈ wr, p.1 ∈ S ∧ ∃ g sz rs, p.2 = some (.rows false g sz rs) ∧ h p.1 = some (.rows true g sz rs)) (hle : ∀ h₁ : Heap, (∀ o ∈ S, h o = h₁ o) → LeRow h₁ (applyW wr h₁) 0 (first ++ args ++ caps) args') (hb : ∀ c ∈ args', Bel 0 c)
  (hk : adr P n ops Q m (i + 1) rest (put e dst r) (applyW wr h) (acc ++ [(S, wr.map (·.1))])) : dCall P n ops Q m i rest dst (.fn (.func f) first caps) args e h acc := ⟨r, S, wr, .inr (.inl ⟨f, first, caps, args', rfl, hb, hp, hw, hle⟩), hk⟩
@[congr] theorem adr_congr (h1 : i = i') : adr P n ops Q m i rest e h acc = adr P n ops Q m i' rest e h acc := by subst h1; rfl
@[congr] theorem adrL_congr (h1 : i = i') : adrL P n ops Q m i rest e h acc = adrL P n ops Q m i' rest e h acc := by subst h1; rfl
@[congr] theorem dRes_congr {dst : Option Tmp} {rd rd' : List Nat} {r r' : Res} (h1 : i = i') (h2 : rd = rd') (h0 : r = r') : dRes P n ops Q m i rest dst rd r e h acc = dRes P n ops Q m i' rest dst rd' r' e h acc := by subst h0 h1 h2; rfl
@[congr] theorem dResG_congr {dst : Option Tmp} {g g' : Bool} {rd rd' : List Nat} {r r' : Res} (h1 : i = i') (hg : g = g') (h2 : rd = rd') (h0 : r = r') : dResG P n ops Q m i rest dst g rd r e h acc = dResG P n ops Q m i' rest dst g' rd' r' e h acc := by subst h0 h1 h2 hg; rfl
@[congr] theorem dGrd_congr {dst : Option Tmp} {op : Op} {g g' : Option Bool} (h1 : i = i') (h0 : g = g') : dGrd P n ops Q m i rest dst op g e h acc = dGrd P n ops Q m i' rest dst op g' e h acc := by subst h0 h1; rfl
@[congr] theorem dCall_congr {dst : Option Tmp} {fv fv' : AV} {args args' : List AV} (h1 : i = i') (h0 : fv = fv') (h2 : args = args') : dCall P n ops Q m i rest dst fv args e h acc = dCall P n ops Q m i' rest dst fv' args' e h acc := by subst h0 h1 h2; rfl
@[congr] theorem dEnd_congr {acc acc' : List DRec} {n' : Nat} (h1 : n = n') (h0 : acc = acc') : dEnd Q ops n e h acc = dEnd Q ops n' e h acc' := by subst h0 h1; rfl
end draw
section drawEq
variable {P : Program} {Q : Post} {e : Env} {h : Heap} {n m i : Nat} {ops rest : List Oper} {acc : List DRec} {dst : Option Tmp} {ty : TypeId} {pos : String} {after : Array Edge} {j : Nat} {want : Bool}
theorem adr_move {x : Operand} : adr P n ops Q m i (⟨dst, .move x, ty, pos, after, none⟩ :: rest) e h acc = dRes P n ops Q m i rest dst (((.move x : Op).operands.toList.map (ev e)).flatMap AV.ids) (aev P (n + i) (.move x) e h) e h acc := adr_none rfl
theorem adrG_move {x : Operand} : adr P n ops Q m i (⟨dst, .move x, ty, pos, after, some (j, want)⟩ :: rest) e h acc = dGrd P n ops Q m i rest dst (.move x) ((slotOf ops j).bind fun t => guardB (e t) want) e h acc := adr_some rfl
theorem adr_assign {x : Operand} : adr P n ops Q m i (⟨dst, .assign x, ty, pos, after, none⟩ :: rest) e h acc = dRes P n ops Q m i rest dst (((.assign x : Op).operands.toList.map (ev e)).flatMap AV.ids) (aev P (n + i) (.assign x) e h) e h acc := adr_none rfl
theorem adrG_assign {x : Operand} : adr P n ops Q m i (⟨dst, .assign x, ty, pos, after, some (j, want)⟩ :: rest) e h acc = dGrd P n ops Q m i rest dst (.assign x) ((slotOf ops j).bind fun t => guardB (e t) want) e h acc := adr_some rfl
theorem adr_pick {c a b : Operand} : adr P n ops Q m i (⟨dst, .pick c a b, ty, pos, after, none⟩ :: rest) e h acc = dRes P n ops Q m i rest dst (((.pick c a b : Op).operands.toList.map (ev e)).flatMap AV.ids) (aev P (n + i) (.pick c a b) e h) e h acc := adr_none rfl
theorem adrG_pick {c a b : Operand} : adr P n ops Q m i (⟨dst, .pick c a b, ty, pos, after, some (j, want)⟩ :: rest) e h acc = dGrd P n ops Q m i rest dst (.pick c a b) ((slotOf ops j).bind fun t => guardB (e t) want) e h acc := adr_some rfl
theorem adr_alloc {t : TypeId} : adr P n ops Q m i (⟨dst, .alloc t, ty, pos, after, none⟩ :: rest) e h acc = dRes P n ops Q m i rest dst (((.alloc t : Op).operands.toList.map (ev e)).flatMap AV.ids) (aev P (n + i) (.alloc t) e h) e h acc := adr_none rfl
theorem adrG_alloc {t : TypeId} : adr P n ops Q m i (⟨dst, .alloc t, ty, pos, after, some (j, want)⟩ :: rest) e h acc = dGrd P n ops Q m i rest dst (.alloc t) ((slotOf ops j).bind fun t => guardB (e t) want) e h acc := adr_some rfl
theorem adr_box {t : TypeId} {x : Operand} : adr P n ops Q m i (⟨dst, .box t x, ty, pos, after, none⟩ :: rest) e h acc = dRes P n ops Q m i rest dst (((.box t x : Op).operands.toList.map (ev e)).flatMap AV.ids) (aev P (n + i) (.box t x) e h) e h acc := adr_none rfl
theorem adrG_box {t : TypeId} {x : Operand} : adr P n ops Q m i (⟨dst, .box t x, ty, pos, after, some (j, want)⟩ :: rest) e h acc = dGrd P n ops Q m i rest dst (.box t x) ((slotOf ops j).bind fun t => guardB (e t) want) e h acc := adr_some rfl
theorem adr_build {t : TypeId} {ps : Array (Nat × Operand)} : adr P n ops Q m i (⟨dst, .build t ps, ty, pos, after, none⟩ :: rest) e h acc = dRes P n ops Q m i rest dst (((.build t ps : Op).operands.toList.map (ev e)).flatMap AV.ids) (aev P (n + i) (.build t ps) e h) e h acc := adr_none rfl
theorem adrG_build {t : TypeId} {ps : Array (Nat × Operand)} : adr P n ops Q m i (⟨dst, .build t ps, ty, pos, after, some (j, want)⟩ :: rest) e h acc = dGrd P n ops Q m i rest dst (.build t ps) ((slotOf ops j).bind fun t => guardB (e t) want) e h acc := adr_some rfl
theorem adr_buildSlice {t : TypeId} {k : Nat} {ps : Array (Nat × Operand)} : adr P n ops Q m i (⟨dst, .buildSlice t k ps, ty, pos, after, none⟩ :: rest) e h acc = dRes P n ops Q m i rest dst (((.buildSlice t k ps : Op).operands.toList.map (ev e)).flatMap AV.ids) (aev P (n + i) (.buildSlice t k ps) e h) e h acc := adr_none rfl
theorem adrG_buildSlice {t : TypeId} {k : Nat} {ps : Array (Nat × Operand)} : adr P n ops Q m i (⟨dst, .buildSlice t k ps, ty, pos, after, some (j, want)⟩ :: rest) e h acc = dGrd P n ops Q m i rest dst (.buildSlice t k ps) ((slotOf ops j).bind fun t => guardB (e t) want) e h acc := adr_some rfl
theorem adr_load {t : TypeId} {x : Operand} : adr P n ops Q m i (⟨dst, .load t x, ty, pos, after, none⟩ :: rest) e h acc = dRes P n ops Q m i rest dst (((.load t x : Op).operands.toList.map (ev e)).flatMap AV.ids) (aev P (n + i) (.load t x) e h) e h acc := adr_none rfl
theorem adrG_load {t : TypeId} {x : Operand} : adr P n ops Q m i (⟨dst, .load t x, ty, pos, after, some (j, want)⟩ :: rest) e h acc = dGrd P n ops Q m i rest dst (.load t x) ((slotOf ops j).bind fun t => guardB (e t) want) e h acc := adr_some rfl
theorem adr_store {t : TypeId} {x y : Operand} : adr P n ops Q m i (⟨dst, .store t x y, ty, pos, after, none⟩ :: rest) e h acc = dRes P n ops Q m i rest dst (((.store t x y : Op).operands.toList.map (ev e)).flatMap AV.ids) (aev P (n + i) (.store t x y) e h) e h acc := adr_none rfl
theorem adrG_store {t : TypeId} {x y : Operand} : adr P n ops Q m i (⟨dst, .store t x y, ty, pos, after, some (j, want)⟩ :: rest) e h acc = dGrd P n ops Q m i rest dst (.store t x y) ((slotOf ops j).bind fun t => guardB (e t) want) e h acc := adr_some rfl
theorem adr_binOp {o : BinOp} {t : TypeId} {x y : Operand} {t' : TypeId} : adr P n ops Q m i (⟨dst, .binOp o t x y t', ty, pos, after, none⟩ :: rest) e h acc = dRes P n ops Q m i rest dst (((.binOp o t x y t' : Op).operands.toList.map (ev e)).flatMap AV.ids) (aev P (n + i) (.binOp o t x y t') e h) e h acc := adr_none rfl
theorem adrG_binOp {o : BinOp} {t : TypeId} {x y : Operand} {t' : TypeId} : adr P n ops Q m i (⟨dst, .binOp o t x y t', ty, pos, after, some (j, want)⟩ :: rest) e h acc = dGrd P n ops Q m i rest dst (.binOp o t x y t') ((slotOf ops j).bind fun t => guardB (e t) want) e h acc := adr_some rfl
theorem adr_unOp {o : UnOp} {t : TypeId} {x : Operand} : adr P n ops Q m i (⟨dst, .unOp o t x, ty, pos, after, none⟩ :: rest) e h acc = dRes P n ops Q m i rest dst (((.unOp o t x : Op).operands.toList.map (ev e)).flatMap AV.ids) (aev P (n + i) (.unOp o t x) e h) e h acc := adr_none rfl
theorem adr_nilCheck {x : Operand} : adr P n ops Q m i (⟨dst, .nilCheck x, ty, pos, after, none⟩ :: rest) e h acc = dRes P n ops Q m i rest dst (((.nilCheck x : Op).operands.toList.map (ev e)).flatMap AV.ids) (aev P (n + i) (.nilCheck x) e h) e h acc := adr_none rfl
theorem adrG_unOp {o : UnOp} {t : TypeId} {x : Operand} : adr P n ops Q m i (⟨dst, .unOp o t x, ty, pos, after, some (j, want)⟩ :: rest) e h acc = dGrd P n ops Q m i rest dst (.unOp o t x) ((slotOf ops j).bind fun t => guardB (e t) want) e h acc := adr_some rfl
theorem adrG_nilCheck {x : Operand} : adr P n ops Q m i (⟨dst, .nilCheck x, ty, pos, after, some (j, want)⟩ :: rest) e h acc = dGrd P n ops Q m i rest dst (.nilCheck x) ((slotOf ops j).bind fun t => guardB (e t) want) e h acc := adr_some rfl
theorem adr_convert {s d : TypeId} {x : Operand} : adr P n ops Q m i (⟨dst, .convert s d x, ty, pos, after, none⟩ :: rest) e h acc = dRes P n ops Q m i rest dst (((.convert s d x : Op).operands.toList.map (ev e)).flatMap AV.ids) (aev P (n + i) (.convert s d x) e h) e h acc := adr_none rfl
theorem adrG_convert {s d : TypeId} {x : Operand} : adr P n ops Q m i (⟨dst, .convert s d x, ty, pos, after, some (j, want)⟩ :: rest) e h acc = dGrd P n ops Q m i rest dst (.convert s d x) ((slotOf ops j).bind fun t => guardB (e t) want) e h acc := adr_some rfl
theorem adr_fieldAddr {t : TypeId} {x : Operand} {f : Nat} : adr P n ops Q m i (⟨dst, .fieldAddr t x f, ty, pos, after, none⟩ :: rest) e h acc = dRes P n ops Q m i rest dst (((.fieldAddr t x f : Op).operands.toList.map (ev e)).flatMap AV.ids) (aev P (n + i) (.fieldAddr t x f) e h) e h acc := adr_none rfl
theorem adrG_fieldAddr {t : TypeId} {x : Operand} {f : Nat} : adr P n ops Q m i (⟨dst, .fieldAddr t x f, ty, pos, after, some (j, want)⟩ :: rest) e h acc = dGrd P n ops Q m i rest dst (.fieldAddr t x f) ((slotOf ops j).bind fun t => guardB (e t) want) e h acc := adr_some rfl
theorem adr_field {t : TypeId} {x : Operand} {f : Nat} : adr P n ops Q m i (⟨dst, .field t x f, ty, pos, after, none⟩ :: rest) e h acc = dRes P n ops Q m i rest dst (((.field t x f : Op).operands.toList.map (ev e)).flatMap AV.ids) (aev P (n + i) (.field t x f) e h) e h acc := adr_none rfl
theorem adrG_field {t : TypeId} {x : Operand} {f : Nat} : adr P n ops Q m i (⟨dst, .field t x f, ty, pos, after, some (j, want)⟩ :: rest) e h acc = dGrd P n ops Q m i rest dst (.field t x f) ((slotOf ops j).bind fun t => guardB (e t) want) e h acc := adr_some rfl
theorem adr_indexAddr {t : TypeId} {x ix : Operand} : adr P n ops Q m i (⟨dst, .indexAddr t x ix, ty, pos, after, none⟩ :: rest) e h acc = dRes P n ops Q m i rest dst (((.indexAddr t x ix : Op).operands.toList.map (ev e)).flatMap AV.ids) (aev P (n + i) (.indexAddr t x ix) e h) e h acc := adr_none rfl
theorem adrG_indexAddr {t : TypeId} {x ix : Operand} : adr P n ops Q m i (⟨dst, .indexAddr t x ix, ty, pos, after, some (j, want)⟩ :: rest) e h acc = dGrd P n ops Q m i rest dst (.indexAddr t x ix) ((slotOf ops j).bind fun t => guardB (e t) want) e h acc := adr_some rfl
theorem adr_index {t : TypeId} {x ix : Operand} : adr P n ops Q m i (⟨dst, .index t x ix, ty, pos, after, none⟩ :: rest) e h acc = dRes P n ops Q m i rest dst (((.index t x ix : Op).operands.toList.map (ev e)).flatMap AV.ids) (aev P (n + i) (.index t x ix) e h) e h acc := adr_none rfl
theorem adrG_index {t : TypeId} {x ix : Operand} : adr P n ops Q m i (⟨dst, .index t x ix, ty, pos, after, some (j, want)⟩ :: rest) e h acc = dGrd P n ops Q m i rest dst (.index t x ix) ((slotOf ops j).bind fun t => guardB (e t) want) e h acc := adr_some rfl
theorem adr_extract {x : Operand} {fi : Nat} : adr P n ops Q m i (⟨dst, .extract x fi, ty, pos, after, none⟩ :: rest) e h acc = dRes P n ops Q m i rest dst (((.extract x fi : Op).operands.toList.map (ev e)).flatMap AV.ids) (aev P (n + i) (.extract x fi) e h) e h acc := adr_none rfl
theorem adrG_extract {x : Operand} {fi : Nat} : adr P n ops Q m i (⟨dst, .extract x fi, ty, pos, after, some (j, want)⟩ :: rest) e h acc = dGrd P n ops Q m i rest dst (.extract x fi) ((slotOf ops j).bind fun t => guardB (e t) want) e h acc := adr_some rfl
theorem adr_makeMap {t : TypeId} {r : Option Operand} : adr P n ops Q m i (⟨dst, .makeMap t r, ty, pos, after, none⟩ :: rest) e h acc = dRes P n ops Q m i rest dst (((.makeMap t r : Op).operands.toList.map (ev e)).flatMap AV.ids) (aev P (n + i) (.makeMap t r) e h) e h acc := adr_none rfl
theorem adrG_makeMap {t : TypeId} {r : Option Operand} : adr P n ops Q m i (⟨dst, .makeMap t r, ty, pos, after, some (j, want)⟩ :: rest) e h acc = dGrd P n ops Q m i rest dst (.makeMap t r) ((slotOf ops j).bind fun t => guardB (e t) want) e h acc := adr_some rfl
theorem adr_mapUpdate {t : TypeId} {m' k x : Operand} : adr P n ops Q m i (⟨dst, .mapUpdate t m' k x, ty, pos, after, none⟩ :: rest) e h acc = dRes P n ops Q m i rest dst (((.mapUpdate t m' k x : Op).operands.toList.map (ev e)).flatMap AV.ids) (aev P (n + i) (.mapUpdate t m' k x) e h) e h acc := adr_none rfl
theorem adrG_mapUpdate {t : TypeId} {m' k x : Operand} : adr P n ops Q m i (⟨dst, .mapUpdate t m' k x, ty, pos, after, some (j, want)⟩ :: rest) e h acc = dGrd P n ops Q m i rest dst (.mapUpdate t m' k x) ((slotOf ops j).bind fun t => guardB (e t) want) e h acc := adr_some rfl
theorem adr_insert {t : TypeId} {m' k x : Operand} : adr P n ops Q m i (⟨dst, .insert t m' k x, ty, pos, after, none⟩ :: rest) e h acc = dRes P n ops Q m i rest dst (((.insert t m' k x : Op).operands.toList.map (ev e)).flatMap AV.ids) (aev P (n + i) (.insert t m' k x) e h) e h acc := adr_none rfl
theorem adrG_insert {t : TypeId} {m' k x : Operand} : adr P n ops Q m i (⟨dst, .insert t m' k x, ty, pos, after, some (j, want)⟩ :: rest) e h acc = dGrd P n ops Q m i rest dst (.insert t m' k x) ((slotOf ops j).bind fun t => guardB (e t) want) e h acc := adr_some rfl
theorem adr_lookup {t : TypeId} {m' k : Operand} {ok : Bool} : adr P n ops Q m i (⟨dst, .lookup t m' k ok, ty, pos, after, none⟩ :: rest) e h acc = dRes P n ops Q m i rest dst (((.lookup t m' k ok : Op).operands.toList.map (ev e)).flatMap AV.ids) (aev P (n + i) (.lookup t m' k ok) e h) e h acc := adr_none rfl
theorem adrG_lookup {t : TypeId} {m' k : Operand} {ok : Bool} : adr P n ops Q m i (⟨dst, .lookup t m' k ok, ty, pos, after, some (j, want)⟩ :: rest) e h acc = dGrd P n ops Q m i rest dst (.lookup t m' k ok) ((slotOf ops j).bind fun t => guardB (e t) want) e h acc := adr_some rfl
theorem adr_makeSlice {t : TypeId} {l c : Operand} : adr P n ops Q m i (⟨dst, .makeSlice t l c, ty, pos, after, none⟩ :: rest) e h acc = dRes P n ops Q m i rest dst (((.makeSlice t l c : Op).operands.toList.map (ev e)).flatMap AV.ids) (aev P (n + i) (.makeSlice t l c) e h) e h acc := adr_none rfl
theorem adrG_makeSlice {t : TypeId} {l c : Operand} : adr P n ops Q m i (⟨dst, .makeSlice t l c, ty, pos, after, some (j, want)⟩ :: rest) e h acc = dGrd P n ops Q m i rest dst (.makeSlice t l c) ((slotOf ops j).bind fun t => guardB (e t) want) e h acc := adr_some rfl
theorem adr_slice {t : TypeId} {x : Operand} {lo hi mx : Option Operand} : adr P n ops Q m i (⟨dst, .slice t x lo hi mx, ty, pos, after, none⟩ :: rest) e h acc = dRes P n ops Q m i rest dst (((.slice t x lo hi mx : Op).operands.toList.map (ev e)).flatMap AV.ids) (aev P (n + i) (.slice t x lo hi mx) e h) e h acc := adr_none rfl
theorem adrG_slice {t : TypeId} {x : Operand} {lo hi mx : Option Operand} : adr P n ops Q m i (⟨dst, .slice t x lo hi mx, ty, pos, after, some (j, want)⟩ :: rest) e h acc = dGrd P n ops Q m i rest dst (.slice t x lo hi mx) ((slotOf ops j).bind fun t => guardB (e t) want) e h acc := adr_some rfl
theorem adr_makeInterface {t : TypeId} {x : Operand} : adr P n ops Q m i (⟨dst, .makeInterface t x, ty, pos, after, none⟩ :: rest) e h acc = dRes P n ops Q m i rest dst (((.makeInterface t x : Op).operands.toList.map (ev e)).flatMap AV.ids) (aev P (n + i) (.makeInterface t x) e h) e h acc := adr_none rfl
theorem adrG_makeInterface {t : TypeId} {x : Operand} : adr P n ops Q m i (⟨dst, .makeInterface t x, ty, pos, after, some (j, want)⟩ :: rest) e h acc = dGrd P n ops Q m i rest dst (.makeInterface t x) ((slotOf ops j).bind fun t => guardB (e t) want) e h acc := adr_some rfl
theorem adr_panic {x : Operand} : adr P n ops Q m i (⟨dst, .panic x, ty, pos, after, none⟩ :: rest) e h acc = dRes P n ops Q m i rest dst (((.panic x : Op).operands.toList.map (ev e)).flatMap AV.ids) (aev P (n + i) (.panic x) e h) e h acc := adr_none rfl
theorem adrG_panic {x : Operand} : adr P n ops Q m i (⟨dst, .panic x, ty, pos, after, some (j, want)⟩ :: rest) e h acc = dGrd P n ops Q m i rest dst (.panic x) ((slotOf ops j).bind fun t => guardB (e t) want) e h acc := adr_some rfl
theorem adr_builtin {b : Builtin} {args : Array Operand} {ats : Array TypeId} : adr P n ops Q m i (⟨dst, .call ⟨.builtin b, args, ats⟩, ty, pos, after, none⟩ :: rest) e h acc = dRes P n ops Q m i rest dst (((.call ⟨.builtin b, args, ats⟩ : Op).operands.toList.map (ev e)).flatMap AV.ids) (aev P (n + i) (.call ⟨.builtin b, args, ats⟩) e h) e h acc := adr_none rfl
theorem adrG_builtin {b : Builtin} {args : Array Operand} {ats : Array TypeId} : adr P n ops Q m i (⟨dst, .call ⟨.builtin b, args, ats⟩, ty, pos, after, some (j, want)⟩ :: rest) e h acc = dGrd P n ops Q m i rest dst (.call ⟨.builtin b, args, ats⟩) ((slotOf ops j).bind fun t => guardB (e t) want) e h acc := adr_some rfl
theorem adr_makeFunc {f : Fn} {xs ys : Array Operand} : adr P n ops Q m i (⟨dst, .makeFunc f xs ys, ty, pos, after, none⟩ :: rest) e h acc = dRes P n ops Q m i rest dst (((.makeFunc f xs ys : Op).operands.toList.map (ev e)).flatMap AV.ids) (aev P (n + i) (.makeFunc f xs ys) e h) e h acc := adr_none rfl
theorem adrG_makeFunc {f : Fn} {xs ys : Array Operand} : adr P n ops Q m i (⟨dst, .makeFunc f xs ys, ty, pos, after, some (j, want)⟩ :: rest) e h acc = dGrd P n ops Q m i rest dst (.makeFunc f xs ys) ((slotOf ops j).bind fun t => guardB (e t) want) e h acc := adr_some rfl
end drawEq
attribute [go_sem] adr_makeMap adrG_makeMap adr_mapUpdate adrG_mapUpdate adr_insert adrG_insert adr_lookup adrG_lookup adr_move adrG_move adr_assign adrG_assign adr_pick adrG_pick adr_alloc adrG_alloc adr_box adrG_box adr_build adrG_build adr_buildSlice adrG_buildSlice adr_load adrG_load adr_store adrG_store adr_binOp adrG_binOp adr_unOp adrG_unOp adr_nilCheck adrG_nilCheck adr_convert adrG_convert adr_fieldAddr adrG_fieldAddr adr_field adrG_field adr_indexAddr adrG_indexAddr adr_index adrG_index adr_extract adrG_extract adr_makeSlice adrG_makeSlice adr_slice adrG_slice adr_makeInterface adrG_makeInterface adr_panic adrG_panic adr_builtin adrG_builtin adr_makeFunc adrG_makeFunc
attribute [go_sem] awp_draw adr_nil adr_call VC_adr dRes_0 dRes_0n dRes_1 dRes_1n dResG_0 dResG_T dResG_Tn dResG_F dResG_Fn dGrd_some AV.ids List.flatMap_cons List.flatMap_nil
section gcall
variable {P : Program} {Q : Post} {e : Env} {h : Heap} {n m i : Nat} {ops rest : List Oper} {acc : List DRec}
def aGC (P : Program) (ops : List Oper) (Q : Post) (rest : List Oper) (dst : Option Tmp) (g : Bool) (fv : AV) (args : List AV) (e : Env) (h : Heap) (n : Nat) : Prop :=
 (∃ x, (g = true → acall P fv args h n fun r h' n' => r = x ∧ h' = h ∧ n' = n) ∧ aops P ops Q rest (put e dst (.gd g x)) h n) ∨
 (g = true ∧ acall P fv args h n fun r h' n' => aops P ops Q rest (put e dst (.gd true r)) h' n') ∨
 (g = true ∧ ycall e fv args h n fun e' r h' => aops P ops Q rest (put e' dst (.gd true r)) h' n)
def aGrdCall (P : Program) (ops : List Oper) (Q : Post) (rest : List Oper) (dst : Option Tmp) (f : Operand) (args : List Operand) (op : Op) (g : Option Bool) (e : Env) (h : Heap) (n : Nat) : Prop :=
 match g with
 | none => False
 | some g => VQ (∀ t ∈ opTmps op, okG g (e t)) (aGC P ops Q rest dst g (ev (fun t => unG (e t)) f) (args.map (ev fun t => unG (e t))) e h n)
theorem aopsG_call {dst : Option Tmp} {f : Operand} {args : Array Operand} {ats : Array TypeId} {ty : TypeId} {pos : String} {after : Array Edge} {j : Nat} {want : Bool} :
  aops P ops Q (⟨dst, .call ⟨.value f, args, ats⟩, ty, pos, after, some (j, want)⟩ :: rest) e h n = aGrdCall P ops Q rest dst f args.toList (.call ⟨.value f, args, ats⟩) ((slotOf ops j).bind fun t => guardB (e t) want) e h n := rfl
theorem aGrdCall_some {dst : Option Tmp} {f : Operand} {args : List Operand} {op : Op} {g : Bool} : aGrdCall P ops Q rest dst f args op (some g) e h n = VQ (∀ t ∈ opTmps op, okG g (e t)) (aGC P ops Q rest dst g (ev (fun t => unG (e t)) f) (args.map (ev fun t => unG (e t))) e h n) := rfl
theorem aGC.flat {dst : Option Tmp} {g : Bool} {f : FuncId} {first caps args : List AV} (args' : List AV) (r : AV) (hp : g = true → Pure P f args' r) (hfl : Flat r) (hle : LeRow h noH n (first ++ args ++ caps) args') (hb : ∀ c ∈ args', Bel 0 c)
  (hk : aops P ops Q rest (put e dst (.gd g r)) h n) : aGC P ops Q rest dst g (.fn (.func f) first caps) args e h n :=
 .inl ⟨r, fun hg => ACallP.flat (hp hg) hfl hle hb ⟨rfl, rfl, rfl⟩, hk⟩
theorem aGC.plain {dst : Option Tmp} {g : Bool} {f : FuncId} {first caps args : List AV} (r : AV) (hp : g = true → Pure P f (first ++ args ++ caps) r) (hb : ∀ c ∈ first ++ args ++ caps, Bel 0 c)
  (hk : aops P ops Q rest (put e dst (.gd g r)) h n) : aGC P ops Q rest dst g (.fn (.func f) first caps) args e h n :=
 .inl ⟨r, fun hg => ACallP.plain (hp hg) hb ⟨rfl, rfl, rfl⟩, hk⟩
theorem aGC.skip (x : AV) {dst : Option Tmp} {fv : AV} {args : List AV} (hk : aops P ops Q rest (put e dst (.gd false x)) h n) : aGC P ops Q rest dst false fv args e h n := .inl ⟨x, (fun hg => nomatch hg), hk⟩
theorem aGC.go {dst : Option Tmp} {f : FuncId} {first caps args : List AV} (hk : ACallP P f (first ++ args ++ caps) h n fun r h' n' => aops P ops Q rest (put e dst (.gd true r)) h' n') : aGC P ops Q rest dst true (.fn (.func f) first caps) args e h n := .inr (.inl ⟨rfl, hk⟩)
def dGC (P : Program) (n : Nat) (ops : List Oper) (Q : Post) (m : Nat) (i : Nat) (rest : List Oper) (dst : Option Tmp) (g : Bool) (fv : AV) (args : List AV) (e : Env) (h : Heap) (acc : List DRec) : Prop :=
 ∃ r S wr, (g = true → PCallW P (n + ops.length + 16 * i) fv args h r S wr) ∧ (g = false → wr = []) ∧ adr P n ops Q m (i + 1) rest (put e dst (.gd g r)) (applyW wr h) (acc ++ [(S, wr.map (·.1))])
def dGrdCall (P : Program) (n : Nat) (ops : List Oper) (Q : Post) (m : Nat) (i : Nat) (rest : List Oper) (dst : Option Tmp) (f : Operand) (args : List Operand) (op : Op) (g : Option Bool) (e : Env) (h : Heap) (acc : List DRec) : Prop :=
 match g with
 | none => False
 | some g => VQ (∀ t ∈ opTmps op, okG g (e t)) (dGC P n ops Q m i rest dst g (ev (fun t => unG (e t)) f) (args.map (ev fun t => unG (e t))) e h acc)
theorem adrG_call {dst : Option Tmp} {f : Operand} {args : Array Operand} {ats : Array TypeId} {ty : TypeId} {pos : String} {after : Array Edge} {j : Nat} {want : Bool} :
  adr P n ops Q m i (⟨dst, .call ⟨.value f, args, ats⟩, ty, pos, after, some (j, want)⟩ :: rest) e h acc = dGrdCall P n ops Q m i rest dst f args.toList (.call ⟨.value f, args, ats⟩) ((slotOf ops j).bind fun t => guardB (e t) want) e h acc := rfl
theorem dGrdCall_some {dst : Option Tmp} {f : Operand} {args : List Operand} {op : Op} {g : Bool} : dGrdCall P n ops Q m i rest dst f args op (some g) e h acc = VQ (∀ t ∈ opTmps op, okG g (e t)) (dGC P n ops Q m i rest dst g (ev (fun t => unG (e t)) f) (args.map (ev fun t => unG (e t))) e h acc) := rfl
theorem dGC.flat {dst : Option Tmp} {g : Bool} {f : FuncId} {first caps args : List AV} (args' : List AV) (r : AV) (S : List Nat) (hp : g = true → Pure P f args' r) (hfl : Flat r) (hle : ∀ h₁ : Heap, (∀ o ∈ S, h o = h₁ o) → LeRow h₁ noH 0 (first ++ args ++ caps) args')
  (hb : ∀ c ∈ args', Bel 0 c) (hk : adr P n ops Q m (i + 1) rest (put e dst (.gd g r)) h (acc ++ [(S, [])])) : dGC P n ops Q m i rest dst g (.fn (.func f) first caps) args e h acc :=
 ⟨r, S, [], fun hg => .inl ⟨rfl, f, first, caps, args', rfl, hb, hp hg, .inl ⟨hle, hfl⟩⟩, fun _ => rfl, hk⟩
theorem dGC.plain {dst : Option Tmp} {g : Bool} {f : FuncId} {first caps args : List AV} (r : AV) (hp : g = true → Pure P f (first ++ args ++ caps) r) (hb : ∀ c ∈ first ++ args ++ caps, Bel 0 c)
  (hk : adr P n ops Q m (i + 1) rest (put e dst (.gd g r)) h (acc ++ [([], [])])) : dGC P n ops Q m i rest dst g (.fn (.func f) first caps) args e h acc :=
 ⟨r, [], [], fun hg => .inl ⟨rfl, f, first, caps, _, rfl, hb, hp hg, .inr rfl⟩, fun _ => rfl, hk⟩
theorem dGC.skip (x : AV) {dst : Option Tmp} {fv : AV} {args : List AV} (hk : adr P n ops Q m (i + 1) rest (put e dst (.gd false x)) h (acc ++ [([], [])])) : dGC P n ops Q m i rest dst false fv args e h acc :=
 ⟨x, [], [], (fun hg => nomatch hg), fun _ => rfl, hk⟩
theorem dGC.frz {dst : Option Tmp} {f : FuncId} {first caps args : List AV} (args' : List AV) (r : AV) (S : List Nat) (wr : List (Nat × Option AObj)) (hp : Pure P f args' r)
  (hw : ∀ p ∈ wr, p.1 ∈ S ∧ ∃ g sz rs, p.2 = some (.rows false g sz rs) ∧ h p.1 = some (.rows true g sz rs)) (hle : ∀ h₁ : Heap, (∀ o ∈ S, h o = h₁ o) → LeRow h₁ (applyW wr h₁) 0 (first ++ args ++ caps) args') (hb : ∀ c ∈ args', Bel 0 c)
  (hk : adr P n ops Q m (i + 1) rest (put e dst (.gd true r)) (applyW wr h) (acc ++ [(S, wr.map (·.1))])) : dGC P n ops Q m i rest dst true (.fn (.func f) first caps) args e h acc :=
 ⟨r, S, wr, fun _ => .inr (.inl ⟨f, first, caps, args', rfl, hb, hp, hw, hle⟩), (fun h => nomatch h), hk⟩
@[congr] theorem aGC_congr {dst : Option Tmp} {g g' : Bool} {fv fv' : AV} {args args' : List AV} (hg : g = g') (h0 : fv = fv') (h1 : args = args') : aGC P ops Q rest dst g fv args e h n = aGC P ops Q rest dst g' fv' args' e h n := by subst h0 h1 hg; rfl
@[congr] theorem aGrdCall_congr {dst : Option Tmp} {f : Operand} {args : List Operand} {op : Op} {g g' : Option Bool} (h0 : g = g') : aGrdCall P ops Q rest dst f args op g e h n = aGrdCall P ops Q rest dst f args op g' e h n := by subst h0; rfl
@[congr] theorem dGC_congr {dst : Option Tmp} {g g' : Bool} {fv fv' : AV} {args args' : List AV} {i' : Nat} (hi : i = i') (hg : g = g') (h0 : fv = fv') (h1 : args = args') : dGC P n ops Q m i rest dst g fv args e h acc = dGC P n ops Q m i' rest dst g' fv' args' e h acc := by subst h0 h1 hg hi; rfl
@[congr] theorem dGrdCall_congr {dst : Option Tmp} {f : Operand} {args : List Operand} {op : Op} {g g' : Option Bool} {i' : Nat} (hi : i = i') (h0 : g = g') : dGrdCall P n ops Q m i rest dst f args op g e h acc = dGrdCall P n ops Q m i' rest dst f args op g' e h acc := by subst h0 hi; rfl
end gcall
attribute [go_sem] aopsG_call aGrdCall_some adrG_call dGrdCall_some

theorem ShL_self {n : Nat} : ∀ {xs : List AV}, (∀ c ∈ xs, Bel 0 c) → ShL n xs xs
 | [], _ => .nil
 | x :: xs, h => .cons (.same (h x (by simp))) (ShL_self fun c hc => h c (by simp [hc]))
theorem Sh_agg {n : Nat} {xs ys : List AV} : Sh n (.agg xs) (.agg ys) = ShL n xs ys := propext ⟨fun h => by
 cases h with
 | same h => cases h with | agg h => exact ShL_self h
 | agg h => exact h, .agg⟩
theorem Sh_tup {n : Nat} {xs ys : List AV} : Sh n (.tup xs) (.tup ys) = ShL n xs ys := propext ⟨fun h => by
 cases h with
 | same h => cases h with | tup h => exact ShL_self h
 | tup h => exact h, .tup⟩
theorem Sh_fn {n : Nat} {f : Fn} {a b a' b' : List AV} (h : ShL n a a') (h' : ShL n b b') : Sh n (.fn f a b) (.fn f a' b') = True := eq_true (.fn h h')
theorem Sh_ref {n o g sz i off : Nat} : Sh n (.ref o g sz i off) (.ref (n + o) g sz i off) = True := eq_true .ref
theorem Sh_sl {n o g sz i len : Nat} : Sh n (.sl o g sz i len) (.sl (n + o) g sz i len) = True := eq_true .sl
theorem Sh_ref0 {n g sz i off : Nat} : Sh n (.ref 0 g sz i off) (.ref n g sz i off) = True := eq_true (.ref (o := 0))
theorem Sh_sl0 {n g sz i len : Nat} : Sh n (.sl 0 g sz i len) (.sl n g sz i len) = True := eq_true (.sl (o := 0))
theorem Sh_v {n : Nat} {x : Value} : Sh n (.v x) (.v x) = True := eq_true (.same (.v x))
theorem Sh_lst {n sz : Nat} {rows : List (List AV)} (h : ∀ r ∈ rows, ∀ c ∈ r, Bel 0 c) : Sh n (.lst sz rows) (.lst sz rows) = True := eq_true (.same (.lst h))
theorem ShL_nil {n : Nat} : ShL n [] [] = True := eq_true .nil
theorem ShL_cons {n : Nat} {x y : AV} {xs ys : List AV} : ShL n (x :: xs) (y :: ys) = (Sh n x y ∧ ShL n xs ys) := propext ⟨fun h => by cases h with | cons a b => exact ⟨a, b⟩, fun h => .cons h.1 h.2⟩
theorem ShLL_same {n : Nat} {rs : List (List AV)} (h : ∀ r ∈ rs, ∀ c ∈ r, Bel 0 c) : ShLL n rs rs = True := eq_true (.same h)
theorem ShLL_nil {n : Nat} : ShLL n [] [] = True := eq_true .nil
theorem ShLL_cons {n : Nat} {x y : List AV} {xs ys : List (List AV)} (h : ShL n x y ∧ ShLL n xs ys) : ShLL n (x :: xs) (y :: ys) = True := eq_true (.cons h.1 h.2)
theorem ShO_rows {n : Nat} {mt : Bool} {g sz : Nat} {rs rs' : List (List AV)} : ShO n (.rows mt g sz rs) (.rows mt g sz rs') = ShLL n rs rs' := propext ⟨fun h => by cases h; assumption, .rows⟩
theorem ShH_nil {n : Nat} : ShH n [] [] = True := eq_true .nil
theorem ShH_cons {n o : Nat} {x y : AObj} {l l' : List (Nat × AObj)} : ShH n ((o, x) :: l) ((n + o, y) :: l') = (ShO n x y ∧ ShH n l l') :=
 propext ⟨fun h => by cases h with | cons a b => exact ⟨a, b⟩, fun h => .cons h.1 h.2⟩
theorem ShH_cons0 {n : Nat} {x y : AObj} {l l' : List (Nat × AObj)} : ShH n ((0, x) :: l) ((n, y) :: l') = (ShO n x y ∧ ShH n l l') := ShH_cons (o := 0)
attribute [go_sem] Sh_agg Sh_tup Sh_fn Sh_ref Sh_sl Sh_ref0 Sh_sl0 Sh_v Sh_lst ShL_nil ShL_cons ShLL_same ShLL_nil ShLL_cons ShO_rows ShH_nil ShH_cons ShH_cons0 over
theorem leV_refl {h h' : Heap} {n : Nat} {x : AV} : LeV h h' n x x := .refl x
attribute [go_sem] leV_refl
theorem InR_i64 {n : Int} : InR .i64 n = (-9223372036854775808 ≤ n ∧ n ≤ 9223372036854775807) := by
 simp [InR, IntKind.min, IntKind.max, IntKind.signed, IntKind.bits]
theorem InR_u8 {n : Int} : InR .u8 n = (0 ≤ n ∧ n ≤ 255) := by
 simp [InR, IntKind.min, IntKind.max, IntKind.signed, IntKind.bits]
theorem InR_u64 {n : Int} : InR .u64 n = (0 ≤ n ∧ n ≤ 18446744073709551615) := by
 simp [InR, IntKind.min, IntKind.max, IntKind.signed, IntKind.bits]
theorem InR_u32 {n : Int} : InR .u32 n = (0 ≤ n ∧ n ≤ 4294967295) := by
 simp [InR, IntKind.min, IntKind.max, IntKind.signed, IntKind.bits]
attribute [go_sem] InR_i64 InR_u8 InR_u64 InR_u32
theorem oc_int {k : IntKind} {n : Int} : (Value.int k n).oneCell' = true := rfl
theorem oc_bool {b : Bool} : (Value.bool b).oneCell' = true := rfl
theorem oc_slice {a : Option Addr} {l c : Nat} : (Value.slice a l c).oneCell' = true := rfl
theorem oc_pointer {a : Option Addr} : (Value.pointer a).oneCell' = true := rfl
attribute [go_sem] oc_int oc_bool oc_slice oc_pointer
structure LS where
 E : List (Nat × AV)
 H : List (Nat × AObj)
 n : Nat
def ALoopS (n0 : Nat) (B : Post → Env → Heap → Nat → Prop) (Q : Post) (s : LS) : Prop := ALoop n0 B Q (mkE s.E) (mkH s.H) s.n
theorem ALoop.ind {P : Program} {n0 : Nat} {b : Code} {Q : Post} {α : Type} (S : α → LS) (I : Nat → α → Prop)
  (step : ∀ d a, I d a → (∀ d', d' < d → ∀ a', I d' a' → ALoopS n0 (awp P n0 b) Q (S a')) → awp P n0 b (QSeq (ALoop n0 (awp P n0 b) Q) Q) (mkE (S a).E) (mkH (S a).H) (S a).n) :
  ∀ d a, I d a → ALoopS n0 (awp P n0 b) Q (S a) := by
 intro d
 induction d using Nat.strongRecOn with
 | ind d ih => intro a ha; exact ALoop.unroll (step d a ha fun d' hd a' ha' => ih d' hd a' ha')
theorem ALoop.start {P : Program} {n0 : Nat} {b : Code} {Q : Post} {e : Env} {h : Heap} {n : Nat} {s : LS} (hh : ALoopS n0 (awp P n0 b) Q s) (hk : Wk e h n s.E s.H s.n) (hn : n0 ≤ s.n) : ALoop n0 (awp P n0 b) Q e h n :=
 ALoop.forget s.E s.H s.n hk hn hh
theorem Wk_eq {e : Env} {h : Heap} {n : Nat} {E : List (Nat × AV)} {HH : List (Nat × AObj)} {n' : Nat} :
  Wk e h n E HH n' = ((∀ p ∈ E, LeV h (mkH HH) n (e p.1) p.2 ∧ Bel n' p.2) ∧ ∀ p ∈ HH, p.1 < n' ∧ LeO h (mkH HH) n p.1 (h p.1) p.2 ∧ BelO n' p.2) :=
 propext ⟨fun h => ⟨h.1, h.2⟩, fun h => ⟨h.1, h.2⟩⟩
theorem leO_same {h h' : Heap} {n o : Nat} {mt : Bool} {g sz : Nat} {rs : List (List AV)} : LeO h h' n o (some (.rows mt g sz rs)) (.rows mt g sz rs) = True := eq_true (.same (fun h => h) (.refl _))
theorem leO_own {h h' : Heap} {n o g sz : Nat} (hn : n ≤ o) : LeO h h' n o none (.rows true g sz []) = True := eq_true (.own hn)
theorem leRow_nil {h h' : Heap} {n : Nat} : LeRow h h' n [] [] = True := eq_true .nil
theorem leRow_cons {h h' : Heap} {n : Nat} {x y : AV} {xs ys : List AV} : LeRow h h' n (x :: xs) (y :: ys) = (LeV h h' n x y ∧ LeRow h h' n xs ys) :=
 propext ⟨fun h => by cases h with | cons a b => exact ⟨a, b⟩, fun h => .cons h.1 h.2⟩
theorem leV_nil {h h' : Heap} {n sz c : Nat} {A : Option Addr} : LeV h h' n (.v (.slice A 0 c)) (.lst sz []) = True := eq_true (.nil sz)
theorem leV_top {h h' : Heap} {n : Nat} {x : AV} : LeV h h' n x .top = True := eq_true (.top x)
theorem leV_own {h h' : Heap} {n o g sz : Nat} (hn : n ≤ o) (ho : h' o = some (.rows true g sz [])) : LeV h h' n (.v (.slice none 0 0)) (.sl o g sz 0 0) = True := eq_true (.own hn ho)
theorem noH_eq (o : Nat) : noH o = none := rfl
theorem leV_frz {h h' : Heap} {n o g sz i len : Nat} {mt : Bool} {rs rows : List (List AV)} (ho : h o = some (.rows mt g sz rs)) (hl : i + len ≤ rs.length) (ho' : ∀ g sz rs, h' o ≠ some (.rows true g sz rs)) (hr : (rs.drop i).take len = rows) :
  LeV h h' n (.sl o g sz i len) (.lst sz rows) := .frz ho hl ho' (hr ▸ .refl _)
theorem LeRow.of_eq {h h' : Heap} {n : Nat} {xs ys : List AV} (e : xs = ys) : LeRow h h' n xs ys := e ▸ .refl _ _ _ _
theorem leO_rows {h h' : Heap} {n o : Nat} {mt mt' : Bool} {g g' sz sz' : Nat} {rs rs' : List (List AV)} : LeO h h' n o (some (.rows mt g sz rs)) (.rows mt' g' sz' rs') = (g = g' ∧ sz = sz' ∧ (mt' = true → mt = true) ∧ LeRows h h' n rs rs') :=
 propext ⟨fun h => by cases h with | same hm hr => exact ⟨rfl, rfl, hm, hr⟩, fun ⟨h1, h2, h3, h4⟩ => by subst h1 h2; exact .same h3 h4⟩
theorem leRows_refl {h h' : Heap} {n : Nat} {rs : List (List AV)} : LeRows h h' n rs rs = True := eq_true (.refl _)
theorem leRows_cons {h h' : Heap} {n : Nat} {x y : List AV} {xs ys : List (List AV)} : LeRows h h' n (x :: xs) (y :: ys) = (LeRow h h' n x y ∧ LeRows h h' n xs ys) :=
 propext ⟨fun h => by cases h with
  | refl => exact ⟨.refl _ _ _ _, .refl _⟩
  | cons h t => exact ⟨h, t⟩, fun h => .cons h.1 h.2⟩
theorem leV_aggE {h h' : Heap} {n : Nat} {xs ys : List AV} : LeV h h' n (.agg xs) (.agg ys) = LeRow h h' n xs ys :=
 propext ⟨fun h => by cases h with
  | refl => exact .refl _ _ _ _
  | agg h => exact h, .agg⟩
theorem leV_tupE {h h' : Heap} {n : Nat} {xs ys : List AV} : LeV h h' n (.tup xs) (.tup ys) = LeRow h h' n xs ys :=
 propext ⟨fun h => by cases h with
  | refl => exact .refl _ _ _ _
  | tup h => exact h, .tup⟩
theorem NoFz_v {x : Value} : NoFz (.v x) = True := eq_true (.v x)
theorem NoFz_ref {o g sz i off : Nat} : NoFz (.ref o g sz i off) = True := eq_true (.ref ..)
theorem NoFz_sl {o g sz i len : Nat} : NoFz (.sl o g sz i len) = True := eq_true (.sl ..)
theorem NoFz_agg {xs : List AV} : NoFz (.agg xs) = ∀ x ∈ xs, NoFz x := propext ⟨fun h => by cases h; assumption, .agg⟩
theorem NoFz_tup {xs : List AV} : NoFz (.tup xs) = ∀ x ∈ xs, NoFz x := propext ⟨fun h => by cases h; assumption, .tup⟩
theorem NoFz_fn {f : Fn} {a b : List AV} : NoFz (.fn f a b) = ((∀ x ∈ a, NoFz x) ∧ ∀ x ∈ b, NoFz x) := propext ⟨fun h => by cases h; exact ⟨by assumption, by assumption⟩, fun h => .fn h.1 h.2⟩
attribute [go_sem] leO_rows leRows_refl leRows_cons leV_aggE leV_tupE NoFz_v NoFz_ref NoFz_sl NoFz_agg NoFz_tup NoFz_fn NoFzO evExtract_tup
attribute [go_sem] noH_eq leV_own leO_own mkE mkH BelO leO_same leRow_nil leRow_cons leV_nil leV_top List.forall_mem_cons
theorem LeV.of_eq {h h' : Heap} {n : Nat} {x y : AV} (e : x = y) : LeV h h' n x y := e ▸ .refl x
theorem nadd (a b c : Nat) : a + b + c = a + (b + c) := Nat.add_assoc a b c
attribute [go_sem] nadd
class WS (G : Prop) (a X : outParam Prop) : Prop where out : a → (a → X) → G
instance {P : Program} {ops : List Oper} {Q : Post} {rest : List Oper} {e : Env} {h : Heap} {n : Nat} {a : Prop} : WS (VC a (aopsL P ops Q rest e h n)) a (aops P ops Q rest e h n) := ⟨fun h1 h2 => wL h2 h1⟩
instance {P : Program} {ops : List Oper} {Q : Post} {rest : List Oper} {e : Env} {h : Heap} {n m i : Nat} {a : Prop} {acc : List DRec} : WS (VC a (adrL P n ops Q m i rest e h acc)) a (adr P n ops Q m i rest e h acc) := ⟨fun h1 h2 => wD h2 h1⟩
instance {P : Program} {ops : List Oper} {Q : Post} {e : Env} {h : Heap} {n : Nat} : WS (adrZ P n ops Q e h) True (adr P n ops Q (n + ops.length) 0 ops e h []) := ⟨fun _ h2 => wZ (h2 trivial)⟩
def KR (p : Prop) : Prop := p
theorem kr {p : Prop} (h : p) : KR p := h
instance {ops : List Oper} {Q : Post} {n : Nat} {e : Env} {h : Heap} {recs : List DRec} : WS (dEnd Q ops n e h recs) (KR ((okDraw ops recs && noNew recs) = true)) (Q .normal e h n) := ⟨fun h1 h2 => dEnd.mk h1 (h2 h1)⟩
theorem wV {G a X : Prop} [i : WS G a X] (h2 : a → X) (h1 : a := by first | omega | exact True.intro | rfl | (refine kr ?_; kernel_rfl) | (intros; omega)) : G := i.out h1 h2
theorem leX {p : Prop} (h : p := by ((try simp only [encProg, encStep, encAct, encAs, encPath, encPt, encOut, encState, encPos, encOs, encSs, encPs, encIs, encGame, List.map_cons, List.map_nil, List.nil_append, List.append_nil, List.cons_append]); (repeat (first | (with_reducible exact LeRow.nil) | (with_reducible exact LeRows.nil) | (with_reducible exact LeV.refl _) | (with_reducible exact LeRow.refl _ _ _ _) | (with_reducible exact LeRows.refl _) | (with_reducible refine LeRow.cons ?_ ?_) | (with_reducible refine LeRows.cons ?_ ?_) | (with_reducible refine LeV.agg ?_) | (with_reducible refine LeV.tup ?_) | (with_reducible refine LeV.fn ?_ ?_) | (with_reducible exact LeV.nil _) | (with_reducible refine leRows_append (LeRows.refl _) ?_) | ((refine leV_frz rfl (by simp) (by simp [frzO, frz1, upd, noH]) ?_); (first | (simp [go_sem]; done) | (simp [go_sem]; exact List.take_of_length_le (by simp)))) | ((refine LeV.frz rfl (by simp) (by simp [frzO, frz1, upd, noH]) ?_); (simp only [List.drop_zero, List.take_succ_cons, List.take_zero, List.map_cons, List.map_nil])) | ((refine LeV.frzP rfl (by simp) (by simp) (by simp [frzO, frz1, upd, noH]) ?_); (simp only [nth_zero, List.drop_zero])))))) : p := h
theorem blX {p : Prop} (h : p := by (intro r hr c hc; (first | (rcases hr with ⟨_, _, rfl⟩ | rfl) | (rcases hr with rfl | ⟨_, _, rfl⟩) | (rcases hr with rfl | rfl) | ((rcases List.mem_or_eq_of_mem_set hr with hr | rfl) <;> first | (obtain ⟨_, _, rfl⟩ := List.mem_map.1 hr; simp only [encI] at hc) | skip) | (rcases hr with ⟨_, rfl⟩ | ⟨_, rfl⟩) | (rcases hr with ⟨_, _, rfl⟩ | ⟨_, rfl⟩) | (rcases hr with ⟨_, rfl⟩ | ⟨_, _, rfl⟩) | (rcases hr with ⟨_, _, rfl⟩ | ⟨_, _, rfl⟩) | (obtain ⟨_, rfl⟩ := hr) | (obtain ⟨_, _, rfl⟩ := hr)) <;> simp at hc <;> (try subst hc) <;> first | exact .v _ | (rcases hc with rfl | rfl <;> exact .v _))) : p := h
theorem dpX {p : Prop} (h : p := by ((refine LeV.frz rfl (by simp) (by simp [noH, upd]) ?_); (try simp only [List.drop_zero, List.take_succ_cons, List.take_zero, List.map_cons, List.map_nil]); (repeat (first | (with_reducible exact LeRows.nil) | (with_reducible refine LeRows.cons ?_ ?_) | (with_reducible exact LeRow.nil) | (with_reducible refine LeRow.cons ?_ ?_) | (with_reducible exact LeV.refl _) | (refine leV_frz rfl (by simp) (by simp [noH, upd]) ?_; first | (simp [go_sem]; done) | (simp [go_sem]; exact List.take_of_length_le (by simp))))))) : p := h
theorem agX {p : Prop} (h : p := by ((try simp only [encOut, encState, encPos, encOs, encSs, encPs, encIs, List.nil_append, List.append_nil, List.cons_append]); (repeat (first | (with_reducible exact LeRow.nil) | (with_reducible refine LeRow.cons ?_ ?_) | (with_reducible exact LeV.refl _) | (with_reducible refine LeV.agg ?_) | ((refine leV_frz rfl (by simp) (by simp [frzO, frz1, upd, noH]) ?_); (first | (simp [go_sem]; done) | (simp [go_sem]; exact List.take_of_length_le (by simp)))))))) : p := h
theorem rwX {p : Prop} (h : p := by ((refine leRows_append (.refl _) ?_); (repeat (first | (with_reducible exact LeRows.nil) | (with_reducible refine LeRows.cons ?_ ?_) | (with_reducible exact LeRow.nil) | (with_reducible refine LeRow.cons ?_ ?_) | (with_reducible exact LeV.refl _) | (refine leV_frz rfl (by simp) (by simp [noH, upd]) ?_; first | (simp [go_sem]; done) | (simp [go_sem]; exact List.take_of_length_le (by simp))))))) : p := h
theorem frX {p : Prop} (h : p := by (refine leV_frz rfl (by simp) (by simp [noH, upd]) ?_; first | (simp [go_sem]; done) | (simp [go_sem]; exact List.take_of_length_le (by simp)))) : p := h
end Go.Av
end
