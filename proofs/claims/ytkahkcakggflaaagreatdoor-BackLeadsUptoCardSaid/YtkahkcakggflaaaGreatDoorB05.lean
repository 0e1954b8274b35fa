/- Texts of ours, part 5: our library and contracts of functions. -/
import Derived.Test.YtkahkcakggflaaaGreatDoorB04
import Derived.Scope
import Derived.RangeFuncLeaves
import Derived.RangeFuncRecord
set_option linter.unusedSimpArgs false
set_option linter.unusedVariables false
set_option maxRecDepth 100000
set_option maxHeartbeats 40000000
section
namespace Go.Av
open Go

theorem zds {P : Program} {b : Frame} {a : Act} {k : List Item} {cs : List Frame} {w : World} {c : Code} : step P (lone (b.atR a (.code (.scope c) :: k)) cs w) = .next (lone (b.atR a (.code c :: .inScope c :: k)) cs w) :=
 step_lone_go (by simp [stepG, stepG.exec, Frame.atR])
theorem zmP {P : Program} {b : Frame} {a : Act} {k : List Item} {cs : List Frame} {w : World} {c : Code} : step P (lone (b.atR a (.inScope c :: k)) cs w) = .next (lone (b.atR a k) cs w) :=
 step_lone_go (by simp [stepG, stepG.exec, Frame.atR])
theorem zs5 {F : Fence} {n : Nat} {P : Program} {c : Code} {Q : Exit → Act → World → Prop} {a : Act} {w : World} (h : c.wpIn F n P (Exit.noGoto Q) a w) : (Code.scope c).wpIn F n P Q a w := by
 intro b k cs hro hb hr
 have h0 : (lone (b.atR a (.code (.scope c) :: k)) cs w).fenced P F := fenced_calm hb hr rfl
 obtain ⟨e, a₁, w₁, hq, harr⟩ := h b (.inScope c :: k) cs hro hb hr
 cases e with
 | normal => exact ⟨.normal, a₁, w₁, hq, .head h0 zds (StepsIn.trans harr (.one (fenced_calm hb hr rfl) zmP))⟩
 | exit id =>
  have hx : exitTo id (.inScope c :: k) = exitTo id k := by simp [exitTo]
  exact ⟨.exit id, a₁, w₁, hq, fun k' hk => .head h0 zds (harr.1 k' (by rw [hx]; exact hk)),
   fun hr' hk => let ⟨k₁, h1, h2⟩ := harr.2 hr' (by rw [hx]; exact hk); ⟨k₁, h1, .head h0 zds h2⟩⟩
 | goto l => exact hq.elim
 | ret => exact ⟨_, a₁, w₁, hq, .of_steps (.one h0 zds) harr⟩
 | panic ch => exact ⟨_, a₁, w₁, hq, .of_steps (.one h0 zds) harr⟩
 | outgrown => exact ⟨_, a₁, w₁, hq, .of_steps (.one h0 zds) harr⟩
theorem zjk {P : Program} (hmix : P.follows .mixedOrders = true) {N : Nat} : ∀ {c : Code} {B : zeQ P} {m : Nat} {Q : zbX}, znB N c = true → ∀ {M : Nat → Prop} {φ : zaA} {e : Env} {h : zav} {n : Nat} {a : Act} {w : World},
  SR B N M φ e h n a w → awp P B.n0 c Q e h n → c.wpIn (WF B.round) m P (SQ B N Q) a w := by
 intro c
 induction c with
 | skip => intro B m Q _ M φ e h n a w hs hh; exact wpIn_skip ⟨M, φ, e, h, n, hs, hh⟩
 | label l => intro B m Q _ M φ e h n a w hs hh; exact wpIn_label ⟨M, φ, e, h, n, hs, hh⟩
 | region id ops draw =>
  intro B m Q hd M φ e h n a w hs hh
  cases draw with
  | false =>
   refine wpIn_region ?_
   rw [List.range_eq_range']
   refine zk8 (fun o ho => ?_) ops.size 0 (by omega) hs hh
   simp only [znB, List.all_eq_true] at hd
   have := hd o ho
   split at this <;> simp_all
  | true =>
   obtain ⟨h', hfz, hh⟩ := hh
   obtain ⟨hH', st0⟩ := hs.heap.freeze hfz
   refine zpd hmix (fun o ho => ?_) (hs.put (dst := none) trivial (.top undef) hH' st0) hh
   simp only [znB, List.all_eq_true] at hd
   have := hd o ho
   split at this <;> simp_all
 | seq x y ihx ihy =>
  intro B m Q hd M φ e h n a w hs hh
  simp only [znB, Bool.and_eq_true] at hd
  refine wpIn_seq (wpIn_mono (ihx hd.1 hs hh) ?_)
  rintro ex a' w' ⟨M', φ', e', h', n', hs', hq⟩
  cases ex with
  | normal => exact ihy hd.2 hs' hq
  | _ => exact ⟨M', φ', e', h', n', hs', hq⟩
 | cond o x y ihx ihy =>
  intro B m Q hd M φ e h n a w hs hh
  simp only [znB, Bool.and_eq_true] at hd
  unfold awp at hh
  split at hh
  ·rename_i t ht
   have hr := zrd hs.heap.glob hs.env o
   rw [ht] at hr
   generalize hq : a.eval o = q at hr
   cases hr
   cases t with
   | true => exact wpIn_cond hq (ihx hd.1 hs (hh.1 rfl))
   | false => exact wpIn_cond hq (ihy hd.2 hs (hh.2 rfl))
  ·exact hh.elim
 | block id x ih =>
  intro B m Q hd M φ e h n a w hs hh
  refine wpIn_block (wpIn_mono (ih hd hs hh) ?_)
  rintro ex a' w' ⟨M', φ', e', h', n', hs', hq⟩
  cases ex with
  | exit id' =>
   simp only [zi5] at hq
   simp only [Exit.inBlock]
   split at hq
   ·rename_i e0; rw [if_pos e0]; exact ⟨M', φ', e', h', n', hs', hq⟩
   ·rename_i e0; rw [if_neg e0]; exact ⟨M', φ', e', h', n', hs', hq⟩
  | _ => exact ⟨M', φ', e', h', n', hs', hq⟩
 | scope x ih =>
  intro B m Q hd M φ e h n a w hs hh
  refine zs5 (wpIn_mono (ih hd hs hh) ?_)
  rintro ex a' w' ⟨M', φ', e', h', n', hs', hq⟩
  cases ex with
  | goto l => exact hq.elim
  | _ => exact ⟨M', φ', e', h', n', hs', hq⟩
 | loop x ih =>
  intro B m Q hd M φ e h n a w hs hh b k cs hro hb hr
  have key := hh (fun e h n => ∀ M φ a w, SR B N M φ e h n a w →
   ∃ ex a' w', SQ B N Q ex a' w' ∧ ArrivesIn (Machine.fenced P (WF B.round)) P (lone (b.atR a (.code x :: .inLoop x :: k)) cs w) b k cs ex a' w') ?_ ?_ M φ a w hs
  ·obtain ⟨ex, a', w', hq, harr⟩ := key
   exact ⟨ex, a', w', hq, .of_steps (.one (fenced_calm hb hr rfl) stepR_loop) harr⟩
  ·intro e h n hB M φ a w hs
   obtain ⟨ex, a₁, w₁, ⟨M', φ', e', h', n', hs', hq⟩, harr⟩ := ih hd hs hB b (.inLoop x :: k) cs hro hb hr
   cases ex with
   | normal =>
    obtain ⟨ex, a₂, w₂, hq₂, harr₂⟩ := hq M' φ' a₁ w₁ hs'
    exact ⟨ex, a₂, w₂, hq₂, .of_steps (StepsIn.trans harr (.one (fenced_calm (fr := b.atR a₁ (.inLoop x :: k)) hb hr rfl) stepR_inLoop)) harr₂⟩
   | exit id => exact ⟨_, a₁, w₁, ⟨M', φ', e', h', n', hs', hq⟩, .pass (x := .inLoop x) rfl (fun _ _ => .inl (by simp)) harr⟩
   | goto l => exact ⟨_, a₁, w₁, ⟨M', φ', e', h', n', hs', hq⟩, .pass (x := .inLoop x) rfl (fun _ _ => .inl (by simp)) harr⟩
   | ret => exact ⟨_, a₁, w₁, ⟨M', φ', e', h', n', hs', hq⟩, .pass (x := .inLoop x) rfl (fun _ _ => .inl (by simp)) harr⟩
   | panic ch => exact ⟨_, a₁, w₁, ⟨M', φ', e', h', n', hs', hq⟩, .pass (x := .inLoop x) rfl (fun _ _ => .inl (by simp)) harr⟩
   | outgrown => exact ⟨_, a₁, w₁, ⟨M', φ', e', h', n', hs', hq⟩, .pass (x := .inLoop x) rfl (fun _ _ => .inl (by simp)) harr⟩
  ·intro e h n E HH n' hk hn hX M φ a w hs
   obtain ⟨φ', h1, h2, h3, h4⟩ := hk.sound hs.heap hs.env
   refine hX M φ' a w ⟨h2, hs.size, hs.defs, h1, B.forget hs.ok ?_ h3 h4 hn, hs.small⟩
   rcases zpN (E := E) GH with h5 | h5
   ·exact .inr h5
   ·have h6 := (hk.env _ h5).1
    simp only at h6
    generalize mkE E GH = y at h6
    rcases B.isG hs.ok with h7 | ⟨x, h7⟩
    ·rw [h7] at h6 ⊢
     cases h6 <;> simp
    ·rw [h7] at h6 ⊢
     cases h6 <;> simp
 | rangeFunc g ps x y ihx ihy =>
  intro B m Q hd M φ e h n a w hs hh
  simp only [znB, Bool.and_eq_true, List.all_eq_true, decide_eq_true_eq] at hd
  exact zkf (fun hs hh => ihx hd.2.1 hs hh) (fun hs hh => ihy hd.2.2 hs hh) hd.1 hs hh
 | exit id => intro B m Q _ M φ e h n a w hs hh; exact wpIn_exit ⟨M, φ, e, h, n, hs, hh⟩
 | ret => intro B m Q _ M φ e h n a w hs hh; exact wpIn_ret ⟨M, φ, e, h, n, hs, hh⟩
 | _ => intro B m Q _ M φ e h n a w hs hh; exact hh.elim
end Go.Av
end
section
/- Our library, part 12: functions' contracts; calls of functions that only compute. -/
namespace Go.Av
open Go

theorem zjC {P : Program} {f : FuncId} {fn : Func} {c : Code} (hf : P.funcs[f]? = some fn) (hb : fn.body = some c) (hname : (fn.name == "runtime.NumGoroutine") = false) : zd9 P f := by
 intro args w
 have : ¬ fn.name = "runtime.NumGoroutine" := by simpa using hname
 simp [callFunc, hf, hb, this]

section
variable {P : Program}
theorem zsr {t : TypeId} {v u : Value} {w w' : World} (h : (Instr.loadAt t v).run P w = .ok u w') : (do loadVar t (← asAddr v) : Sem Value).run P w = .ok u w' := by
 unfold Instr.loadAt at h
 cases v with
 | pointer a =>
  cases a with
  | some a => simpa [Instr.sureAddr, asAddr] using h
  | none => simp [Instr.sureAddr] at h
 | _ => simp [Instr.sureAddr] at h
def resF (tmps : Array Value) : ResultVar → Sem Value
 | .tmp t => pure (tmps.getD t undef)
 | .cell a t => do loadVar t (← asAddr (tmps.getD a undef))
theorem zh0 (fn : Func) (tmps : Array Value) : results fn tmps = (do let vs ← fn.results.mapM (resF tmps); pure (if h : vs.size = 1 then vs[0] else .tuple vs)) := by
 unfold results
 congr 1
theorem zeI {φ : zaA} {n : Nat} {w : World} {M0 : Nat → Prop} {h : zav} (hH : zgP φ n w M0 h) {e : Env} {tmps : Array Value} (he : ∀ t, Rel φ w (Or M0 (Mut φ h)) (e t) (tmps.getD t undef)) :
  ∀ (rs : List ResultVar), (zta P e h rs).1 → ∃ vs, (rs.mapM (resF tmps)).run P w = .ok vs w ∧ zaN φ w (Or M0 (Mut φ h)) (zta P e h rs).2 vs
 | [], _ => ⟨[], by simp, .nil⟩
 | .tmp t :: rs, hc => by
  obtain ⟨vs, h1, h2⟩ := zeI hH he rs hc
  refine ⟨tmps.getD t undef :: vs, ?_, .cons (he t) h2⟩
  simp only [List.mapM_cons, resF, Sem.run_bind, Sem.run_pure, Result.andThen_ok, h1]
 | .cell a t :: rs, hc => by
  obtain ⟨hc1, hc2⟩ := hc
  obtain ⟨vs, h1, h2⟩ := zeI hH he rs hc2
  obtain ⟨u, h3, h4, _, _⟩ := zlF (P := P) (t := t) hH (he a) hc1
  refine ⟨u :: vs, ?_, .cons h4 h2⟩
  have h5 := zsr h3
  simp only [Sem.run_bind] at h5
  simp only [List.mapM_cons, resF, Sem.run_bind, h5, Result.andThen_ok, h1, Sem.run_pure]
theorem zsM {φ : zaA} {w : World} {M : Nat → Prop} {xs : List AV} {vs : List Value} (h : zaN φ w M xs vs) :
  Rel φ w M (zyH xs) (if h : (⟨vs⟩ : Array Value).size = 1 then (⟨vs⟩ : Array Value)[0] else .tuple ⟨vs⟩) := by
 cases h with
 | nil => exact .tup .nil
 | cons h t =>
  cases t with
  | nil => simpa [zyH] using h
  | cons h' t' => simpa [zyH] using Rel.tup (.cons h (.cons h' t'))

theorem ziO {φ : zaA} {w : World} {M : Nat → Prop} : ∀ {xs : List AV} {vs : List Value} (_ : zaN φ w M xs vs) (i t : Nat), zqv i xs t = .top ∨ ∃ k, t = i + k ∧ ∃ (hk : k < xs.length) (hk' : k < vs.length), zqv i xs t = xs[k] ∧ Rel φ w M xs[k] vs[k]
 | [], _, _, i, t => .inl rfl
 | x :: xs, _, .cons h ht, i, t => by
  simp only [zqv, upd]
  by_cases e : t = i
  ·subst e; rw [if_pos rfl]; exact .inr ⟨0, rfl, by simp, by simp, rfl, h⟩
  ·rw [if_neg e]
   rcases ziO ht (i + 1) t with h1 | ⟨k, rfl, hk, hk', h1, h2⟩
   ·exact .inl h1
   ·exact .inr ⟨k + 1, by omega, by simpa using hk, by simpa using hk', by simpa using h1, by simpa using h2⟩

theorem zqw : ∀ {xs : List AV} {i t : Nat}, i + xs.length ≤ t → zqv i xs t = .top
 | [], _, _, _ => rfl
 | x :: xs, i, t, h => by
  simp only [List.length_cons] at h
  simp only [zqv, upd]
  rw [if_neg (by omega)]
  exact zqw (by omega)
theorem zed {P : Program} {F : Fence} {n : Nat} {fn : Func} {tmps : Array Value} {R : Ending → World → Prop} {lo : Nat} {M : Nat → Prop} : ∀ {ds : List Deferred} {w : World}, zfp lo M ds w →
  (∀ w', NC lo w w' → ∃ v, (results fn tmps).run P w' = .ok v w' ∧ R (.returned v) w') → LeavesInM F n P fn tmps R ds .returning w
 | [], w, _, h => h w (.refl lo w)
 | d :: ds, w, hm, h => by
  obtain ⟨hp, hd⟩ := hm
  rw [List.pairwise_cons] at hp
  obtain ⟨D, e1, e0, e2, e3⟩ := hd d (by simp)
  have hnc : NC lo w (w.putObj D (.deferred none)) := .putObj _ e0 e3 (by simp) (by simp)
  refine ⟨by simp, .inl ⟨D, _, by rw [e1], run_takeDeferred e3, zed (M := M) ⟨hp.2, fun d' hd' => ?_⟩ fun w' hn => h w' (hnc.trans hn)⟩⟩
  obtain ⟨D', k1, k0, k2, k3⟩ := hd d' (by simp [hd'])
  refine ⟨D', k1, k0, k2, (World.putObj_heap_other ?_).trans k3⟩
  rintro rfl
  exact hp.1 d' hd' (e1.trans k1.symm)
def fnBase (P : Program) (φ : zaA) (w : World) (M0 : Nat → Prop) (h : zav) (n0 : Nat) (fresh : ∀ o, n0 ≤ o → φ o = none) : zeQ P where
 n0 := n0
 lo := w.heap.size
 round := none
 ok0 g M O φ' w' h' := g = .top ∧ M = M0 ∧ (∀ k, O k → Mut φ h k ∨ w.heap.size ≤ k) ∧ zcZ φ w M0 h φ' w' h'
 isG0 hk := .inl hk.1
 step0 hk st := by
  obtain ⟨h1, rfl, h2, h3⟩ := hk
  exact ⟨h1, rfl, h2, h3.trans st⟩
 forget0 := by
  rintro g g' M O φ1 w1 h1 φ2 h2 n' ⟨e1, rfl, hO, st⟩ hg h3 h4 hn
  refine ⟨by rcases hg with h | h <;> simp [h, e1], rfl, hO, ?_, fun k hk => ?_, st.fr, fun k hk => st.mutd k (h3 k hk)⟩
  ·intro o x hx
   obtain ⟨x', hx', l1, l2⟩ := st.le o x hx
   have : o < n0 := Nat.lt_of_not_le fun hle => by rw [fresh o hle] at hx; cases hx
   exact ⟨x', h4 o x' (by omega) hx', l1, l2⟩
  ·rcases hk with hk | hk
   ·exact st.or k (.inl hk)
   ·exact st.or k (.inr (h3 k hk))
 yld0 hk := by cases hk.1
 exh0 hk := by cases hk.1
 oth0 := by
  rintro g M O O' φ' w1 w2 h1 ⟨e1, rfl, hO, st⟩ hfr hO'
  have hs := st.fr.size
  exact ⟨e1, rfl, fun k hk => (hO' k hk).elim (hO k) (fun h => .inr (by omega)), st.le, st.or,
   ⟨hfr.os.trans st.fr.os, hfr.tape.trans st.fr.tape, hfr.output.trans st.fr.output, Nat.le_trans st.fr.drawn hfr.drawn, Nat.le_trans hs hfr.size, fun k hk hu => (hfr.block k (by omega) (fun h => (hO k h).elim hu (fun h => by omega))).trans (st.fr.block k hk hu)⟩, st.mutd⟩
 give0 := by
  rintro g M O O' φ' w1 h1 h2 ⟨e1, rfl, hO, st⟩ hO' hm
  refine ⟨e1, rfl, fun k hk => (hO' k hk).elim (hO k) (st.mutd k), st.le, fun k hk => hk.elim (fun h => .inl (.inl h)) (fun h => st.or k (.inr (hm k h))), st.fr, fun k hk => st.mutd k (hm k hk)⟩
 nc0 := by
  rintro g M O φ' w1 w2 h1 ⟨e1, rfl, hO, st⟩ hn
  exact ⟨e1, rfl, hO, st.nc hn⟩
 lo0 hk := hk.2.2.2.fr.size
 rec0 _ h := by cases h
theorem zyL (hmix : P.follows .mixedOrders = true) {f : FuncId} {fn : Func} {c : Code} {args : List AV} {h : zav} {n : Nat} {K : zc0} (hf : P.funcs[f]? = some fn) (hb : fn.body = some c) (hname : (fn.name == "runtime.NumGoroutine") = false)
  (hN : args.length ≤ fn.ntmps) (hd : znB fn.ntmps c = true) (hh : awp P n c (RetQ P fn.results.toList K) (zqv 0 args) h n) (hG : fn.ntmps ≤ GH := by exact Nat.le_of_ble_eq_true rfl) : zaa P f args h n K := by
 refine ⟨zjC hf hb hname, fun M0 φ w vs hH hargs => ?_⟩
 have hlen := hargs.length
 let B : zeQ P := fnBase P φ w M0 h n hH.fresh
 have hsr : SR B fn.ntmps M0 φ (zqv 0 args) h n { tmps := ⟨vs⟩ ++ Array.replicate (fn.ntmps - (⟨vs⟩ : Array Value).size) undef, defers := [] } w := by
  refine ⟨fun t => ?_, by simp; omega, zfp.nil, hH, ⟨M0, fun _ => False, (zd5 M0).symm, zqw (by omega), rfl, fun _ h => h.elim, .refl _ _ _ _⟩, hG⟩
  rcases ziO hargs 0 t with h1 | ⟨k, rfl, hk, hk', h1, h2⟩
  ·rw [h1]; exact .top _
  ·rw [h1]
   have : ((⟨vs⟩ : Array Value) ++ Array.replicate (fn.ntmps - (⟨vs⟩ : Array Value).size) undef).getD (0 + k) undef = vs[k] := by
    simp [Array.getD_eq_getD_getElem?, Array.getElem?_append, hk']
   rw [this]; exact h2
 have hw := zjk (P := P) hmix (B := B) (N := fn.ntmps) (m := 0) hd hsr hh
 refine callsIn_wide.1 (callsIn_of_wp_marks (F := WF none) (n := 0) hf hb trivial (wpIn_mono hw ?_) rfl)
 rintro ex a' w' ⟨M, φ', e', h', n', hs', hq⟩
 have fin : (zta P e' h' fn.results.toList).1 ∧ K (zyH (zta P e' h' fn.results.toList).2) h' n' → LeavesInM (WF none) 0 P fn a'.tmps (fun e w' => ∃ v_1 φ'_1 r h'_1 n'_1, e = Ending.returned v_1 ∧ K r h'_1 n'_1 ∧ zgP φ'_1 n'_1 w' M0 h'_1 ∧ Rel φ'_1 w' (Or M0 (Mut φ'_1 h'_1)) r v_1 ∧ zcZ φ w M0 h φ'_1 w' h'_1) a'.defers .returning w' := by
  rintro ⟨q1, q2⟩
  obtain ⟨M1, O, rfl, _, rfl, _, hst⟩ := hs'.ok
  refine zed hs'.defs fun w'' hn => ?_
  have hsub : ∀ k, Or M1 (Mut φ' h') k → Or (Or M1 O) (Mut φ' h') k := fun k hk => hk.imp .inl id
  have hHm : zgP φ' n' w' M1 h' := hs'.heap.lessM fun k hk => .inl hk
  obtain ⟨us, h1, h2⟩ := zeI (P := P) (hHm.nc hn) (fun t => ((hs'.env t).lessM hsub).nc hn) fn.results.toList q1
  refine ⟨_, ?_, _, φ', _, h', n', rfl, q2, hHm.nc hn, zsM h2, hst.nc hn⟩
  rw [zh0, Array.mapM_eq_mapM_toList]
  simp only [Sem.run_bind, Sem.run_map, Sem.run_pure, h1, Result.andThen_ok]
 cases ex with
 | normal => exact fin hq
 | ret => exact fin hq
 | _ => exact hq.elim
end

theorem zg9 {w : World} {M : Nat → Prop} (hM : ∀ k, M k → k < w.heap.size) (hg : zhw w M) : zgP noP 0 w M noH :=
 ⟨hM, fun _ _ => rfl, (fun o mt g sz rs ho => by cases ho), (fun o o' mt g sz rs mt' g' sz' rs' a a' b b' ho => by cases ho),
  hg.keep (fun _ _ _ => rfl) (fun k hk => .inl (hk.elim id fun h => (zaP h).elim))⟩

def RetI (P : Program) (rs : List ResultVar) (l more : Nat) : zbX
 | .normal, e, h, n | .ret, e, h, n => (zta P e h rs).1 ∧ ((more = 0 ∧ e GH = zbh l 0 []) ∨ e GH = zbh l 2 [])
 | _, _, _, _ => False
theorem zdz {l l' m m' : Nat} {r r' : List (List AV)} (h : zbh l m r = zbh l' m' r') : l = l' ∧ m = m' ∧ r = r' := by
 simp only [zbh, AV.gd.injEq, AV.tup.injEq, List.cons.injEq, AV.v.injEq, Value.int.injEq, AV.lst.injEq, and_true, true_and] at h
 obtain ⟨h1, h2, h3⟩ := h
 exact ⟨by omega, h2, h3⟩
def zxn (P : Program) (w : World) (l more : Nat) (J : List (List AV) → zcY → zcY → World → Prop) (Jx : zcY → zcY → World → Prop)
  (hJ : ∀ rs M O O' w1 w2, J rs M O w1 → Fr w1 O w2 → (∀ k, O' k → O k ∨ w1.heap.size ≤ k) → J rs M O' w2)
  (hJx : ∀ M O O' w1 w2, Jx M O w1 → Fr w1 O w2 → (∀ k, O' k → O k ∨ w1.heap.size ≤ k) → Jx M O' w2)
  (hn : ∀ rs M O w1 w2, J rs M O w1 → NC w.heap.size w1 w2 → J rs M O w2) (hnx : ∀ M O w1 w2, Jx M O w1 → NC w.heap.size w1 w2 → Jx M O w2)
  (hr : ∀ (r : Option Nat) (m : Nat) xs rest M O w1 vs, J (xs :: rest) M O w1 → (∀ k, O k → k < w1.heap.size) → zaN noP w1 (Or M O) xs vs →
   ∃ fn tmps assign body, (Instr.yield l ⟨vs⟩).run P w1 = .ok (.round l fn tmps assign body) w1 ∧ RoundIn (WF r) m P l fn tmps assign body w1 fun e w' =>
    ∃ b M', e = .returned (.bool b) ∧ ziB M w1 M' w' ∧ if b then J rest M' O w' else Jx M' O w')
  (hm : more = 1 → ∀ M O w1, ¬ J [] M O w1) : zeQ P where
 n0 := 0
 lo := w.heap.size
 round := none
 ok0 g M O φ w1 h := w.heap.size ≤ w1.heap.size ∧ w1.os = w1.os ∧ ((∃ rs, g = zbh l more rs ∧ J rs M (Or O (Mut φ h)) w1) ∨ (g = zbh l 2 [] ∧ Jx M (Or O (Mut φ h)) w1) ∨ g = .top)
 isG0 := by
  rintro g M O φ w1 h ⟨_, _, ⟨rs, rfl, _⟩ | ⟨rfl, _⟩ | rfl⟩
  ·exact .inr ⟨_, rfl⟩
  ·exact .inr ⟨_, rfl⟩
  ·exact .inl rfl
 step0 := by
  rintro g M O φ w1 h φ' w2 h' ⟨h1, _, h2⟩ st
  have hfr : Fr w1 (Or O (Mut φ h)) w2 := st.fr.more fun k hk => .inr hk
  have hO : ∀ k, Or O (Mut φ' h') k → Or O (Mut φ h) k ∨ w1.heap.size ≤ k := fun k hk => hk.elim (fun h => .inl (.inl h)) fun h => (st.mutd k h).imp .inr id
  exact ⟨Nat.le_trans h1 st.fr.size, rfl, h2.imp (fun ⟨rs, e, h⟩ => ⟨rs, e, hJ _ _ _ _ _ _ h hfr hO⟩) (fun h => h.imp (fun h => ⟨h.1, hJx _ _ _ _ _ h.2 hfr hO⟩) id)⟩
 forget0 := by
  rintro g g' M O φ w1 h φ' h' n' ⟨h1, _, h2⟩ hg h3 h4 _
  have hO : ∀ k, Or O (Mut φ' h') k → Or O (Mut φ h) k ∨ w1.heap.size ≤ k := fun k hk => .inl (hk.imp id (h3 k))
  rcases hg with rfl | rfl
  ·exact ⟨h1, rfl, h2.imp (fun ⟨rs, e, h⟩ => ⟨rs, e, hJ _ _ _ _ _ _ h (Fr.refl _ _) hO⟩) (fun h => h.imp (fun h => ⟨h.1, hJx _ _ _ _ _ h.2 (Fr.refl _ _) hO⟩) id)⟩
  ·exact ⟨h1, rfl, .inr (.inr rfl)⟩
 yld0 := by
  rintro r m l' more' xs rest M O φ w1 h n vs ⟨h1, _, ⟨rs, e, h2⟩ | ⟨e, _⟩ | e⟩ hH hv
  ·obtain ⟨rfl, rfl, rfl⟩ := zdz e
   obtain ⟨fn, tm, asg, body, k1, k2⟩ := hr r m xs rest M _ w1 vs h2 (fun k hk => hk.elim (fun h => hH.m0 k (.inr h)) fun h => hH.blk (.inr h)) (by rw [← zj5]; exact hv)
   refine ⟨fn, tm, asg, body, k1, k2.mono ?_⟩
   rintro en w2 ⟨b, M', e1, g, hk⟩
   refine ⟨b, M', e1, g, Nat.le_trans h1 g.size, rfl, ?_⟩
   cases b with
   | true => exact .inl ⟨rest, rfl, hk⟩
   | false => exact .inr (.inl ⟨rfl, hk⟩)
  ·obtain ⟨_, _, e⟩ := zdz e
   cases e
  ·cases e
 exh0 := by
  rintro l' M O φ w1 h ⟨h1, _, ⟨rs, e, h2⟩ | ⟨e, _⟩ | e⟩
  ·obtain ⟨rfl, e1, rfl⟩ := zdz e
   exact hm e1.symm _ _ _ h2
  ·obtain ⟨_, e, _⟩ := zdz e
   cases e
  ·cases e
 oth0 := by
  rintro g M O O' φ w1 w2 h ⟨h1, _, h2⟩ hfr hO
  have hfr' : Fr w1 (Or O (Mut φ h)) w2 := hfr.more fun k hk => .inl hk
  have hO' : ∀ k, Or O' (Mut φ h) k → Or O (Mut φ h) k ∨ w1.heap.size ≤ k := fun k hk => hk.elim (fun h => (hO k h).imp .inl id) fun h => .inl (.inr h)
  exact ⟨Nat.le_trans h1 hfr.size, rfl, h2.imp (fun ⟨rs, e, h⟩ => ⟨rs, e, hJ _ _ _ _ _ _ h hfr' hO'⟩) (fun h => h.imp (fun h => ⟨h.1, hJx _ _ _ _ _ h.2 hfr' hO'⟩) id)⟩
 nc0 := by
  rintro g M O φ w1 w2 h ⟨h1, _, h2⟩ hnc
  exact ⟨by rw [hnc.size]; exact h1, rfl, h2.imp (fun ⟨rs, e, h⟩ => ⟨rs, e, hn _ _ _ _ _ h hnc⟩) (fun h => h.imp (fun h => ⟨h.1, hnx _ _ _ _ h.2 hnc⟩) id)⟩
 give0 := by
  rintro g M O O' φ w1 h h' ⟨h1, _, h2⟩ hO' hm
  have hO : ∀ k, Or O' (Mut φ h') k → Or O (Mut φ h) k ∨ w1.heap.size ≤ k := fun k hk => .inl (hk.elim (hO' k) fun h => .inr (hm k h))
  exact ⟨h1, rfl, h2.imp (fun ⟨rs, e, h⟩ => ⟨rs, e, hJ _ _ _ _ _ _ h (Fr.refl _ _) hO⟩) (fun h => h.imp (fun h => ⟨h.1, hJx _ _ _ _ _ h.2 (Fr.refl _ _) hO⟩) id)⟩
 lo0 h := h.1
 rec0 _ h := by cases h
theorem zy3 {P : Program} (hmix : P.follows .mixedOrders = true) {f : FuncId} {fn : Func} {c : Code} {caps : List AV} {more : Nat} {rows : List (List AV)} (hf : P.funcs[f]? = some fn) (hb : fn.body = some c) (hname : (fn.name == "runtime.NumGoroutine") = false)
  (hN : caps.length + 1 ≤ fn.ntmps) (hd : znB fn.ntmps c = true)
  (hh : ∀ l, awp P 0 c (RetI P fn.results.toList l more) (upd (zqv 0 (.fn (.yield l) [] [] :: caps)) GH (zbh l more rows)) noH 0) (hG : fn.ntmps ≤ GH := by exact Nat.le_of_ble_eq_true rfl) (hm2 : more ≠ 2 := by decide) : zm4 P f caps more rows := by
 refine ⟨zjC hf hb hname, fun w M0 cvs l J Jx hM0 hgl hcaps hJ hJx hn hnx hr hm h0 => ?_⟩
 have hlen := hcaps.length
 let B : zeQ P := zxn P w l more J Jx hJ hJx hn hnx hr hm
 have hargs : zaN noP w (Or M0 (Mut noP noH)) (.fn (.yield l) [] [] :: caps) (.func (.yield l) #[] #[] :: cvs) :=
  .cons (.fn .nil .nil) (hcaps.keep noP.le_refl (fun _ _ _ => rfl) fun k hk => .inl (hk.elim id fun h => (zaP h).elim))
 have hsr : SR B fn.ntmps M0 noP (upd (zqv 0 (.fn (.yield l) [] [] :: caps)) GH (zbh l more rows)) noH 0
   { tmps := ⟨.func (.yield l) #[] #[] :: cvs⟩ ++ Array.replicate (fn.ntmps - (⟨.func (.yield l) #[] #[] :: cvs⟩ : Array Value).size) undef, defers := [] } w := by
  refine ⟨fun t => ?_, by simp; omega, zfp.nil, zg9 hM0 hgl, ⟨M0, fun _ => False, (zd5 M0).symm, Nat.le_refl _, rfl, .inl ⟨rows, by rw [zaB], hJ _ _ _ _ _ _ h0 (Fr.refl _ _) fun k hk => .inl (hk.elim id fun h => (zaP h).elim)⟩⟩, hG⟩
  by_cases ht : t = GH
  ·subst ht
   rw [zaB, Array.getD_eq_getD_getElem?, Array.getElem?_eq_none (by simp; omega)]
   exact .gd (fun h => by cases h) (fun _ => rfl)
  rw [zbm _ _ ht]
  rcases ziO hargs 0 t with h1 | ⟨k, rfl, hk, hk', h1, h2⟩
  ·rw [h1]; exact .top _
  ·rw [h1]
   have : ((⟨.func (.yield l) #[] #[] :: cvs⟩ : Array Value) ++ Array.replicate (fn.ntmps - (⟨.func (.yield l) #[] #[] :: cvs⟩ : Array Value).size) undef).getD (0 + k) undef = (Value.func (.yield l) #[] #[] :: cvs)[k] := by
    simp only [List.length_cons] at hk'
    simp [Array.getD_eq_getD_getElem?, Array.getElem?_append, hk']
   rw [this]; exact h2
 have hw := zjk (P := P) hmix (B := B) (N := fn.ntmps) (m := 0) hd hsr (hh l)
 refine callsIn_wide.1 (callsIn_of_wp_marks (F := WF none) (n := 0) hf hb trivial (wpIn_mono hw ?_) rfl)
 rintro ex a' w' ⟨M, φ', e', h', n', hs', hq⟩
 have fin : (zta P e' h' fn.results.toList).1 ∧ ((more = 0 ∧ e' GH = zbh l 0 []) ∨ e' GH = zbh l 2 []) →
   LeavesInM (WF none) 0 P fn a'.tmps (fun e w' => (∃ v, e = .returned v) ∧ ∃ M' O', (∀ k, O' k → k < w'.heap.size) ∧ ((more = 0 ∧ J [] M' O' w') ∨ Jx M' O' w')) a'.defers .returning w' := by
  rintro ⟨q1, q2⟩
  obtain ⟨Mc, O, rfl, _, _, hst⟩ := hs'.ok
  refine zed hs'.defs fun w'' hnc => ?_
  obtain ⟨us, h1, h2⟩ := zeI (P := P) (hs'.heap.nc hnc) (fun t => (hs'.env t).nc hnc) fn.results.toList q1
  refine ⟨if h : (⟨us⟩ : Array Value).size = 1 then (⟨us⟩ : Array Value)[0] else .tuple ⟨us⟩, ?_, ⟨_, rfl⟩, Mc, Or O (Mut φ' h'), fun k hk => ?_, ?_⟩
  ·rw [zh0, Array.mapM_eq_mapM_toList]
   simp only [Sem.run_bind, Sem.run_map, Sem.run_pure, h1, Result.andThen_ok]
  ·rw [hnc.size]; exact hk.elim (fun h => hs'.heap.m0 k (.inr h)) fun h => hs'.heap.blk (.inr h)
  ·rcases hst with ⟨rs, e1, h⟩ | ⟨e1, h⟩ | e1
   ·rw [e1] at q2
    rcases q2 with ⟨e2, q2⟩ | q2
    ·obtain ⟨_, _, rfl⟩ := zdz q2
     exact .inl ⟨e2, hn _ _ _ _ _ h hnc⟩
    ·obtain ⟨_, e3, rfl⟩ := zdz q2
     exact absurd e3 hm2
   ·exact .inr (hnx _ _ _ _ h hnc)
   ·rw [e1] at q2
    rcases q2 with ⟨_, q2⟩ | q2 <;> cases q2
 cases ex with
 | normal => exact fin hq
 | ret => exact fin hq
 | _ => exact hq.elim

theorem zzh {P : Program} (hmix : P.follows .mixedOrders = true) {f : FuncId} {fn : Func} {c : Code} {caps : List AV} {HO : List (Nat × zbz)} {k0 : Nat} {more : Nat} {rows : List (List AV)} (hf : P.funcs[f]? = some fn) (hb : fn.body = some c) (hname : (fn.name == "runtime.NumGoroutine") = false)
  (hN : caps.length + 1 ≤ fn.ntmps) (hd : znB fn.ntmps c = true)
  (hh : ∀ l, awp P 0 c (RetI P fn.results.toList l more) (upd (zqv 0 (.fn (.yield l) [] [] :: caps)) GH (zbh l more rows)) (mkH HO) k0) (hG : fn.ntmps ≤ GH := by exact Nat.le_of_ble_eq_true rfl) (hm2 : more ≠ 2 := by decide) : zoR P f caps HO k0 more rows := by
 refine ⟨zjC hf hb hname, fun φ w M0 cvs l J Jx hH0 hcaps hJ hJx hn hnx hr hm h0 => ?_⟩
 have hlen := hcaps.length
 let B : zeQ P := zxn P w l more J Jx hJ hJx hn hnx hr hm
 have hargs : zaN φ w (Or M0 (Mut φ (mkH HO))) (.fn (.yield l) [] [] :: caps) (.func (.yield l) #[] #[] :: cvs) := .cons (.fn .nil .nil) hcaps
 have hsr : SR B fn.ntmps M0 φ (upd (zqv 0 (.fn (.yield l) [] [] :: caps)) GH (zbh l more rows)) (mkH HO) k0
   { tmps := ⟨.func (.yield l) #[] #[] :: cvs⟩ ++ Array.replicate (fn.ntmps - (⟨.func (.yield l) #[] #[] :: cvs⟩ : Array Value).size) undef, defers := [] } w := by
  refine ⟨fun t => ?_, by simp; omega, zfp.nil, hH0, ⟨M0, fun _ => False, (zd5 M0).symm, Nat.le_refl _, rfl, .inl ⟨rows, by rw [zaB], hJ _ _ _ _ _ _ h0 (Fr.refl _ _) fun k hk => .inl (hk.elim False.elim id)⟩⟩, hG⟩
  by_cases ht : t = GH
  ·subst ht
   rw [zaB, Array.getD_eq_getD_getElem?, Array.getElem?_eq_none (by simp; omega)]
   exact .gd (fun h => by cases h) (fun _ => rfl)
  rw [zbm _ _ ht]
  rcases ziO hargs 0 t with h1 | ⟨k, rfl, hk, hk', h1, h2⟩
  ·rw [h1]; exact .top _
  ·rw [h1]
   have : ((⟨.func (.yield l) #[] #[] :: cvs⟩ : Array Value) ++ Array.replicate (fn.ntmps - (⟨.func (.yield l) #[] #[] :: cvs⟩ : Array Value).size) undef).getD (0 + k) undef = (Value.func (.yield l) #[] #[] :: cvs)[k] := by
    simp only [List.length_cons] at hk'
    simp [Array.getD_eq_getD_getElem?, Array.getElem?_append, hk']
   rw [this]; exact h2
 have hw := zjk (P := P) hmix (B := B) (N := fn.ntmps) (m := 0) hd hsr (hh l)
 refine callsIn_wide.1 (callsIn_of_wp_marks (F := WF none) (n := 0) hf hb trivial (wpIn_mono hw ?_) rfl)
 rintro ex a' w' ⟨M, φ', e', h', n', hs', hq⟩
 have fin : (zta P e' h' fn.results.toList).1 ∧ ((more = 0 ∧ e' GH = zbh l 0 []) ∨ e' GH = zbh l 2 []) →
   LeavesInM (WF none) 0 P fn a'.tmps (fun e w' => (∃ v, e = .returned v) ∧ ∃ M' O', (∀ k, O' k → k < w'.heap.size) ∧ ((more = 0 ∧ J [] M' O' w') ∨ Jx M' O' w')) a'.defers .returning w' := by
  rintro ⟨q1, q2⟩
  obtain ⟨Mc, O, rfl, _, _, hst⟩ := hs'.ok
  refine zed hs'.defs fun w'' hnc => ?_
  obtain ⟨us, h1, h2⟩ := zeI (P := P) (hs'.heap.nc hnc) (fun t => (hs'.env t).nc hnc) fn.results.toList q1
  refine ⟨if h : (⟨us⟩ : Array Value).size = 1 then (⟨us⟩ : Array Value)[0] else .tuple ⟨us⟩, ?_, ⟨_, rfl⟩, Mc, Or O (Mut φ' h'), fun k hk => ?_, ?_⟩
  ·rw [zh0, Array.mapM_eq_mapM_toList]
   simp only [Sem.run_bind, Sem.run_map, Sem.run_pure, h1, Result.andThen_ok]
  ·rw [hnc.size]; exact hk.elim (fun h => hs'.heap.m0 k (.inr h)) fun h => hs'.heap.blk (.inr h)
  ·rcases hst with ⟨rs, e1, h⟩ | ⟨e1, h⟩ | e1
   ·rw [e1] at q2
    rcases q2 with ⟨e2, q2⟩ | q2
    ·obtain ⟨_, _, rfl⟩ := zdz q2
     exact .inl ⟨e2, hn _ _ _ _ _ h hnc⟩
    ·obtain ⟨_, e3, rfl⟩ := zdz q2
     exact absurd e3 hm2
   ·exact .inr (hnx _ _ _ _ h hnc)
   ·rw [e1] at q2
    rcases q2 with ⟨_, q2⟩ | q2 <;> cases q2
 cases ex with
 | normal => exact fin hq
 | ret => exact fin hq
 | _ => exact hq.elim

theorem zaF.up {φ : zaA} {w : World} {M0 : Nat → Prop} {h : zav} {n : Nat} (hH : zgP φ 0 w M0 h) : zgP φ n w M0 h := ⟨hH.m0, fun o _ => hH.fresh o (Nat.zero_le _), hH.obj, hH.inj, hH.glob⟩
theorem zzr {P : Program} {f : FuncId} {args : List AV} {r : AV} {n : Nat} (hc : zaa P f args noH n fun r' h' n' => LeV h' noH n' r' r ∧ Bel 0 r) : zaC P f args r := by
 refine ⟨hc.1, fun M w vs hM hgl hargs => (hc.2 M noP w vs (zg9 hM hgl).up (hargs.keep noP.le_refl (fun _ _ _ => rfl) (fun k hk => hk.elim .inl fun h => (zaP h).elim))).mono ?_⟩
 rintro e w' ⟨v, φ', r', h', n', rfl, ⟨hle, hb⟩, hH, hx, st⟩
 have hk : Wk (fun _ => r') h' n' [(0, r)] [] 0 := ⟨fun p hp => by simp at hp; subst hp; exact ⟨hle, hb⟩, fun p hp => by cases hp⟩
 obtain ⟨φ'', h1, h2, h3, _⟩ := hk.sound hH (tmps := fun _ => v) (fun _ => hx)
 refine ⟨v, rfl, ?_, ?_⟩
 ·have := h2 0
  simp only [mkE, zaB] at this
  refine this.keep (fun o x ho => ?_) (fun _ _ _ => rfl) (fun k hk => .inl (.inl hk))
  rw [h1.fresh o (Nat.zero_le _)] at ho; cases ho
 ·exact ⟨st.fr.os, st.fr.tape, st.fr.output, st.fr.drawn, st.fr.size, fun k hk _ => st.fr.block k hk zaP⟩
theorem zyS {P : Program} {f : FuncId} {args : List AV} {r : AV} (hc : zaa P f args noH 0 fun r' h' n' => LeV h' noH n' r' r ∧ Bel 0 r) : zaC P f args r := zzr hc

theorem zzi {P : Program} {f : FuncId} {args args' : List AV} {r : AV} {h : zav} {n : Nat} {K : zc0} (hp : zaC P f args' r) (hfl : zqj r) (hle : zai h noH n args args') (hb : ∀ c ∈ args', Bel 0 c)
  (hk : K r h n) : zaa P f args h n K := by
 refine ⟨hp.1, fun M0 φ w vs hH hargs => ?_⟩
 have h1 := zce (h' := noH) hH (fun o g sz rs ho => by cases ho) hle hb hargs
 refine (hp.2 _ w vs (fun k hk => hk.elim (hH.m0 k) fun h => (zaP h).elim) (hH.glob.keep (fun _ _ _ => rfl) (fun k hk => .inl (hk.imp id fun h => (zaP h).elim))) h1).mono ?_
 rintro e w' ⟨v, rfl, hr, hfr⟩
 have st : zcZ φ w M0 h φ w' h := ⟨φ.le_refl, fun k hk => .inl hk, ⟨hfr.os, hfr.tape, hfr.output, hfr.drawn, hfr.size, fun k hk _ => hfr.block k hk (fun h => h)⟩, fun k hk => .inl hk⟩
 exact ⟨v, φ, r, h, n, rfl, hk, hH.keepw st (fun k hk => hfr.block k hk fun h => h), hfl.rel hr, st⟩

theorem zaa.pure {P : Program} {f : FuncId} {args args' : List AV} {r : AV} {h : zav} {n : Nat} {K : zc0} (h' : zav) (hp : zaC P f args' r) (hfz : Frz h h') (hle : zai h h' n args args') (hb : ∀ c ∈ args', Bel 0 c)
  (hk : K r h' n) : zaa P f args h n K := by
 refine ⟨hp.1, fun M0 φ w vs hH hargs => ?_⟩
 obtain ⟨hH', st0⟩ := hH.freeze hfz
 have hmt : ∀ o g sz rs, h' o = some (.rows true g sz rs) → h o = some (.rows true g sz rs) := by
  intro o g sz rs ho
  rcases hfz o with h1 | ⟨g1, sz1, rs1, _, h2⟩
  ·rw [← h1]; exact ho
  ·rw [h2] at ho; cases ho
 have h1 := zce (h' := h') hH hmt hle hb hargs
 refine (hp.2 _ w vs (fun k hk => hH'.blk hk) hH'.glob h1).mono ?_
 rintro e w' ⟨v, rfl, hr, hfr⟩
 have st : zcZ φ w M0 h' φ w' h' := ⟨φ.le_refl, fun k hk => .inl hk, ⟨hfr.os, hfr.tape, hfr.output, hfr.drawn, hfr.size, fun k hk _ => hfr.block k hk (fun h => h)⟩, fun k hk => .inl hk⟩
 refine ⟨v, φ, r, h', n, rfl, hk, hH'.keepw st (fun k hk => hfr.block k hk fun h => h), ?_, st0.trans st⟩
 exact hr.keep (fun o x ho => by cases ho) (fun _ _ _ => rfl) (fun k hk => .inl hk)
theorem zyJ {P : Program} {f : FuncId} {args : List AV} {r : AV} {h : zav} {n : Nat} {K : zc0} (hp : zaC P f args r) (hb : ∀ c ∈ args, Bel 0 c) (hk : K r h n) : zaa P f args h n K :=
 zaa.pure h hp (.refl h) (.refl _ _ _ _) hb hk

theorem zzg {P : Program} {f : FuncId} {args args' : List AV} {h : zav} {n k2 : Nat} {K K' : zc0} {R0 R : AV} {H0 HH : List (Nat × zbz)} (h' : zav) (hp : zaa P f args' noH 0 K')
  (hk' : ∀ r h1 n', K' r h1 n' → Wk (fun _ => r) h1 n' [(0, R0)] H0 k2) (hR : Sh n R0 R) (hHH : ShH n H0 HH) (hfz : Frz h h') (hle : zai h h' n args args') (hb : ∀ c ∈ args', Bel 0 c)
  (hk : K R (zd7 HH h') (n + k2)) : zaa P f args h n K := by
 refine ⟨hp.1, fun M0 φ w vs hH hargs => ?_⟩
 obtain ⟨hH', st0⟩ := hH.freeze hfz
 have hmt : ∀ o g sz rs, h' o = some (.rows true g sz rs) → h o = some (.rows true g sz rs) := by
  intro o g sz rs ho
  rcases hfz o with h1 | ⟨g1, sz1, rs1, h1, h2⟩
  ·rw [← h1]; exact ho
  ·rw [h2] at ho; cases ho
 have hv := zce (h' := h') hH hmt hle hb hargs
 have hM1 : ∀ k, Or (Or M0 (Mut φ h')) (Mut noP noH) k → Or M0 (Mut φ h') k := fun k hk => hk.elim id fun h => (zaP h).elim
 have hH1 : zgP noP 0 w (Or M0 (Mut φ h')) noH := zg9 (fun k hk => hH'.blk hk) hH'.glob
 refine (hp.2 _ noP w vs hH1 (hv.keep noP.le_refl (fun _ _ _ => rfl) (fun k hk => .inl (hM1 k hk)))).mono ?_
 rintro e w' ⟨v, φ1, r, h1, n', rfl, hK, hH2, hx, st⟩
 obtain ⟨φ2, hH3, hx3, hm3, _⟩ := (hk' _ _ _ hK).sound hH2 (tmps := fun _ => v) (fun _ => hx)
 have hx3 := hx3 0
 simp only [mkE, zaB] at hx3
 have hheap : ∀ k, k < w.heap.size → w'.heap[k]? = w.heap[k]? := fun k hk => st.fr.block k hk zaP
 let φ3 : zaA := fun o => if o < n then φ o else φ2 (o - n)
 have e3 : ∀ o, φ3 (n + o) = φ2 o := fun o => by simp only [φ3]; rw [if_neg (by omega)]; congr 1; omega
 have e3' : ∀ o, o < n → φ3 o = φ o := fun o ho => if_pos ho
 have hlt : ∀ o x, φ o = some x → o < n := fun o x ho => Nat.lt_of_not_le fun hle => by rw [hH.fresh o hle] at ho; cases ho
 have hle3 : φ.le φ3 := fun o x ho => ⟨x, by rw [e3' o (hlt o x ho)]; exact ho, Nat.le_refl _, fun _ => rfl⟩
 have hsrc : ∀ o y, zd7 HH h' o = some y → (∃ o0 x, o = n + o0 ∧ mkH H0 o0 = some x ∧ ShO n x y) ∨ (o < n ∧ h' o = some y) := by
  intro o x ho
  rw [zgB] at ho
  split at ho
  ·rename_i y hy
   cases ho
   exact .inl (hHH.at hy)
  ·cases x with
   | rows mt g sz rs =>
    obtain ⟨A, hA, _⟩ := hH'.obj _ _ _ _ _ ho
    exact .inr ⟨hlt _ _ hA, ho⟩
 have hmut : ∀ k, Mut φ3 (zd7 HH h') k → Mut φ2 (mkH H0) k ∨ Mut φ h' k := by
  rintro k ⟨o, g, sz, rs, g', a, bs, ho, hp, rfl⟩
  rcases hsrc o _ ho with ⟨o0, x, rfl, h1, h2⟩ | ⟨h1, h2⟩
  ·cases h2 with
   | rows h2 => rw [e3] at hp; exact .inl ⟨o0, g, sz, _, g', a, bs, h1, hp, rfl⟩
  ·rw [e3' o h1] at hp; exact .inr ⟨o, g, sz, rs, g', a, bs, h2, hp, rfl⟩
 have hnew : ∀ k, Mut φ2 (mkH H0) k → w.heap.size ≤ k := fun k hk => (st.mutd k (hm3 k hk)).elim (fun h => (zaP h).elim) id
 have hsub : ∀ k, Or M0 (Mut φ3 (zd7 HH h')) k → Or (Or M0 (Mut φ h')) (Mut φ2 (mkH H0)) k := fun k hk => hk.elim (fun h => .inl (.inl h)) fun h => (hmut k h).elim .inr fun h => .inl (.inr h)
 have hsub' : ∀ k, Or M0 (Mut φ3 (zd7 HH h')) k → Or M0 (Mut φ h') k ∨ w.heap.size ≤ k := fun k hk => hk.elim (fun h => .inl (.inl h)) fun h => (hmut k h).elim (fun h => .inr (hnew k h)) fun h => .inl (.inr h)
 have hblk : ∀ o x g' a bs, h' o = some x → φ o = some (g', some (a, bs)) → a.block < w.heap.size := by
  intro o x g' a bs ho hp
  cases x with
  | rows mt g sz rs =>
   obtain ⟨A, hA, hc⟩ := hH'.obj _ _ _ _ _ ho
   rw [hp] at hA
   simp only [Option.some.injEq, Prod.mk.injEq] at hA
   obtain ⟨rfl, rfl⟩ := hA
   rcases hc with ⟨h, _⟩ | ⟨a', bs', h, _, h2⟩
   ·cases h
   ·simp only [Option.some.injEq, Prod.mk.injEq] at h
    obtain ⟨rfl, rfl⟩ := h
    exact h2.blk
 have hfar : ∀ o0 mt g sz rs g' a bs o' y g1 a' b', mkH H0 o0 = some (.rows mt g sz rs) → φ2 o0 = some (g', some (a, bs)) → h' o' = some y → φ o' = some (g1, some (a', b')) →
   (mt = true ∨ ∃ g sz rs, y = .rows true g sz rs) → a.block ≠ a'.block := by
  intro o0 mt g sz rs g' a bs o' y g1 a' b' q1 q2 q3 q4 hm
  have hb' := hblk _ _ _ _ _ q3 q4
  rcases hm with rfl | ⟨g2, sz2, rs2, rfl⟩
  ·have := hnew a.block ⟨o0, g, sz, rs, _, a, bs, q1, q2, rfl⟩
   omega
  ·intro he
   obtain ⟨A, hA, hc⟩ := hH3.obj _ _ _ _ _ q1
   rw [q2] at hA
   simp only [Option.some.injEq, Prod.mk.injEq] at hA
   obtain ⟨_, rfl⟩ := hA
   rcases hc with ⟨h, _⟩ | ⟨a1, bs1, h, hn0, _⟩
   ·cases h
   ·simp only [Option.some.injEq, Prod.mk.injEq] at h
    obtain ⟨rfl, rfl⟩ := h
    exact hn0 (.inr ⟨o', g2, sz2, rs2, _, a', b', q3, q4, he.symm⟩)
 refine ⟨v, φ3, R, zd7 HH h', n + k2, rfl, hk, ⟨fun k hk => Nat.lt_of_lt_of_le (hH.m0 k hk) st.fr.size, fun o ho => ?_, fun o mt g sz rs ho => ?_, fun o o' mt g sz rs mt' g' sz' rs' a a' b b' ho ho' hne hm hp hp' => ?_, hH'.glob.keep (fun k _ hk => hheap k hk) hsub'⟩,
  hR.rel (fun o x h => (e3 o).trans h) hsub hx3, st0.trans ⟨hle3, hsub', ⟨st.fr.os, st.fr.tape, st.fr.output, st.fr.drawn, st.fr.size, fun k hk _ => hheap k hk⟩, fun k hk => (hmut k hk).elim (fun h => .inr (hnew k h)) .inl⟩⟩
 ·obtain ⟨d, rfl⟩ := Nat.exists_eq_add_of_le (show n ≤ o by omega)
  rw [e3]; exact hH3.fresh d (by omega)
 ·rcases hsrc o _ ho with ⟨o0, x, rfl, h1, h2⟩ | ⟨h1, h2⟩
  ·cases h2 with
   | rows hs =>
    obtain ⟨A, hA, hc⟩ := hH3.obj _ _ _ _ _ h1
    refine ⟨A, by rw [e3]; exact hA, hc.imp (fun h => ⟨h.1, ?_⟩) ?_⟩
    ·obtain ⟨_, rfl⟩ := h
     exact List.eq_nil_of_length_eq_zero hs.shape.1
    ·rintro ⟨a, bs, c1, c3, hd⟩
     exact ⟨a, bs, c1, fun hk => c3 (.inl hk), hd.turn rfl hs.shape.1 (hs.shape.2 sz) (fun c9 => hs.rel (fun o x h => (e3 o).trans h) hsub c9)⟩
  ·obtain ⟨A, hA, hc⟩ := hH'.obj _ _ _ _ _ h2
   refine ⟨A, by rw [e3' o h1]; exact hA, hc.imp id ?_⟩
   rintro ⟨a, bs, c1, c3, hd⟩
   exact ⟨a, bs, c1, c3, hd.keep (hheap _ hd.blk) (fun c9 => c9.keep hle3 (fun k _ hk => hheap k hk) hsub')⟩
 ·rcases hsrc o _ ho with ⟨o0, x, rfl, q1, q2⟩ | ⟨q1, q2⟩ <;> rcases hsrc o' _ ho' with ⟨o0', x', rfl, q1', q2'⟩ | ⟨q1', q2'⟩
  ·cases q2; cases q2'
   rw [e3] at hp hp'
   exact hH3.inj _ _ _ _ _ _ _ _ _ _ _ _ _ _ q1 q1' (by omega) hm hp hp'
  ·cases q2
   rw [e3] at hp; rw [e3' o' q1'] at hp'
   exact hfar _ _ _ _ _ _ _ _ _ _ _ _ _ q1 hp q2' hp' (hm.imp id fun h => by subst h; exact ⟨_, _, _, rfl⟩)
  ·cases q2'
   rw [e3' o q1] at hp; rw [e3] at hp'
   exact Ne.symm (hfar _ _ _ _ _ _ _ _ _ _ _ _ _ q1' hp' q2 hp (hm.symm.imp id fun h => by subst h; exact ⟨_, _, _, rfl⟩))
  ·rw [e3' o q1] at hp; rw [e3' o' q1'] at hp'
   exact hH'.inj _ _ _ _ _ _ _ _ _ _ _ _ _ _ q2 q2' hne hm hp hp'

theorem zze {P : Program} {f : FuncId} {args args' : List AV} {h : zav} {n k2 : Nat} {K K' : zc0} {R0 R : AV} {H0 HH : List (Nat × zbz)} (hp : zaa P f args' noH 0 K')
  (hk' : ∀ r h1 n', K' r h1 n' → Wk (fun _ => r) h1 n' [(0, R0)] H0 k2) (hR : Sh n R0 R) (hHH : ShH n H0 HH) (hnR : zgQ R0) (hnH : ∀ p ∈ H0, zm3 p.2) (hle : zai h noH n args args') (hb : ∀ c ∈ args', Bel 0 c)
  (hk : K R (zd7 HH h) (n + k2)) : zaa P f args h n K := by
 refine ⟨hp.1, fun M0 φ w vs hH hargs => ?_⟩
 have hv := zce (h' := noH) hH (fun o g sz rs ho => by cases ho) hle hb hargs
 have hM1 : ∀ k, Or M0 (Mut noP noH) k → M0 k := fun k hk => hk.elim id fun h => (zaP h).elim
 have hM2 : ∀ k, Or M0 (Mut φ noH) k → M0 k := fun k hk => hk.elim id fun h => (zaP h).elim
 have hH1 : zgP noP 0 w M0 noH := zg9 (fun k hk => hH.m0 k hk) (hH.glob.keep (fun _ _ _ => rfl) (fun k hk => .inl (.inl hk)))
 refine (hp.2 _ noP w vs hH1 (hv.keep noP.le_refl (fun _ _ _ => rfl) (fun k hk => .inl (.inl (hM1 k hk))))).mono ?_
 rintro e w' ⟨v, φ1, r, h1, n', rfl, hK, hH2, hx, st⟩
 obtain ⟨φ2, hH3, hx3, hm3, _⟩ := (hk' _ _ _ hK).sound hH2 (tmps := fun _ => v) (fun _ => hx)
 have hnw : ∀ k, Mut φ2 (mkH H0) k → w.heap.size ≤ k := fun k hk => (st.mutd k (hm3 k hk)).elim (fun h => (zaP h).elim) id
 have hold : ∀ k, Mut φ h k → k < w.heap.size := fun k hk => hH.blk (.inr hk)
 replace hH3 : zgP φ2 k2 w' (Or M0 (Mut φ h)) (mkH H0) := hH3.widen (N := w.heap.size) (fun o x ho => hnH _ (zet ho)) hnw hold st.fr.size
  (hH.glob.keep (fun k _ hk => st.fr.block k hk zaP) (fun k hk => hk.imp id (hnw k)))
 have hmt : ∀ o g sz rs, h o = some (.rows true g sz rs) → h o = some (.rows true g sz rs) := fun _ _ _ _ h => h
 have hH' := hH
 have st0 : zcZ φ w M0 h φ w h := ⟨φ.le_refl, fun k hk => .inl hk, Fr.refl _ _, fun k hk => .inl hk⟩
 replace hx3 : ∀ i, Rel φ2 w' (Or (Or M0 (Mut φ h)) (Mut φ2 (mkH H0))) (mkE [(0, R0)] i) v := fun i => by
  have := hx3 i
  simp only [mkE, upd] at this ⊢
  split
  ·rename_i hi
   rw [if_pos hi] at this
   exact hnR.rel this
  ·exact .top _
 have hx3 := hx3 0
 simp only [mkE, zaB] at hx3
 have hheap : ∀ k, k < w.heap.size → w'.heap[k]? = w.heap[k]? := fun k hk => st.fr.block k hk zaP
 let φ3 : zaA := fun o => if o < n then φ o else φ2 (o - n)
 have e3 : ∀ o, φ3 (n + o) = φ2 o := fun o => by simp only [φ3]; rw [if_neg (by omega)]; congr 1; omega
 have e3' : ∀ o, o < n → φ3 o = φ o := fun o ho => if_pos ho
 have hlt : ∀ o x, φ o = some x → o < n := fun o x ho => Nat.lt_of_not_le fun hle => by rw [hH.fresh o hle] at ho; cases ho
 have hle3 : φ.le φ3 := fun o x ho => ⟨x, by rw [e3' o (hlt o x ho)]; exact ho, Nat.le_refl _, fun _ => rfl⟩
 have hsrc : ∀ o y, zd7 HH h o = some y → (∃ o0 x, o = n + o0 ∧ mkH H0 o0 = some x ∧ ShO n x y) ∨ (o < n ∧ h o = some y) := by
  intro o x ho
  rw [zgB] at ho
  split at ho
  ·rename_i y hy
   cases ho
   exact .inl (hHH.at hy)
  ·cases x with
   | rows mt g sz rs =>
    obtain ⟨A, hA, _⟩ := hH'.obj _ _ _ _ _ ho
    exact .inr ⟨hlt _ _ hA, ho⟩
 have hmut : ∀ k, Mut φ3 (zd7 HH h) k → Mut φ2 (mkH H0) k ∨ Mut φ h k := by
  rintro k ⟨o, g, sz, rs, g', a, bs, ho, hp, rfl⟩
  rcases hsrc o _ ho with ⟨o0, x, rfl, h1, h2⟩ | ⟨h1, h2⟩
  ·cases h2 with
   | rows h2 => rw [e3] at hp; exact .inl ⟨o0, g, sz, _, g', a, bs, h1, hp, rfl⟩
  ·rw [e3' o h1] at hp; exact .inr ⟨o, g, sz, rs, g', a, bs, h2, hp, rfl⟩
 have hnew : ∀ k, Mut φ2 (mkH H0) k → w.heap.size ≤ k := fun k hk => (st.mutd k (hm3 k hk)).elim (fun h => (zaP h).elim) id
 have hsub : ∀ k, Or M0 (Mut φ3 (zd7 HH h)) k → Or (Or M0 (Mut φ h)) (Mut φ2 (mkH H0)) k := fun k hk => hk.elim (fun h => .inl (.inl h)) fun h => (hmut k h).elim .inr fun h => .inl (.inr h)
 have hsub' : ∀ k, Or M0 (Mut φ3 (zd7 HH h)) k → Or M0 (Mut φ h) k ∨ w.heap.size ≤ k := fun k hk => hk.elim (fun h => .inl (.inl h)) fun h => (hmut k h).elim (fun h => .inr (hnew k h)) fun h => .inl (.inr h)
 have hblk : ∀ o x g' a bs, h o = some x → φ o = some (g', some (a, bs)) → a.block < w.heap.size := by
  intro o x g' a bs ho hp
  cases x with
  | rows mt g sz rs =>
   obtain ⟨A, hA, hc⟩ := hH'.obj _ _ _ _ _ ho
   rw [hp] at hA
   simp only [Option.some.injEq, Prod.mk.injEq] at hA
   obtain ⟨rfl, rfl⟩ := hA
   rcases hc with ⟨h, _⟩ | ⟨a', bs', h, _, h2⟩
   ·cases h
   ·simp only [Option.some.injEq, Prod.mk.injEq] at h
    obtain ⟨rfl, rfl⟩ := h
    exact h2.blk
 have hfar : ∀ o0 mt g sz rs g' a bs o' y g1 a' b', mkH H0 o0 = some (.rows mt g sz rs) → φ2 o0 = some (g', some (a, bs)) → h o' = some y → φ o' = some (g1, some (a', b')) →
   (mt = true ∨ ∃ g sz rs, y = .rows true g sz rs) → a.block ≠ a'.block := by
  intro o0 mt g sz rs g' a bs o' y g1 a' b' q1 q2 q3 q4 hm
  have hb' := hblk _ _ _ _ _ q3 q4
  rcases hm with rfl | ⟨g2, sz2, rs2, rfl⟩
  ·have := hnew a.block ⟨o0, g, sz, rs, _, a, bs, q1, q2, rfl⟩
   omega
  ·intro he
   obtain ⟨A, hA, hc⟩ := hH3.obj _ _ _ _ _ q1
   rw [q2] at hA
   simp only [Option.some.injEq, Prod.mk.injEq] at hA
   obtain ⟨_, rfl⟩ := hA
   rcases hc with ⟨h, _⟩ | ⟨a1, bs1, h, hn0, _⟩
   ·cases h
   ·simp only [Option.some.injEq, Prod.mk.injEq] at h
    obtain ⟨rfl, rfl⟩ := h
    exact hn0 (.inr ⟨o', g2, sz2, rs2, _, a', b', q3, q4, he.symm⟩)
 refine ⟨v, φ3, R, zd7 HH h, n + k2, rfl, hk, ⟨fun k hk => Nat.lt_of_lt_of_le (hH.m0 k hk) st.fr.size, fun o ho => ?_, fun o mt g sz rs ho => ?_, fun o o' mt g sz rs mt' g' sz' rs' a a' b b' ho ho' hne hm hp hp' => ?_, hH'.glob.keep (fun k _ hk => hheap k hk) hsub'⟩,
  hR.rel (fun o x h => (e3 o).trans h) hsub hx3, st0.trans ⟨hle3, hsub', ⟨st.fr.os, st.fr.tape, st.fr.output, st.fr.drawn, st.fr.size, fun k hk _ => hheap k hk⟩, fun k hk => (hmut k hk).elim (fun h => .inr (hnew k h)) .inl⟩⟩
 ·obtain ⟨d, rfl⟩ := Nat.exists_eq_add_of_le (show n ≤ o by omega)
  rw [e3]; exact hH3.fresh d (by omega)
 ·rcases hsrc o _ ho with ⟨o0, x, rfl, h1, h2⟩ | ⟨h1, h2⟩
  ·cases h2 with
   | rows hs =>
    obtain ⟨A, hA, hc⟩ := hH3.obj _ _ _ _ _ h1
    refine ⟨A, by rw [e3]; exact hA, hc.imp (fun h => ⟨h.1, ?_⟩) ?_⟩
    ·obtain ⟨_, rfl⟩ := h
     exact List.eq_nil_of_length_eq_zero hs.shape.1
    ·rintro ⟨a, bs, c1, c3, hd⟩
     exact ⟨a, bs, c1, fun hk => c3 (.inl hk), hd.turn rfl hs.shape.1 (hs.shape.2 sz) (fun c9 => hs.rel (fun o x h => (e3 o).trans h) hsub c9)⟩
  ·obtain ⟨A, hA, hc⟩ := hH'.obj _ _ _ _ _ h2
   refine ⟨A, by rw [e3' o h1]; exact hA, hc.imp id ?_⟩
   rintro ⟨a, bs, c1, c3, hd⟩
   exact ⟨a, bs, c1, c3, hd.keep (hheap _ hd.blk) (fun c9 => c9.keep hle3 (fun k _ hk => hheap k hk) hsub')⟩
 ·rcases hsrc o _ ho with ⟨o0, x, rfl, q1, q2⟩ | ⟨q1, q2⟩ <;> rcases hsrc o' _ ho' with ⟨o0', x', rfl, q1', q2'⟩ | ⟨q1', q2'⟩
  ·cases q2; cases q2'
   rw [e3] at hp hp'
   exact hH3.inj _ _ _ _ _ _ _ _ _ _ _ _ _ _ q1 q1' (by omega) hm hp hp'
  ·cases q2
   rw [e3] at hp; rw [e3' o' q1'] at hp'
   exact hfar _ _ _ _ _ _ _ _ _ _ _ _ _ q1 hp q2' hp' (hm.imp id fun h => by subst h; exact ⟨_, _, _, rfl⟩)
  ·cases q2'
   rw [e3' o q1] at hp; rw [e3] at hp'
   exact Ne.symm (hfar _ _ _ _ _ _ _ _ _ _ _ _ _ q1' hp' q2 hp (hm.symm.imp id fun h => by subst h; exact ⟨_, _, _, rfl⟩))
  ·rw [e3' o q1] at hp; rw [e3' o' q1'] at hp'
   exact hH'.inj _ _ _ _ _ _ _ _ _ _ _ _ _ _ q2 q2' hne hm hp hp'

def zgf (P : Program) (f : FuncId) (args : List AV) (R : Nat → AV) (HH : Nat → List (Nat × zbz)) (k : Nat) : Prop :=
 zaa P f args noH 0 (fun r h n' => Wk (fun _ => r) h n' [(0, R 0)] (HH 0) k) ∧ ∀ n, Sh n (R 0) (R n) ∧ ShH n (HH 0) (HH n)
theorem zzj {P : Program} {f : FuncId} {args args' : List AV} {h : zav} {n : Nat} {K : zc0} {R : Nat → AV} {HH : Nat → List (Nat × zbz)} {k : Nat} (h' : zav) (hp : zgf P f args' R HH k)
  (hfz : Frz h h') (hle : zai h h' n args args') (hb : ∀ c ∈ args', Bel 0 c) (hk : K (R n) (zd7 (HH n) h') (n + k)) : zaa P f args h n K :=
 zzg h' hp.1 (fun _ _ _ h => h) (hp.2 n).1 (hp.2 n).2 hfz hle hb hk
theorem zgf.pure {P : Program} {f : FuncId} {args : List AV} {R : Nat → AV} {HH : Nat → List (Nat × zbz)} {k : Nat} {r : AV} (hp : zgf P f args R HH k) (hle : LeV (mkH (HH 0)) noH k (R 0) r) (hb : Bel 0 r) : zaC P f args r := by
 refine ⟨hp.1.1, fun M w vs hM hgl hargs => (hp.1.2 M noP w vs (zg9 hM hgl) (hargs.keep noP.le_refl (fun _ _ _ => rfl) (fun k hk => hk.elim .inl fun h => (zaP h).elim))).mono ?_⟩
 rintro e w' ⟨v, φ', r', h', n', rfl, hk, hH, hx, st⟩
 obtain ⟨φ1, g1, g2, _, _⟩ := hk.sound hH (tmps := fun _ => v) (fun _ => hx)
 have g2 := g2 0
 simp only [mkE, zaB] at g2
 have hk2 : Wk (fun _ => R 0) (mkH (HH 0)) k [(0, r)] [] 0 := ⟨fun p hp => by simp at hp; subst hp; exact ⟨hle, hb⟩, fun p hp => by cases hp⟩
 obtain ⟨φ'', h1, h2, h3, _⟩ := hk2.sound g1 (tmps := fun _ => v) (fun _ => g2)
 refine ⟨v, rfl, ?_, ?_⟩
 ·have := h2 0
  simp only [mkE, zaB] at this
  refine this.keep (fun o x ho => ?_) (fun _ _ _ => rfl) (fun k hk => .inl (.inl hk))
  rw [h1.fresh o (Nat.zero_le _)] at ho; cases ho
 ·exact ⟨st.fr.os, st.fr.tape, st.fr.output, st.fr.drawn, st.fr.size, fun k hk _ => st.fr.block k hk zaP⟩
theorem zyO {P : Program} {f : FuncId} {args : List AV} {h : zav} {n : Nat} {K : zc0} {R : Nat → AV} {HH : Nat → List (Nat × zbz)} {k : Nat} (hp : zgf P f args R HH k)
  (hb : ∀ c ∈ args, Bel 0 c) (hk : K (R n) (zd7 (HH n) h) (n + k)) : zaa P f args h n K :=
 zzj h hp (.refl h) (.refl _ _ _ _) hb hk
theorem zzd {P : Program} {f : FuncId} {sz : Nat} {rows : List (List AV)} {xs : List AV} {h : zav} {n : Nat} {K : zc0} (h1 : rows ≠ [] → zaa P f (.lst sz rows :: xs) h n K)
  (h2 : rows = [] → ∀ A c, zaa P f (.v (.slice A 0 c) :: xs) h n K) : zaa P f (.lst sz rows :: xs) h n K := by
 by_cases hr : rows = []
 ·refine ⟨(h2 hr none 0).1, fun M0 φ w vs hH hargs => ?_⟩
  cases hargs with
  | cons hx ht =>
   cases hx with
   | nil _ A c => exact (h2 hr A c).2 M0 φ w _ hH (.cons (.v _) ht)
   | @lst _ _ a len cap C T fz hs hM hb hrr hl hc hcap hv h =>
    have : len = 0 := by rw [hl, hr]; rfl
    subst this
    exact (h2 hr (some a) cap).2 M0 φ w _ hH (.cons (.v _) ht)
 ·exact h1 hr
theorem pF {P : Program} {f : FuncId} {fn : Func} {c : Code} {args : List AV} {r : AV} (hf : P.funcs[f]? = some fn) (hh : awp P 0 c (RetQ P fn.results.toList fun r' h' n' => LeV h' noH n' r' r ∧ Bel 0 r) (zqv 0 args) noH 0) (hmix : P.follows .mixedOrders = true := by kernel_rfl) (hb : fn.body = some c := by rfl) (hname : (fn.name == "runtime.NumGoroutine") = false := by rfl) (hN : args.length ≤ fn.ntmps := by exact Nat.le_of_ble_eq_true rfl) (hd : znB fn.ntmps c = true := by kernel_rfl) (hG : fn.ntmps ≤ GH := by exact Nat.le_of_ble_eq_true rfl) : zaC P f args r := zyS (zyL hmix hf hb hname hN hd hh hG)
end Go.Av
end
section
/- Our library, part 13: equations by which code is evaluated. -/
namespace Go.Av
open Go

section
variable {P : Program} {n0 : Nat} {Q : zbX} {e : Env} {h : zav} {n : Nat} {ops rest : List Oper}
def VC (a b : Prop) : Prop := a ∧ b
def VQ (a b : Prop) : Prop := a ∧ b
theorem zxE {b : Prop} : VQ True b = b := by simp [VQ]
theorem VQ.mk {a b : Prop} (h1 : a) (h2 : a → b) : VQ a b := ⟨h1, h2 h1⟩
@[congr] theorem VQ_congr {a b c : Prop} (h1 : a = c) : VQ a b = VQ c b := by subst h1; rfl
theorem VC.mk {a b : Prop} (h1 : a) (h2 : a → b) : VC a b := ⟨h1, h2 h1⟩
@[congr] theorem VC_congr {a b c : Prop} (h1 : a = c) : VC a b = VC c b := by subst h1; rfl
def aIf (t : Bool) (a b : Prop) : Prop := (t = true → a) ∧ (t = false → b)
theorem aIf.mk {t : Bool} {a b : Prop} (h1 : t = true → a) (h2 : t = false → b) : aIf t a b := ⟨h1, h2⟩
@[congr] theorem aIf_congr {t t' : Bool} {a b : Prop} (h : t = t') : aIf t a b = aIf t' a b := by subst h; rfl
@[congr] theorem upd_congr {α : Type} {f : Nat → α} {k : Nat} {x : α} {j j' : Nat} (h : j = j') : upd f k x j = upd f k x j' := by subst h; rfl
theorem zaw {α : Type} [Inhabited α] (x : α) (l : List α) : nth (x :: l) 0 = x := rfl
theorem ziY {α : Type} [Inhabited α] (x : α) (l : List α) (k : Nat) : nth (x :: l) (k + 1) = nth l k := by simp [nth]
theorem zv7 (x : AV) (l : List AV) (k : Nat) : cel (x :: l) (k + 1) = cel l k := by simp [cel]
theorem zbb {α β : Type} [Inhabited α] [Inhabited β] (f : α → β) (l : List α) (i : Nat) (h : i < l.length) : nth (l.map f) i = f (nth l i) := by simp [nth, h]
theorem zaJ {α : Type} [Inhabited α] (l : List α) (i : Nat) (h : i < l.length) : nth l i = l[i] := by simp [nth, h]
theorem zan {α : Type} [Inhabited α] {l : List α} {i : Nat} (h : i < l.length) : nth l i ∈ l := by rw [zaJ l i h]; exact List.getElem_mem _
def zpg (P : Program) (ops : List Oper) (Q : zbX) (rest : List Oper) (e : Env) (h : zav) (n : Nat) : Prop := zdw P ops Q rest e h n
def zyC (P : Program) (n0 : Nat) (c : Code) (Q : zbX) (e : Env) (h : zav) (n : Nat) : Prop := awp P n0 c Q e h n
theorem zxD : VC True (zpg P ops Q rest e h n) = zdw P ops Q rest e h n := by simp [VC, zpg]
theorem zy6 {a : Prop} (h1 : a) (h2 : a → zdw P ops Q rest e h n) : VC a (zpg P ops Q rest e h n) := ⟨h1, h2 h1⟩
theorem ztm {a : Code} {y : Prop} : aIf true (zyC P n0 a Q e h n) y = awp P n0 a Q e h n := by simp [aIf, zyC]
theorem zrB {b : Code} {y : Prop} : aIf false y (zyC P n0 b Q e h n) = awp P n0 b Q e h n := by simp [aIf, zyC]
theorem zyK {t : Bool} {a b : Code} (h1 : t = true → awp P n0 a Q e h n) (h2 : t = false → awp P n0 b Q e h n) : aIf t (zyC P n0 a Q e h n) (zyC P n0 b Q e h n) := ⟨h1, h2⟩
def aRes (P : Program) (ops : List Oper) (Q : zbX) (rest : List Oper) (dst : Option Tmp) (r : Res) (e : Env) (h : zav) (n : Nat) : Prop :=
  VC r.cond (zdw P ops Q rest (put e dst r.val) (zao r.wr h) (n + r.al))
def zrC (P : Program) (ops : List Oper) (Q : zbX) (rest : List Oper) (dst : Option Tmp) (g : Bool) (r : Res) (e : Env) (h : zav) (n : Nat) : Prop :=
  VC (g = true → r.cond) (zdw P ops Q rest (put e dst (.gd g r.val)) (zao (gW g r.wr) h) (n + gN g r.al))
def zrz (P : Program) (ops : List Oper) (Q : zbX) (rest : List Oper) (dst : Option Tmp) (fv : AV) (args : List AV) (e : Env) (h : zav) (n : Nat) : Prop :=
  zgb P fv args h n (fun r h' n' => zdw P ops Q rest (put e dst r) h' n') ∨ ziL e fv args h n (fun e' r h' => zdw P ops Q rest (put e' dst r) h' n)
def zrD (P : Program) (ops : List Oper) (Q : zbX) (rest : List Oper) (dst : Option Tmp) (l : Nat) (args : List AV) (e : Env) (h : zav) (n : Nat) : Prop :=
  ziL e (.fn (.yield l) [] []) args h n (fun e' r h' => zdw P ops Q rest (put e' dst r) h' n)
theorem zs7 {e : Env} {f : FuncId} {a b args : List AV} {h : zav} {n : Nat} {K : Env → AV → zav → Prop} : ¬ ziL e (.fn (.func f) a b) args h n K := by
  rintro ⟨l, more, rows, h1, _⟩; cases h1
def zrA (P : Program) (ops : List Oper) (Q : zbX) (rest : List Oper) (dst : Option Tmp) (op : Op) (g : Option Bool) (e : Env) (h : zav) (n : Nat) : Prop :=
  match g with
  | none => False
  | some g => VQ (∀ t ∈ gT op, okG g (e t)) (zrC P ops Q rest dst g (aev P n op (gE op e) h) e h n)

def aCond (P : Program) (n0 : Nat) (a b : Code) (Q : zbX) (x : AV) (e : Env) (h : zav) (n : Nat) : Prop := match x with
  | .v (.bool t) => (t = true → awp P n0 a Q e h n) ∧ (t = false → awp P n0 b Q e h n)
  | _ => False
theorem zc2 {dst : Option Tmp} {op : Op} {ty : TypeId} {pos : String} {after : Array Edge} {j : Nat} {want : Bool} (hc : zly op = false) :
    zdw P ops Q (⟨dst, op, ty, pos, after, some (j, want)⟩ :: rest) e h n = zrA P ops Q rest dst op ((zbv ops j).bind fun t => zbH (e t) want) e h n := by
  unfold zdw zrA zrC
  cases op with
  | call c =>
    obtain ⟨callee, args, ats⟩ := c
    cases callee with
    | value f => simp [zly] at hc
    | _ => rfl
  | _ => rfl
theorem zrO {dst : Option Tmp} {ty : TypeId} {pos : String} {after : Array Edge} {j : Nat} {want : Bool} {x : Operand} : zdw P ops Q (⟨dst, .move x, ty, pos, after, some (j, want)⟩ :: rest) e h n = zrA P ops Q rest dst (.move x) ((zbv ops j).bind fun t => zbH (e t) want) e h n := zc2 rfl
theorem zrP {dst : Option Tmp} {ty : TypeId} {pos : String} {after : Array Edge} {j : Nat} {want : Bool} {c a b : Operand} : zdw P ops Q (⟨dst, .pick c a b, ty, pos, after, some (j, want)⟩ :: rest) e h n = zrA P ops Q rest dst (.pick c a b) ((zbv ops j).bind fun t => zbH (e t) want) e h n := zc2 rfl
theorem zpf {dst : Option Tmp} {ty : TypeId} {pos : String} {after : Array Edge} {j : Nat} {want : Bool} {t : TypeId} {ps : Array (Nat × Operand)} : zdw P ops Q (⟨dst, .build t ps, ty, pos, after, some (j, want)⟩ :: rest) e h n = zrA P ops Q rest dst (.build t ps) ((zbv ops j).bind fun t => zbH (e t) want) e h n := zc2 rfl
theorem zrN {dst : Option Tmp} {ty : TypeId} {pos : String} {after : Array Edge} {j : Nat} {want : Bool} {t : TypeId} {x : Operand} : zdw P ops Q (⟨dst, .load t x, ty, pos, after, some (j, want)⟩ :: rest) e h n = zrA P ops Q rest dst (.load t x) ((zbv ops j).bind fun t => zbH (e t) want) e h n := zc2 rfl
theorem zpe {dst : Option Tmp} {ty : TypeId} {pos : String} {after : Array Edge} {j : Nat} {want : Bool} {o : BinOp} {t : TypeId} {x y : Operand} {t' : TypeId} : zdw P ops Q (⟨dst, .binOp o t x y t', ty, pos, after, some (j, want)⟩ :: rest) e h n = zrA P ops Q rest dst (.binOp o t x y t') ((zbv ops j).bind fun t => zbH (e t) want) e h n := zc2 rfl
theorem zrQ {dst : Option Tmp} {ty : TypeId} {pos : String} {after : Array Edge} {j : Nat} {want : Bool} {o : UnOp} {t : TypeId} {x : Operand} : zdw P ops Q (⟨dst, .unOp o t x, ty, pos, after, some (j, want)⟩ :: rest) e h n = zrA P ops Q rest dst (.unOp o t x) ((zbv ops j).bind fun t => zbH (e t) want) e h n := zc2 rfl
theorem zjg {dst : Option Tmp} {ty : TypeId} {pos : String} {after : Array Edge} {j : Nat} {want : Bool} {t : TypeId} {x : Operand} {f : Nat} : zdw P ops Q (⟨dst, .fieldAddr t x f, ty, pos, after, some (j, want)⟩ :: rest) e h n = zrA P ops Q rest dst (.fieldAddr t x f) ((zbv ops j).bind fun t => zbH (e t) want) e h n := zc2 rfl
theorem zjh {dst : Option Tmp} {ty : TypeId} {pos : String} {after : Array Edge} {j : Nat} {want : Bool} {t : TypeId} {x i : Operand} : zdw P ops Q (⟨dst, .indexAddr t x i, ty, pos, after, some (j, want)⟩ :: rest) e h n = zrA P ops Q rest dst (.indexAddr t x i) ((zbv ops j).bind fun t => zbH (e t) want) e h n := zc2 rfl
theorem zmf {dst : Option Tmp} {ty : TypeId} {pos : String} {after : Array Edge} {j : Nat} {want : Bool} {b : Builtin} {args : Array Operand} {ats : Array TypeId} : zdw P ops Q (⟨dst, .call ⟨.builtin b, args, ats⟩, ty, pos, after, some (j, want)⟩ :: rest) e h n = zrA P ops Q rest dst (.call ⟨.builtin b, args, ats⟩) ((zbv ops j).bind fun t => zbH (e t) want) e h n := zc2 rfl
theorem zxH {d : Tmp} {g : Bool} {c : Prop} {x : AV} : zrC P ops Q rest (some d) g ⟨c, x, [], 0⟩ e h n = VC (g = true → c) (zpg P ops Q rest (upd e d (.gd g x)) h n) := by
  cases g <;> simp [zrC, put, VC, zpg, gW, gN, zao]
theorem zvM {dst : Option Tmp} {f : FuncId} {first caps args : List AV} :
    zrz P ops Q rest dst (.fn (.func f) first caps) args e h n = zaa P f (first ++ args ++ caps) h n fun r h' n' => zdw P ops Q rest (put e dst r) h' n' := by
  unfold zrz
  simp only [zgb]
  exact propext ⟨fun h => h.elim id (fun h => (zs7 h).elim), .inl⟩
theorem zo8 {dst : Option Tmp} {l : Nat} {args : List AV} : zrz P ops Q rest dst (.fn (.yield l) [] []) args e h n = zrD P ops Q rest dst l args e h n := by
  unfold zrz zrD
  simp only [zgb]
  exact propext ⟨fun h => h.elim False.elim id, .inr⟩
end
section congr
variable {P : Program} {n0 : Nat} {Q : zbX} {e e' : Env} {h h' : zav} {n n' : Nat} {ops rest : List Oper}
@[congr] theorem awp_congr {c : Code} (h3 : n = n') : awp P n0 c Q e h n = awp P n0 c Q e h n' := by subst h3; rfl
@[congr] theorem zxG {a b : Code} {x x' : AV} (h0 : x = x') : aCond P n0 a b Q x e h n = aCond P n0 a b Q x' e h n := by subst h0; rfl
@[congr] theorem zyB (h3 : n = n') : zdw P ops Q rest e h n = zdw P ops Q rest e h n' := by subst h3; rfl
@[congr] theorem zyz {dst : Option Tmp} {r r' : Res} (h0 : r = r') : aRes P ops Q rest dst r e h n = aRes P ops Q rest dst r' e h n := by subst h0; rfl
@[congr] theorem zxI {dst : Option Tmp} {g g' : Bool} {r r' : Res} (hg : g = g') (h0 : r = r') : zrC P ops Q rest dst g r e h n = zrC P ops Q rest dst g' r' e h n := by subst h0 hg; rfl
@[congr] theorem zxF {dst : Option Tmp} {fv fv' : AV} {args args' : List AV} (h0 : fv = fv') (h1 : args = args') : zrz P ops Q rest dst fv args e h n = zrz P ops Q rest dst fv' args' e h n := by subst h0 h1; rfl
@[congr] theorem zyy {dst : Option Tmp} {op : Op} {g g' : Option Bool} (h0 : g = g') : zrA P ops Q rest dst op g e h n = zrA P ops Q rest dst op g' e h n := by subst h0; rfl
@[congr] theorem zw4 {f : FuncId} {args args' : List AV} {K : zc0} (h1 : args = args') : zaa P f args h n K = zaa P f args' h n K := by subst h1; rfl
@[congr] theorem zxs {B : zbX → Env → zav → Nat → Prop} (h3 : n = n') : zac n0 B Q e h n = zac n0 B Q e h n' := by subst h3; rfl
@[congr] theorem zyx {K : Env → zav → Nat → Prop} {x : Exit} (h3 : n = n') : zw7 K Q x e h n = zw7 K Q x e h n' := by subst h3; rfl
@[congr] theorem zw6 {x : Exit} (h3 : n = n') : zm6 Q x e h n = zm6 Q x e h n' := by subst h3; rfl
@[congr] theorem zw5 {id : Nat} {x : Exit} (h3 : n = n') : zi5 id Q x e h n = zi5 id Q x e h n' := by subst h3; rfl
end congr

theorem zvG {n : Nat} {x : Value} : Bel n (.v x) = True := eq_true (.v x)
theorem zxu {n : Nat} {cs : List AV} : Bel n (.agg cs) = ∀ c ∈ cs, Bel n c := propext ⟨fun h => by cases h; assumption, .agg⟩
theorem zl4 {n : Nat} {cs : List AV} : Bel n (.tup cs) = ∀ c ∈ cs, Bel n c := propext ⟨fun h => by cases h; assumption, .tup⟩
theorem zcN {n sz : Nat} {rows : List (List AV)} : Bel n (.lst sz rows) = ∀ r ∈ rows, ∀ c ∈ r, Bel n c := propext ⟨fun h => by cases h; assumption, .lst⟩
theorem Bel_fp {n : Nat} {cs : List AV} : Bel n (.fp cs) = ∀ c ∈ cs, Bel n c := propext ⟨fun h => by cases h; assumption, .fp⟩
theorem zxv {n o g sz i off : Nat} : Bel n (.ref o g sz i off) = (o < n) := propext ⟨fun h => by cases h; assumption, .ref⟩
theorem Bel_sl {n o g sz i len : Nat} : Bel n (.sl o g sz i len) = (o < n) := propext ⟨fun h => by cases h; assumption, .sl⟩
theorem Bel_fn {n : Nat} {f : Fn} {a b : List AV} : Bel n (.fn f a b) = ((∀ c ∈ a, Bel n c) ∧ ∀ c ∈ b, Bel n c) := propext ⟨fun h => by cases h; exact ⟨by assumption, by assumption⟩, fun h => .fn h.1 h.2⟩
theorem Bel_mp {n o : Nat} : Bel n (.mp o) = (o < n) := propext ⟨fun h => by cases h; assumption, .mp⟩
theorem zqi {n : Nat} {g : Bool} {x : AV} : Bel n (.gd g x) = Bel n x := propext ⟨fun h => by cases h; assumption, .gd⟩

theorem zwK {g : Bool} {x : AV} : okG g (.gd g x) = True := eq_true (fun h => h)
attribute [go_sem high] zwK
attribute [go_sem] zxD ztm zrB zxE zaw ziY zbb zv7 
 zfA zcM zeb zxo zpG zes zhc
 zrO zrP zpf zrN zpe zrQ zjg zjh zmf zxH zvM aev ev ofV znK pB evEq znF zt9 zt8 zij zjH zfz eqS zee gE gT zt6 evUn zii zg4 zdp zb4 zjE zb5 zjF znI zyc
 zao unG zcU Op.operands Call.operands zbH zbv AV.cells AV.okCells AV.isCell zcC zax zsc zen zmr zuo zeB zt7 zwr zc3 zdJ zdZ zfB zhI zcS zcv zc4 ze0 setMany zfL zta zyH zqv
 zvG zxu zl4 zcN Bel_fp zxv Bel_sl Bel_fn Bel_mp zqi

section draw
variable {P : Program} {n0 : Nat} {Q : zbX} {e e' : Env} {h h' : zav} {n i i' : Nat} {ops rest : List Oper} {acc : List zfh} {K : Env → zav → List zfh → Prop}
def zkR (Q : zbX) (ops : List Oper) (n : Nat) (e : Env) (h : zav) (recs : List zfh) : Prop := zj4 ops recs = true ∧ ((zuP recs = true ∧ Q .normal e h n) ∨ Q .normal e h (n + 16 * ops.length))
def adr (P : Program) (n : Nat) (ops : List Oper) (Q : zbX) (m : Nat) (i : Nat) (rest : List Oper) (e : Env) (h : zav) (acc : List zfh) : Prop := zdl P n ops (zkR Q ops m) i rest e h acc
def zts (P : Program) (n : Nat) (ops : List Oper) (Q : zbX) (m : Nat) (i : Nat) (rest : List Oper) (e : Env) (h : zav) (acc : List zfh) : Prop := zdl P n ops (zkR Q ops m) i rest e h acc
variable {m : Nat}
def zoK (P : Program) (n : Nat) (ops : List Oper) (Q : zbX) (e : Env) (h : zav) : Prop := ∃ h', Frz h h' ∧ zrJ P ops Q e h' n
theorem zqs (hk : adr P n ops Q (n + ops.length) 0 ops e h []) : zrJ P ops Q e h n := by
  refine ⟨ops.length, ?_⟩
  rw [List.take_length, List.drop_length]
  exact hk
theorem wZ (hk : adr P n ops Q (n + ops.length) 0 ops e h []) : zoK P n ops Q e h := ⟨h, .refl h, zqs hk⟩
theorem zoK.frz (h' : zav) (hf : Frz h h') (hk : adr P n ops Q (n + ops.length) 0 ops e h' []) : zoK P n ops Q e h := ⟨h', hf, zqs hk⟩
def QTail (P : Program) (ops : List Oper) (Q : zbX) (k : Nat) : zbX
  | .normal, e, h, n => zdw P ops Q (ops.drop k) e h n
  | _, _, _, _ => False
theorem zoK.split (k : Nat) (hk : adr P n ops (QTail P ops Q k) (n + ops.length) 0 (ops.take k) e h []) : zoK P n ops Q e h := ⟨h, .refl h, k, hk⟩


def zjy (P : Program) (n : Nat) (ops : List Oper) (Q : zbX) (m : Nat) (i : Nat) (rest : List Oper) (dst : Option Tmp) (rd : List Nat) (r : Res) (e : Env) (h : zav) (acc : List zfh) : Prop :=
  VC r.cond (adr P n ops Q m (i + 1) rest (put e dst r.val) (zao r.wr h) (acc ++ [(rd, r.wr.map (·.1))]))
def znx (P : Program) (n : Nat) (ops : List Oper) (Q : zbX) (m : Nat) (i : Nat) (rest : List Oper) (dst : Option Tmp) (g : Bool) (rd : List Nat) (r : Res) (e : Env) (h : zav) (acc : List zfh) : Prop :=
  VC (g = true → r.cond) (adr P n ops Q m (i + 1) rest (put e dst (.gd g r.val)) (zao (gW g r.wr) h) (acc ++ [(rd, (gW g r.wr).map (·.1))]))
def zpr (P : Program) (n : Nat) (ops : List Oper) (Q : zbX) (m : Nat) (i : Nat) (rest : List Oper) (dst : Option Tmp) (op : Op) (g : Option Bool) (e : Env) (h : zav) (acc : List zfh) : Prop :=
  match g with
  | none => False
  | some g => VQ (∀ t ∈ gT op, okG g (e t)) (znx P n ops Q m i rest dst g ((op.operands.toList.map (ev (gE op e))).flatMap AV.ids) (aev P (n + i) op (gE op e) h) e h acc)
def zay (P : Program) (n : Nat) (ops : List Oper) (Q : zbX) (m : Nat) (i : Nat) (rest : List Oper) (dst : Option Tmp) (fv : AV) (args : List AV) (e : Env) (h : zav) (acc : List zfh) : Prop :=
  ∃ r S wr, zgg P (n + ops.length + 16 * i) fv args h r S wr ∧ adr P n ops Q m (i + 1) rest (put e dst r) (zao wr h) (acc ++ [(S, wr.map (·.1))])
theorem zbn {dst : Option Tmp} {op : Op} {ty : TypeId} {pos : String} {after : Array Edge} (hc : zly op = false) :
    adr P n ops Q m i (⟨dst, op, ty, pos, after, none⟩ :: rest) e h acc = zjy P n ops Q m i rest dst ((op.operands.toList.map (ev e)).flatMap AV.ids) (aev P (n + i) op e h) e h acc := by
  unfold adr zjy
  cases op with
  | call c =>
    obtain ⟨callee, args, ats⟩ := c
    cases callee with
    | value f => simp [zly] at hc
    | _ => rfl
  | _ => rfl
theorem zc1 {dst : Option Tmp} {op : Op} {ty : TypeId} {pos : String} {after : Array Edge} {j : Nat} {want : Bool} (hc : zly op = false) :
    adr P n ops Q m i (⟨dst, op, ty, pos, after, some (j, want)⟩ :: rest) e h acc = zpr P n ops Q m i rest dst op ((zbv ops j).bind fun t => zbH (e t) want) e h acc := by
  unfold adr zpr znx
  cases op with
  | call c =>
    obtain ⟨callee, args, ats⟩ := c
    cases callee with
    | value f => simp [zly] at hc
    | _ => rfl
  | _ => rfl
theorem VC_adr : VC True (zts P n ops Q m i rest e h acc) = adr P n ops Q m i rest e h acc := by simp [VC, zts, adr]
theorem zza {a : Prop} (h1 : a) (h2 : a → adr P n ops Q m i rest e h acc) : VC a (zts P n ops Q m i rest e h acc) := ⟨h1, h2 h1⟩
theorem zkR.mk {recs : List zfh} (h1 : (zj4 ops recs && zuP recs) = true) (h2 : Q .normal e h n) : zkR Q ops n e h recs := by
  rw [Bool.and_eq_true] at h1
  exact ⟨h1.1, .inl ⟨h1.2, h2⟩⟩
theorem zzb {recs : List zfh} (h1 : zj4 ops recs = true) (h2 : Q .normal e h (n + 16 * ops.length)) : zkR Q ops n e h recs := ⟨h1, .inr h2⟩
theorem wL {a : Prop} (h2 : a → zdw P ops Q rest e h n) (h1 : a := by first | omega | exact True.intro | rfl) : VC a (zpg P ops Q rest e h n) := ⟨h1, h2 h1⟩
theorem wD {a : Prop} (h2 : a → adr P n ops Q m i rest e h acc) (h1 : a := by first | omega | exact True.intro | (intros; omega)) : VC a (zts P n ops Q m i rest e h acc) := ⟨h1, h2 h1⟩
theorem wE {recs : List zfh} (h2 : Q .normal e h n) (h1 : (zj4 ops recs && zuP recs) = true := by kernel_rfl) : zkR Q ops n e h recs := zkR.mk h1 h2
theorem zxY {d : Tmp} {g : Bool} {rd : List Nat} {c : Prop} {x : AV} : znx P n ops Q m i rest (some d) g rd ⟨c, x, [], 0⟩ e h acc = VC (g = true → c) (zts P n ops Q m (i + 1) rest (upd e d (.gd g x)) h (acc ++ [(rd, [])])) := by
  cases g <;> simp [znx, put, VC, adr, zts, gW, zao]
theorem zxZ {d : Tmp} {rd : List Nat} {c : Prop} {x : AV} {o : Nat} {y : Option zbz} {al : Nat} : znx P n ops Q m i rest (some d) true rd ⟨c, x, [(o, y)], al⟩ e h acc = VC c (zts P n ops Q m (i + 1) rest (upd e d (.gd true x)) (upd h o y) (acc ++ [(rd, [o])])) := by
  simp [znx, put, VC, adr, zts, gW, zao]
theorem zzm {dst : Option Tmp} {f : FuncId} {first caps args : List AV} (args' : List AV) (r : AV) (S : List Nat) (hp : zaC P f args' r) (hfl : zqj r) (hle : ∀ h₁ : zav, (∀ o ∈ S, h o = h₁ o) → zai h₁ noH 0 (first ++ args ++ caps) args') (hb : ∀ c ∈ args', Bel 0 c)
    (hk : adr P n ops Q m (i + 1) rest (put e dst r) h (acc ++ [(S, [])])) : zay P n ops Q m i rest dst (.fn (.func f) first caps) args e h acc := ⟨r, S, [], .inl ⟨rfl, f, first, caps, args', rfl, hb, hp, .inl ⟨hle, hfl⟩⟩, hk⟩
theorem zyM {dst : Option Tmp} {f : FuncId} {first caps args : List AV} {r : AV} (hp : zaC P f (first ++ args ++ caps) r) (hb : ∀ c ∈ first ++ args ++ caps, Bel 0 c)
    (hk : adr P n ops Q m (i + 1) rest (put e dst r) h (acc ++ [([], [])])) : zay P n ops Q m i rest dst (.fn (.func f) first caps) args e h acc := ⟨r, [], [], .inl ⟨rfl, f, first, caps, _, rfl, hb, hp, .inr rfl⟩, hk⟩
theorem zay.frz {dst : Option Tmp} {f : FuncId} {first caps args : List AV} (args' : List AV) (r : AV) (S : List Nat) (wr : List (Nat × Option zbz)) (hp : zaC P f args' r)
    (hw : ∀ p ∈ wr, p.1 ∈ S ∧ ∃ g sz rs, p.2 = some (.rows false g sz rs) ∧ h p.1 = some (.rows true g sz rs)) (hle : ∀ h₁ : zav, (∀ o ∈ S, h o = h₁ o) → zai h₁ (zao wr h₁) 0 (first ++ args ++ caps) args') (hb : ∀ c ∈ args', Bel 0 c)
    (hk : adr P n ops Q m (i + 1) rest (put e dst r) (zao wr h) (acc ++ [(S, wr.map (·.1))])) : zay P n ops Q m i rest dst (.fn (.func f) first caps) args e h acc := ⟨r, S, wr, .inr (.inl ⟨f, first, caps, args', rfl, hb, hp, hw, hle⟩), hk⟩
@[congr] theorem adr_congr (h1 : i = i') : adr P n ops Q m i rest e h acc = adr P n ops Q m i' rest e h acc := by subst h1; rfl
@[congr] theorem zyA (h1 : i = i') : zts P n ops Q m i rest e h acc = zts P n ops Q m i' rest e h acc := by subst h1; rfl
@[congr] theorem zyF {dst : Option Tmp} {rd rd' : List Nat} {r r' : Res} (h1 : i = i') (h2 : rd = rd') (h0 : r = r') : zjy P n ops Q m i rest dst rd r e h acc = zjy P n ops Q m i' rest dst rd' r' e h acc := by subst h0 h1 h2; rfl
@[congr] theorem zx0 {dst : Option Tmp} {g g' : Bool} {rd rd' : List Nat} {r r' : Res} (h1 : i = i') (hg : g = g') (h2 : rd = rd') (h0 : r = r') : znx P n ops Q m i rest dst g rd r e h acc = znx P n ops Q m i' rest dst g' rd' r' e h acc := by subst h0 h1 h2 hg; rfl
@[congr] theorem zyE {dst : Option Tmp} {op : Op} {g g' : Option Bool} (h1 : i = i') (h0 : g = g') : zpr P n ops Q m i rest dst op g e h acc = zpr P n ops Q m i' rest dst op g' e h acc := by subst h0 h1; rfl
@[congr] theorem zxX {dst : Option Tmp} {fv fv' : AV} {args args' : List AV} (h1 : i = i') (h0 : fv = fv') (h2 : args = args') : zay P n ops Q m i rest dst fv args e h acc = zay P n ops Q m i' rest dst fv' args' e h acc := by subst h0 h1 h2; rfl
@[congr] theorem zyD {acc acc' : List zfh} {n' : Nat} (h1 : n = n') (h0 : acc = acc') : zkR Q ops n e h acc = zkR Q ops n' e h acc' := by subst h0 h1; rfl
end draw
section drawEq
variable {P : Program} {Q : zbX} {e : Env} {h : zav} {n m i : Nat} {ops rest : List Oper} {acc : List zfh} {dst : Option Tmp} {ty : TypeId} {pos : String} {after : Array Edge} {j : Nat} {want : Bool}
theorem zvO {x : Operand} : adr P n ops Q m i (⟨dst, .move x, ty, pos, after, none⟩ :: rest) e h acc = zjy P n ops Q m i rest dst (((.move x : Op).operands.toList.map (ev e)).flatMap AV.ids) (aev P (n + i) (.move x) e h) e h acc := zbn rfl
theorem ztp {x : Operand} : adr P n ops Q m i (⟨dst, .move x, ty, pos, after, some (j, want)⟩ :: rest) e h acc = zpr P n ops Q m i rest dst (.move x) ((zbv ops j).bind fun t => zbH (e t) want) e h acc := zc1 rfl
theorem zrH {x : Operand} : adr P n ops Q m i (⟨dst, .assign x, ty, pos, after, none⟩ :: rest) e h acc = zjy P n ops Q m i rest dst (((.assign x : Op).operands.toList.map (ev e)).flatMap AV.ids) (aev P (n + i) (.assign x) e h) e h acc := zbn rfl
theorem zvP {c a b : Operand} : adr P n ops Q m i (⟨dst, .pick c a b, ty, pos, after, none⟩ :: rest) e h acc = zjy P n ops Q m i rest dst (((.pick c a b : Op).operands.toList.map (ev e)).flatMap AV.ids) (aev P (n + i) (.pick c a b) e h) e h acc := zbn rfl
theorem ztq {c a b : Operand} : adr P n ops Q m i (⟨dst, .pick c a b, ty, pos, after, some (j, want)⟩ :: rest) e h acc = zpr P n ops Q m i rest dst (.pick c a b) ((zbv ops j).bind fun t => zbH (e t) want) e h acc := zc1 rfl
theorem ztt {t : TypeId} : adr P n ops Q m i (⟨dst, .alloc t, ty, pos, after, none⟩ :: rest) e h acc = zjy P n ops Q m i rest dst (((.alloc t : Op).operands.toList.map (ev e)).flatMap AV.ids) (aev P (n + i) (.alloc t) e h) e h acc := zbn rfl
theorem ztv {t : TypeId} {ps : Array (Nat × Operand)} : adr P n ops Q m i (⟨dst, .build t ps, ty, pos, after, none⟩ :: rest) e h acc = zjy P n ops Q m i rest dst (((.build t ps : Op).operands.toList.map (ev e)).flatMap AV.ids) (aev P (n + i) (.build t ps) e h) e h acc := zbn rfl
theorem zrF {t : TypeId} {ps : Array (Nat × Operand)} : adr P n ops Q m i (⟨dst, .build t ps, ty, pos, after, some (j, want)⟩ :: rest) e h acc = zpr P n ops Q m i rest dst (.build t ps) ((zbv ops j).bind fun t => zbH (e t) want) e h acc := zc1 rfl
theorem zkO {t : TypeId} {k : Nat} {ps : Array (Nat × Operand)} : adr P n ops Q m i (⟨dst, .buildSlice t k ps, ty, pos, after, none⟩ :: rest) e h acc = zjy P n ops Q m i rest dst (((.buildSlice t k ps : Op).operands.toList.map (ev e)).flatMap AV.ids) (aev P (n + i) (.buildSlice t k ps) e h) e h acc := zbn rfl
theorem zjf {t : TypeId} {k : Nat} {ps : Array (Nat × Operand)} : adr P n ops Q m i (⟨dst, .buildSlice t k ps, ty, pos, after, some (j, want)⟩ :: rest) e h acc = zpr P n ops Q m i rest dst (.buildSlice t k ps) ((zbv ops j).bind fun t => zbH (e t) want) e h acc := zc1 rfl
theorem zvN {t : TypeId} {x : Operand} : adr P n ops Q m i (⟨dst, .load t x, ty, pos, after, none⟩ :: rest) e h acc = zjy P n ops Q m i rest dst (((.load t x : Op).operands.toList.map (ev e)).flatMap AV.ids) (aev P (n + i) (.load t x) e h) e h acc := zbn rfl
theorem zto {t : TypeId} {x : Operand} : adr P n ops Q m i (⟨dst, .load t x, ty, pos, after, some (j, want)⟩ :: rest) e h acc = zpr P n ops Q m i rest dst (.load t x) ((zbv ops j).bind fun t => zbH (e t) want) e h acc := zc1 rfl
theorem ztx {t : TypeId} {x y : Operand} : adr P n ops Q m i (⟨dst, .store t x y, ty, pos, after, none⟩ :: rest) e h acc = zjy P n ops Q m i rest dst (((.store t x y : Op).operands.toList.map (ev e)).flatMap AV.ids) (aev P (n + i) (.store t x y) e h) e h acc := zbn rfl
theorem ztu {o : BinOp} {t : TypeId} {x y : Operand} {t' : TypeId} : adr P n ops Q m i (⟨dst, .binOp o t x y t', ty, pos, after, none⟩ :: rest) e h acc = zjy P n ops Q m i rest dst (((.binOp o t x y t' : Op).operands.toList.map (ev e)).flatMap AV.ids) (aev P (n + i) (.binOp o t x y t') e h) e h acc := zbn rfl
theorem zrE {o : BinOp} {t : TypeId} {x y : Operand} {t' : TypeId} : adr P n ops Q m i (⟨dst, .binOp o t x y t', ty, pos, after, some (j, want)⟩ :: rest) e h acc = zpr P n ops Q m i rest dst (.binOp o t x y t') ((zbv ops j).bind fun t => zbH (e t) want) e h acc := zc1 rfl
theorem zvQ {o : UnOp} {t : TypeId} {x : Operand} : adr P n ops Q m i (⟨dst, .unOp o t x, ty, pos, after, none⟩ :: rest) e h acc = zjy P n ops Q m i rest dst (((.unOp o t x : Op).operands.toList.map (ev e)).flatMap AV.ids) (aev P (n + i) (.unOp o t x) e h) e h acc := zbn rfl
theorem ztr {o : UnOp} {t : TypeId} {x : Operand} : adr P n ops Q m i (⟨dst, .unOp o t x, ty, pos, after, some (j, want)⟩ :: rest) e h acc = zpr P n ops Q m i rest dst (.unOp o t x) ((zbv ops j).bind fun t => zbH (e t) want) e h acc := zc1 rfl
theorem zpb {s d : TypeId} {x : Operand} : adr P n ops Q m i (⟨dst, .convert s d x, ty, pos, after, none⟩ :: rest) e h acc = zjy P n ops Q m i rest dst (((.convert s d x : Op).operands.toList.map (ev e)).flatMap AV.ids) (aev P (n + i) (.convert s d x) e h) e h acc := zbn rfl
theorem zmc {t : TypeId} {x : Operand} {f : Nat} : adr P n ops Q m i (⟨dst, .fieldAddr t x f, ty, pos, after, none⟩ :: rest) e h acc = zjy P n ops Q m i rest dst (((.fieldAddr t x f : Op).operands.toList.map (ev e)).flatMap AV.ids) (aev P (n + i) (.fieldAddr t x f) e h) e h acc := zbn rfl
theorem zkM {t : TypeId} {x : Operand} {f : Nat} : adr P n ops Q m i (⟨dst, .fieldAddr t x f, ty, pos, after, some (j, want)⟩ :: rest) e h acc = zpr P n ops Q m i rest dst (.fieldAddr t x f) ((zbv ops j).bind fun t => zbH (e t) want) e h acc := zc1 rfl
theorem zrG {t : TypeId} {x : Operand} {f : Nat} : adr P n ops Q m i (⟨dst, .field t x f, ty, pos, after, some (j, want)⟩ :: rest) e h acc = zpr P n ops Q m i rest dst (.field t x f) ((zbv ops j).bind fun t => zbH (e t) want) e h acc := zc1 rfl
theorem zmd {t : TypeId} {x ix : Operand} : adr P n ops Q m i (⟨dst, .indexAddr t x ix, ty, pos, after, none⟩ :: rest) e h acc = zjy P n ops Q m i rest dst (((.indexAddr t x ix : Op).operands.toList.map (ev e)).flatMap AV.ids) (aev P (n + i) (.indexAddr t x ix) e h) e h acc := zbn rfl
theorem zkN {t : TypeId} {x ix : Operand} : adr P n ops Q m i (⟨dst, .indexAddr t x ix, ty, pos, after, some (j, want)⟩ :: rest) e h acc = zpr P n ops Q m i rest dst (.indexAddr t x ix) ((zbv ops j).bind fun t => zbH (e t) want) e h acc := zc1 rfl
theorem zpc {x : Operand} {fi : Nat} : adr P n ops Q m i (⟨dst, .extract x fi, ty, pos, after, none⟩ :: rest) e h acc = zjy P n ops Q m i rest dst (((.extract x fi : Op).operands.toList.map (ev e)).flatMap AV.ids) (aev P (n + i) (.extract x fi) e h) e h acc := zbn rfl
theorem zrI {t : TypeId} {m' k : Operand} {ok : Bool} : adr P n ops Q m i (⟨dst, .lookup t m' k ok, ty, pos, after, none⟩ :: rest) e h acc = zjy P n ops Q m i rest dst (((.lookup t m' k ok : Op).operands.toList.map (ev e)).flatMap AV.ids) (aev P (n + i) (.lookup t m' k ok) e h) e h acc := zbn rfl
theorem zme {t : TypeId} {l c : Operand} : adr P n ops Q m i (⟨dst, .makeSlice t l c, ty, pos, after, none⟩ :: rest) e h acc = zjy P n ops Q m i rest dst (((.makeSlice t l c : Op).operands.toList.map (ev e)).flatMap AV.ids) (aev P (n + i) (.makeSlice t l c) e h) e h acc := zbn rfl
theorem ztw {t : TypeId} {x : Operand} {lo hi mx : Option Operand} : adr P n ops Q m i (⟨dst, .slice t x lo hi mx, ty, pos, after, none⟩ :: rest) e h acc = zjy P n ops Q m i rest dst (((.slice t x lo hi mx : Op).operands.toList.map (ev e)).flatMap AV.ids) (aev P (n + i) (.slice t x lo hi mx) e h) e h acc := zbn rfl
theorem zpa {b : Builtin} {args : Array Operand} {ats : Array TypeId} : adr P n ops Q m i (⟨dst, .call ⟨.builtin b, args, ats⟩, ty, pos, after, none⟩ :: rest) e h acc = zjy P n ops Q m i rest dst (((.call ⟨.builtin b, args, ats⟩ : Op).operands.toList.map (ev e)).flatMap AV.ids) (aev P (n + i) (.call ⟨.builtin b, args, ats⟩) e h) e h acc := zbn rfl
theorem zne {b : Builtin} {args : Array Operand} {ats : Array TypeId} : adr P n ops Q m i (⟨dst, .call ⟨.builtin b, args, ats⟩, ty, pos, after, some (j, want)⟩ :: rest) e h acc = zpr P n ops Q m i rest dst (.call ⟨.builtin b, args, ats⟩) ((zbv ops j).bind fun t => zbH (e t) want) e h acc := zc1 rfl
theorem znf {f : Fn} {xs ys : Array Operand} : adr P n ops Q m i (⟨dst, .makeFunc f xs ys, ty, pos, after, none⟩ :: rest) e h acc = zjy P n ops Q m i rest dst (((.makeFunc f xs ys : Op).operands.toList.map (ev e)).flatMap AV.ids) (aev P (n + i) (.makeFunc f xs ys) e h) e h acc := zbn rfl
end drawEq
attribute [go_sem] zrI zvO ztp zrH zvP ztq ztt ztv zrF zkO zjf zvN zto ztx ztu zrE zvQ ztr zpb zmc zkM zrG zmd zkN zpc zme ztw zpa zne znf 
attribute [go_sem] VC_adr zxY zxZ AV.ids List.flatMap_cons List.flatMap_nil
section gcall
variable {P : Program} {Q : zbX} {e : Env} {h : zav} {n m i : Nat} {ops rest : List Oper} {acc : List zfh}
def aGC (P : Program) (ops : List Oper) (Q : zbX) (rest : List Oper) (dst : Option Tmp) (g : Bool) (fv : AV) (args : List AV) (e : Env) (h : zav) (n : Nat) : Prop :=
  (∃ x, (g = true → zgb P fv args h n fun r h' n' => r = x ∧ h' = h ∧ n' = n) ∧ zdw P ops Q rest (put e dst (.gd g x)) h n) ∨
  (g = true ∧ zgb P fv args h n fun r h' n' => zdw P ops Q rest (put e dst (.gd true r)) h' n') ∨
  (g = true ∧ ziL e fv args h n fun e' r h' => zdw P ops Q rest (put e' dst (.gd true r)) h' n)
def zqp (P : Program) (ops : List Oper) (Q : zbX) (rest : List Oper) (dst : Option Tmp) (f : Operand) (args : List Operand) (op : Op) (g : Option Bool) (e : Env) (h : zav) (n : Nat) : Prop :=
  match g with
  | none => False
  | some g => VQ (∀ t ∈ zcU op, okG g (e t)) (aGC P ops Q rest dst g (ev (fun t => unG (e t)) f) (args.map (ev fun t => unG (e t))) e h n)
theorem zzl {dst : Option Tmp} {g : Bool} {f : FuncId} {first caps args : List AV} (args' : List AV) (r : AV) (hp : g = true → zaC P f args' r) (hfl : zqj r) (hle : zai h noH n (first ++ args ++ caps) args') (hb : ∀ c ∈ args', Bel 0 c)
    (hk : zdw P ops Q rest (put e dst (.gd g r)) h n) : aGC P ops Q rest dst g (.fn (.func f) first caps) args e h n :=
  .inl ⟨r, fun hg => zzi (hp hg) hfl hle hb ⟨rfl, rfl, rfl⟩, hk⟩
theorem zzc {dst : Option Tmp} {g : Bool} {f : FuncId} {first caps args : List AV} (r : AV) (hp : g = true → zaC P f (first ++ args ++ caps) r) (hb : ∀ c ∈ first ++ args ++ caps, Bel 0 c)
    (hk : zdw P ops Q rest (put e dst (.gd g r)) h n) : aGC P ops Q rest dst g (.fn (.func f) first caps) args e h n :=
  .inl ⟨r, fun hg => zyJ (hp hg) hb ⟨rfl, rfl, rfl⟩, hk⟩
theorem aGC.skip (x : AV) {dst : Option Tmp} {fv : AV} {args : List AV} (hk : zdw P ops Q rest (put e dst (.gd false x)) h n) : aGC P ops Q rest dst false fv args e h n := .inl ⟨x, (fun hg => nomatch hg), hk⟩
theorem zy5 {dst : Option Tmp} {f : FuncId} {first caps args : List AV} (hk : zaa P f (first ++ args ++ caps) h n fun r h' n' => zdw P ops Q rest (put e dst (.gd true r)) h' n') : aGC P ops Q rest dst true (.fn (.func f) first caps) args e h n := .inr (.inl ⟨rfl, hk⟩)
def dGC (P : Program) (n : Nat) (ops : List Oper) (Q : zbX) (m : Nat) (i : Nat) (rest : List Oper) (dst : Option Tmp) (g : Bool) (fv : AV) (args : List AV) (e : Env) (h : zav) (acc : List zfh) : Prop :=
  ∃ r S wr, (g = true → zgg P (n + ops.length + 16 * i) fv args h r S wr) ∧ (g = false → wr = []) ∧ adr P n ops Q m (i + 1) rest (put e dst (.gd g r)) (zao wr h) (acc ++ [(S, wr.map (·.1))])
def zqI (P : Program) (n : Nat) (ops : List Oper) (Q : zbX) (m : Nat) (i : Nat) (rest : List Oper) (dst : Option Tmp) (f : Operand) (args : List Operand) (op : Op) (g : Option Bool) (e : Env) (h : zav) (acc : List zfh) : Prop :=
  match g with
  | none => False
  | some g => VQ (∀ t ∈ zcU op, okG g (e t)) (dGC P n ops Q m i rest dst g (ev (fun t => unG (e t)) f) (args.map (ev fun t => unG (e t))) e h acc)
theorem zzf {dst : Option Tmp} {g : Bool} {f : FuncId} {first caps args : List AV} (args' : List AV) (r : AV) (S : List Nat) (hp : g = true → zaC P f args' r) (hfl : zqj r) (hle : ∀ h₁ : zav, (∀ o ∈ S, h o = h₁ o) → zai h₁ noH 0 (first ++ args ++ caps) args')
    (hb : ∀ c ∈ args', Bel 0 c) (hk : adr P n ops Q m (i + 1) rest (put e dst (.gd g r)) h (acc ++ [(S, [])])) : dGC P n ops Q m i rest dst g (.fn (.func f) first caps) args e h acc :=
  ⟨r, S, [], fun hg => .inl ⟨rfl, f, first, caps, args', rfl, hb, hp hg, .inl ⟨hle, hfl⟩⟩, fun _ => rfl, hk⟩
theorem zyV {dst : Option Tmp} {g : Bool} {f : FuncId} {first caps args : List AV} (r : AV) (hp : g = true → zaC P f (first ++ args ++ caps) r) (hb : ∀ c ∈ first ++ args ++ caps, Bel 0 c)
    (hk : adr P n ops Q m (i + 1) rest (put e dst (.gd g r)) h (acc ++ [([], [])])) : dGC P n ops Q m i rest dst g (.fn (.func f) first caps) args e h acc :=
  ⟨r, [], [], fun hg => .inl ⟨rfl, f, first, caps, _, rfl, hb, hp hg, .inr rfl⟩, fun _ => rfl, hk⟩
theorem dGC.skip (x : AV) {dst : Option Tmp} {fv : AV} {args : List AV} (hk : adr P n ops Q m (i + 1) rest (put e dst (.gd false x)) h (acc ++ [([], [])])) : dGC P n ops Q m i rest dst false fv args e h acc :=
  ⟨x, [], [], (fun hg => nomatch hg), fun _ => rfl, hk⟩
theorem dGC.frz {dst : Option Tmp} {f : FuncId} {first caps args : List AV} (args' : List AV) (r : AV) (S : List Nat) (wr : List (Nat × Option zbz)) (hp : zaC P f args' r)
    (hw : ∀ p ∈ wr, p.1 ∈ S ∧ ∃ g sz rs, p.2 = some (.rows false g sz rs) ∧ h p.1 = some (.rows true g sz rs)) (hle : ∀ h₁ : zav, (∀ o ∈ S, h o = h₁ o) → zai h₁ (zao wr h₁) 0 (first ++ args ++ caps) args') (hb : ∀ c ∈ args', Bel 0 c)
    (hk : adr P n ops Q m (i + 1) rest (put e dst (.gd true r)) (zao wr h) (acc ++ [(S, wr.map (·.1))])) : dGC P n ops Q m i rest dst true (.fn (.func f) first caps) args e h acc :=
  ⟨r, S, wr, fun _ => .inr (.inl ⟨f, first, caps, args', rfl, hb, hp, hw, hle⟩), (fun h => nomatch h), hk⟩
@[congr] theorem aGC_congr {dst : Option Tmp} {g g' : Bool} {fv fv' : AV} {args args' : List AV} (hg : g = g') (h0 : fv = fv') (h1 : args = args') : aGC P ops Q rest dst g fv args e h n = aGC P ops Q rest dst g' fv' args' e h n := by subst h0 h1 hg; rfl
@[congr] theorem zvz {dst : Option Tmp} {f : Operand} {args : List Operand} {op : Op} {g g' : Option Bool} (h0 : g = g') : zqp P ops Q rest dst f args op g e h n = zqp P ops Q rest dst f args op g' e h n := by subst h0; rfl
@[congr] theorem dGC_congr {dst : Option Tmp} {g g' : Bool} {fv fv' : AV} {args args' : List AV} {i' : Nat} (hi : i = i') (hg : g = g') (h0 : fv = fv') (h1 : args = args') : dGC P n ops Q m i rest dst g fv args e h acc = dGC P n ops Q m i' rest dst g' fv' args' e h acc := by subst h0 h1 hg hi; rfl
@[congr] theorem zvB {dst : Option Tmp} {f : Operand} {args : List Operand} {op : Op} {g g' : Option Bool} {i' : Nat} (hi : i = i') (h0 : g = g') : zqI P n ops Q m i rest dst f args op g e h acc = zqI P n ops Q m i' rest dst f args op g' e h acc := by subst h0 hi; rfl
end gcall


theorem zqo {n : Nat} : ∀ {xs : List AV}, (∀ c ∈ xs, Bel 0 c) → ShL n xs xs
  | [], _ => .nil
  | x :: xs, h => .cons (.same (h x (by simp))) (zqo fun c hc => h c (by simp [hc]))
theorem Sh_agg {n : Nat} {xs ys : List AV} : Sh n (.agg xs) (.agg ys) = ShL n xs ys := propext ⟨fun h => by
  cases h with
  | same h => cases h with | agg h => exact zqo h
  | agg h => exact h, .agg⟩
theorem Sh_fn {n : Nat} {f : Fn} {a b a' b' : List AV} (h : ShL n a a') (h' : ShL n b b') : Sh n (.fn f a b) (.fn f a' b') = True := eq_true (.fn h h')
theorem Sh_ref {n o g sz i off : Nat} : Sh n (.ref o g sz i off) (.ref (n + o) g sz i off) = True := eq_true .ref
theorem Sh_sl {n o g sz i len : Nat} : Sh n (.sl o g sz i len) (.sl (n + o) g sz i len) = True := eq_true .sl
theorem zxC {n g sz i off : Nat} : Sh n (.ref 0 g sz i off) (.ref n g sz i off) = True := eq_true (.ref (o := 0))
theorem Sh_sl0 {n g sz i len : Nat} : Sh n (.sl 0 g sz i len) (.sl n g sz i len) = True := eq_true (.sl (o := 0))
theorem Sh_v {n : Nat} {x : Value} : Sh n (.v x) (.v x) = True := eq_true (.same (.v x))
theorem zxB {n : Nat} : ShL n [] [] = True := eq_true .nil
theorem zvK {n : Nat} {x y : AV} {xs ys : List AV} : ShL n (x :: xs) (y :: ys) = (Sh n x y ∧ ShL n xs ys) := propext ⟨fun h => by cases h with | cons a b => exact ⟨a, b⟩, fun h => .cons h.1 h.2⟩
theorem ztk {n : Nat} {rs : List (List AV)} (h : ∀ r ∈ rs, ∀ c ∈ r, Bel 0 c) : ztj n rs rs = True := eq_true (.same h)
theorem zvL {n : Nat} {mt : Bool} {g sz : Nat} {rs rs' : List (List AV)} : ShO n (.rows mt g sz rs) (.rows mt g sz rs') = ztj n rs rs' := propext ⟨fun h => by cases h; assumption, .rows⟩
theorem zxA {n : Nat} : ShH n [] [] = True := eq_true .nil
theorem zqn {n o : Nat} {x y : zbz} {l l' : List (Nat × zbz)} : ShH n ((o, x) :: l) ((n + o, y) :: l') = (ShO n x y ∧ ShH n l l') :=
  propext ⟨fun h => by cases h with | cons a b => exact ⟨a, b⟩, fun h => .cons h.1 h.2⟩
theorem zti {n : Nat} {x y : zbz} {l l' : List (Nat × zbz)} : ShH n ((0, x) :: l) ((n, y) :: l') = (ShO n x y ∧ ShH n l l') := zqn (o := 0)
attribute [go_sem] Sh_agg Sh_fn Sh_ref Sh_sl zxC Sh_sl0 Sh_v zxB zvK ztk zvL zxA zqn zti zd7
theorem zwx {h h' : zav} {n : Nat} {x : AV} : LeV h h' n x x := .refl x
attribute [go_sem] zwx
theorem zxw {n : Int} : InR .i64 n = (-9223372036854775808 ≤ n ∧ n ≤ 9223372036854775807) := by
  simp [InR, IntKind.min, IntKind.max, IntKind.signed, IntKind.bits]
theorem InR_u8 {n : Int} : InR .u8 n = (0 ≤ n ∧ n ≤ 255) := by
  simp [InR, IntKind.min, IntKind.max, IntKind.signed, IntKind.bits]
theorem zxx {n : Int} : InR .u64 n = (0 ≤ n ∧ n ≤ 18446744073709551615) := by
  simp [InR, IntKind.min, IntKind.max, IntKind.signed, IntKind.bits]
attribute [go_sem] zxw InR_u8 zxx 


structure LS where
  E : List (Nat × AV)
  H : List (Nat × zbz)
  n : Nat
def ztc (n0 : Nat) (B : zbX → Env → zav → Nat → Prop) (Q : zbX) (s : LS) : Prop := zac n0 B Q (mkE s.E) (mkH s.H) s.n
theorem zyN {P : Program} {n0 : Nat} {b : Code} {Q : zbX} {α : Type} (S : α → LS) (I : Nat → α → Prop)
    (step : ∀ d a, I d a → (∀ d', d' < d → ∀ a', I d' a' → ztc n0 (awp P n0 b) Q (S a')) → awp P n0 b (zw7 (zac n0 (awp P n0 b) Q) Q) (mkE (S a).E) (mkH (S a).H) (S a).n) :
    ∀ d a, I d a → ztc n0 (awp P n0 b) Q (S a) := by
  intro d
  induction d using Nat.strongRecOn with
  | ind d ih => intro a ha; exact zyR (step d a ha fun d' hd a' ha' => ih d' hd a' ha')
theorem zyI {P : Program} {n0 : Nat} {b : Code} {Q : zbX} {e : Env} {h : zav} {n : Nat} {s : LS} (hh : ztc n0 (awp P n0 b) Q s) (hk : Wk e h n s.E s.H s.n) (hn : n0 ≤ s.n) : zac n0 (awp P n0 b) Q e h n :=
  zac.forget s.E s.H s.n hk hn hh
theorem zah {e : Env} {h : zav} {n : Nat} {E : List (Nat × AV)} {HH : List (Nat × zbz)} {n' : Nat} :
    Wk e h n E HH n' = ((∀ p ∈ E, LeV h (mkH HH) n (e p.1) p.2 ∧ Bel n' p.2) ∧ ∀ p ∈ HH, p.1 < n' ∧ LeO h (mkH HH) n p.1 (h p.1) p.2 ∧ zxt n' p.2) :=
  propext ⟨fun h => ⟨h.1, h.2⟩, fun h => ⟨h.1, h.2⟩⟩
theorem zyd {h h' : zav} {n o g sz : Nat} (hn : n ≤ o) : LeO h h' n o none (.rows true g sz []) = True := eq_true (.own hn)
theorem zut {h h' : zav} {n : Nat} : zai h h' n [] [] = True := eq_true .nil
theorem zsp {h h' : zav} {n : Nat} {x y : AV} {xs ys : List AV} : zai h h' n (x :: xs) (y :: ys) = (LeV h h' n x y ∧ zai h h' n xs ys) :=
  propext ⟨fun h => by cases h with | cons a b => exact ⟨a, b⟩, fun h => .cons h.1 h.2⟩
theorem zye {h h' : zav} {n sz c : Nat} {A : Option Addr} : LeV h h' n (.v (.slice A 0 c)) (.lst sz []) = True := eq_true (.nil sz)
theorem zyf {h h' : zav} {n o g sz : Nat} (hn : n ≤ o) (ho : h' o = some (.rows true g sz [])) : LeV h h' n (.v (.slice none 0 0)) (.sl o g sz 0 0) = True := eq_true (.own hn ho)
theorem zam {h h' : zav} {n o g sz i len : Nat} {mt : Bool} {rs rows : List (List AV)} (ho : h o = some (.rows mt g sz rs)) (hl : i + len ≤ rs.length) (ho' : ∀ g sz rs, h' o ≠ some (.rows true g sz rs)) (hr : (rs.drop i).take len = rows) :
    LeV h h' n (.sl o g sz i len) (.lst sz rows) := .frz ho hl ho' (hr ▸ .refl _)
theorem zzs {h h' : zav} {n : Nat} {xs ys : List AV} (e : xs = ys) : zai h h' n xs ys := e ▸ .refl _ _ _ _
theorem zwv {h h' : zav} {n o : Nat} {mt mt' : Bool} {g g' sz sz' : Nat} {rs rs' : List (List AV)} : LeO h h' n o (some (.rows mt g sz rs)) (.rows mt' g' sz' rs') = (g = g' ∧ sz = sz' ∧ (mt' = true → mt = true) ∧ zae h h' n rs rs') :=
  propext ⟨fun h => by cases h with | same hm hr => exact ⟨rfl, rfl, hm, hr⟩, fun ⟨h1, h2, h3, h4⟩ => by subst h1 h2; exact .same h3 h4⟩
theorem zpJ {h h' : zav} {n : Nat} {rs : List (List AV)} : zae h h' n rs rs = True := eq_true (.refl _)
theorem zpI {h h' : zav} {n : Nat} {x y : List AV} {xs ys : List (List AV)} : zae h h' n (x :: xs) (y :: ys) = (zai h h' n x y ∧ zae h h' n xs ys) :=
  propext ⟨fun h => by cases h with
    | refl => exact ⟨.refl _ _ _ _, .refl _⟩
    | cons h t => exact ⟨h, t⟩, fun h => .cons h.1 h.2⟩
theorem zww {h h' : zav} {n : Nat} {xs ys : List AV} : LeV h h' n (.agg xs) (.agg ys) = zai h h' n xs ys :=
  propext ⟨fun h => by cases h with
    | refl => exact .refl _ _ _ _
    | agg h => exact h, .agg⟩
theorem zwy {h h' : zav} {n : Nat} {xs ys : List AV} : LeV h h' n (.tup xs) (.tup ys) = zai h h' n xs ys :=
  propext ⟨fun h => by cases h with
    | refl => exact .refl _ _ _ _
    | tup h => exact h, .tup⟩
theorem NoFz_v {x : Value} : zgQ (.v x) = True := eq_true (.v x)
theorem zxz {o g sz i len : Nat} : zgQ (.sl o g sz i len) = True := eq_true (.sl ..)
theorem zvI {xs : List AV} : zgQ (.agg xs) = ∀ x ∈ xs, zgQ x := propext ⟨fun h => by cases h; assumption, .agg⟩
theorem zyY {P : Program} {f : FuncId} {args args' : List AV} {h : zav} {n : Nat} {K : zc0} {R : Nat → AV} {HH : Nat → List (Nat × zbz)} {k : Nat} (hp : zgf P f args' R HH k)
    (hnR : zgQ (R 0)) (hnH : ∀ p ∈ HH 0, zm3 p.2) (hle : zai h noH n args args') (hb : ∀ c ∈ args', Bel 0 c) (hk : K (R n) (zd7 (HH n) h) (n + k)) : zaa P f args h n K :=
  zze hp.1 (fun _ _ _ h => h) (hp.2 n).1 (hp.2 n).2 hnR hnH hle hb hk
attribute [go_sem] zwv zpJ zpI zww zwy NoFz_v zxz zvI zm3 
attribute [go_sem] zyf zyd mkE mkH zxt zut zsp zye List.forall_mem_cons
theorem zyW {h h' : zav} {n : Nat} {x y : AV} (e : x = y) : LeV h h' n x y := e ▸ .refl x
theorem nadd (a b c : Nat) : a + b + c = a + (b + c) := Nat.add_assoc a b c
attribute [go_sem] nadd
class WS (G : Prop) (a X : outParam Prop) : Prop where out : a → (a → X) → G
instance {P : Program} {ops : List Oper} {Q : zbX} {rest : List Oper} {e : Env} {h : zav} {n : Nat} {a : Prop} : WS (VC a (zpg P ops Q rest e h n)) a (zdw P ops Q rest e h n) := ⟨fun h1 h2 => wL h2 h1⟩
instance {P : Program} {ops : List Oper} {Q : zbX} {rest : List Oper} {e : Env} {h : zav} {n m i : Nat} {a : Prop} {acc : List zfh} : WS (VC a (zts P n ops Q m i rest e h acc)) a (adr P n ops Q m i rest e h acc) := ⟨fun h1 h2 => wD h2 h1⟩
instance {P : Program} {ops : List Oper} {Q : zbX} {e : Env} {h : zav} {n : Nat} : WS (zoK P n ops Q e h) True (adr P n ops Q (n + ops.length) 0 ops e h []) := ⟨fun _ h2 => wZ (h2 trivial)⟩
def KR (p : Prop) : Prop := p
theorem kr {p : Prop} (h : p) : KR p := h
instance {ops : List Oper} {Q : zbX} {n : Nat} {e : Env} {h : zav} {recs : List zfh} : WS (zkR Q ops n e h recs) (KR ((zj4 ops recs && zuP recs) = true)) (Q .normal e h n) := ⟨fun h1 h2 => zkR.mk h1 (h2 h1)⟩
theorem wV {G a X : Prop} [i : WS G a X] (h2 : a → X) (h1 : a := by first | omega | exact True.intro | rfl | (refine kr ?_; kernel_rfl) | (intros; omega)) : G := i.out h1 h2
theorem leX {p : Prop} (h : p := by ((try simp only [zar, zau, zaE, zaV, zap, zaU, zat, zal, zad, za3, zaO, zaz, zas, zab, List.map_cons, List.map_nil, List.nil_append, List.append_nil, List.cons_append]); (repeat (first | (with_reducible exact zai.nil) | (with_reducible exact zae.nil) | (with_reducible exact LeV.refl _) | (with_reducible exact zai.refl _ _ _ _) | (with_reducible exact zae.refl _) | (with_reducible refine zai.cons ?_ ?_) | (with_reducible refine zae.cons ?_ ?_) | (with_reducible refine LeV.agg ?_) | (with_reducible refine LeV.tup ?_) | (with_reducible refine LeV.fn ?_ ?_) | (with_reducible exact LeV.nil _) | (with_reducible refine zag (zae.refl _) ?_) | ((refine zam rfl (by simp) (by simp [zaK, zaR, upd, noH]) ?_); (first | (simp [go_sem]; done) | (simp [go_sem]; exact List.take_of_length_le (by simp)))) | ((refine LeV.frz rfl (by simp) (by simp [zaK, zaR, upd, noH]) ?_); (simp only [List.drop_zero, List.take_succ_cons, List.take_zero, List.map_cons, List.map_nil])) | ((refine LeV.frzP rfl (by simp) (by simp) (by simp [zaK, zaR, upd, noH]) ?_); (simp only [zaw, List.drop_zero])))))) : p := h
theorem blX {p : Prop} (h : p := by (intro r hr c hc; (first | (rcases hr with ⟨_, _, rfl⟩ | rfl) | (rcases hr with rfl | ⟨_, _, rfl⟩) | (rcases hr with rfl | rfl) | ((rcases List.mem_or_eq_of_mem_set hr with hr | rfl) <;> first | (obtain ⟨_, _, rfl⟩ := List.mem_map.1 hr; simp only [zb3] at hc) | skip) | (rcases hr with ⟨_, rfl⟩ | ⟨_, rfl⟩) | (rcases hr with ⟨_, _, rfl⟩ | ⟨_, rfl⟩) | (rcases hr with ⟨_, rfl⟩ | ⟨_, _, rfl⟩) | (rcases hr with ⟨_, _, rfl⟩ | ⟨_, _, rfl⟩) | (obtain ⟨_, rfl⟩ := hr) | (obtain ⟨_, _, rfl⟩ := hr)) <;> simp at hc <;> (try subst hc) <;> first | exact .v _ | (rcases hc with rfl | rfl <;> exact .v _))) : p := h
theorem dpX {p : Prop} (h : p := by ((refine LeV.frz rfl (by simp) (by simp [noH, upd]) ?_); (try simp only [List.drop_zero, List.take_succ_cons, List.take_zero, List.map_cons, List.map_nil]); (repeat (first | (with_reducible exact zae.nil) | (with_reducible refine zae.cons ?_ ?_) | (with_reducible exact zai.nil) | (with_reducible refine zai.cons ?_ ?_) | (with_reducible exact LeV.refl _) | (refine zam rfl (by simp) (by simp [noH, upd]) ?_; first | (simp [go_sem]; done) | (simp [go_sem]; exact List.take_of_length_le (by simp))))))) : p := h
theorem agX {p : Prop} (h : p := by ((try simp only [zat, zal, zad, za3, zaO, zaz, zas, List.nil_append, List.append_nil, List.cons_append]); (repeat (first | (with_reducible exact zai.nil) | (with_reducible refine zai.cons ?_ ?_) | (with_reducible exact LeV.refl _) | (with_reducible refine LeV.agg ?_) | ((refine zam rfl (by simp) (by simp [zaK, zaR, upd, noH]) ?_); (first | (simp [go_sem]; done) | (simp [go_sem]; exact List.take_of_length_le (by simp)))))))) : p := h
theorem rwX {p : Prop} (h : p := by ((refine zag (.refl _) ?_); (repeat (first | (with_reducible exact zae.nil) | (with_reducible refine zae.cons ?_ ?_) | (with_reducible exact zai.nil) | (with_reducible refine zai.cons ?_ ?_) | (with_reducible exact LeV.refl _) | (refine zam rfl (by simp) (by simp [noH, upd]) ?_; first | (simp [go_sem]; done) | (simp [go_sem]; exact List.take_of_length_le (by simp))))))) : p := h
theorem frX {p : Prop} (h : p := by (refine zam rfl (by simp) (by simp [noH, upd]) ?_; first | (simp [go_sem]; done) | (simp [go_sem]; exact List.take_of_length_le (by simp)))) : p := h
end Go.Av
end
