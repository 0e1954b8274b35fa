/- Texts of ours, part 5: our library and contracts of functions. -/
import Derived.Test.YtedhfmmlhfmomaaGreatDoorB04
import Derived.Scope
import Derived.RangeFuncLeaves
import Derived.RangeFuncRecord
set_option linter.unusedSimpArgs false
set_option linter.unusedVariables false
set_option maxRecDepth 100000
set_option maxHeartbeats 40000000
section
namespace Go.Av
open Go

theorem zc4 {P : Program} {b : Frame} {a : Act} {k : List Item} {cs : List Frame} {w : World} {c : Code} : step P (lone (b.atR a (.code (.scope c) :: k)) cs w) = .next (lone (b.atR a (.code c :: .inScope c :: k)) cs w) :=
 step_lone_go (by simp [stepG, stepG.exec, Frame.atR])
theorem znD {P : Program} {b : Frame} {a : Act} {k : List Item} {cs : List Frame} {w : World} {c : Code} : step P (lone (b.atR a (.inScope c :: k)) cs w) = .next (lone (b.atR a k) cs w) :=
 step_lone_go (by simp [stepG, stepG.exec, Frame.atR])
theorem zuu {F : Fence} {n : Nat} {P : Program} {c : Code} {Q : Exit → Act → World → Prop} {a : Act} {w : World} (h : c.wpIn F n P (Exit.noGoto Q) a w) : (Code.scope c).wpIn F n P Q a w := by
 intro b k cs hro hb hr
 have h0 : (lone (b.atR a (.code (.scope c) :: k)) cs w).fenced P F := fenced_calm hb hr rfl
 obtain ⟨e, a₁, w₁, hq, harr⟩ := h b (.inScope c :: k) cs hro hb hr
 cases e with
 | normal => exact ⟨.normal, a₁, w₁, hq, .head h0 zc4 (StepsIn.trans harr (.one (fenced_calm hb hr rfl) znD))⟩
 | exit id =>
  have hx : exitTo id (.inScope c :: k) = exitTo id k := by simp [exitTo]
  exact ⟨.exit id, a₁, w₁, hq, fun k' hk => .head h0 zc4 (harr.1 k' (by rw [hx]; exact hk)),
   fun hr' hk => let ⟨k₁, h1, h2⟩ := harr.2 hr' (by rw [hx]; exact hk); ⟨k₁, h1, .head h0 zc4 h2⟩⟩
 | goto l => exact hq.elim
 | ret => exact ⟨_, a₁, w₁, hq, .of_steps (.one h0 zc4) harr⟩
 | panic ch => exact ⟨_, a₁, w₁, hq, .of_steps (.one h0 zc4) harr⟩
 | outgrown => exact ⟨_, a₁, w₁, hq, .of_steps (.one h0 zc4) harr⟩
theorem zjE {P : Program} (hmix : P.follows .mixedOrders = true) {N : Nat} : ∀ {c : Code} {B : zeB P} {m : Nat} {Q : zbK}, zor N c = true → ∀ {M : Nat → Prop} {φ : zas} {e : Env} {h : zan} {n : Nat} {a : Act} {w : World},
  SR B N M φ e h n a w → awp P B.n0 c Q e h n → c.wpIn (WF B.round) m P (SQ B N Q) a w := by
 intro c
 induction c with
 | skip => intro B m Q _ M φ e h n a w hs hh; exact wpIn_skip ⟨M, φ, e, h, n, hs, hh⟩
 | label l => intro B m Q _ M φ e h n a w hs hh; exact wpIn_label ⟨M, φ, e, h, n, hs, hh⟩
 | region id ops draw =>
  intro B m Q hd M φ e h n a w hs hh
  cases draw with
  | false =>
   refine wpIn_region ?_
   rw [List.range_eq_range']
   refine zlx (fun o ho => ?_) ops.size 0 (by omega) hs hh
   simp only [zor, List.all_eq_true] at hd
   have := hd o ho
   split at this <;> simp_all
  | true =>
   obtain ⟨h', hfz, hh⟩ := hh
   obtain ⟨hH', st0⟩ := hs.heap.freeze hfz
   refine zqc hmix (fun o ho => ?_) (hs.put (dst := none) trivial (.top undef) hH' st0) hh
   simp only [zor, List.all_eq_true] at hd
   have := hd o ho
   split at this <;> simp_all
 | seq x y ihx ihy =>
  intro B m Q hd M φ e h n a w hs hh
  simp only [zor, Bool.and_eq_true] at hd
  refine wpIn_seq (wpIn_mono (ihx hd.1 hs hh) ?_)
  rintro ex a' w' ⟨M', φ', e', h', n', hs', hq⟩
  cases ex with
  | normal => exact ihy hd.2 hs' hq
  | _ => exact ⟨M', φ', e', h', n', hs', hq⟩
 | cond o x y ihx ihy =>
  intro B m Q hd M φ e h n a w hs hh
  simp only [zor, Bool.and_eq_true] at hd
  unfold awp at hh
  split at hh
  ·rename_i t ht
   have hr := zsk hs.heap.glob hs.env o
   rw [ht] at hr
   generalize hq : a.eval o = q at hr
   cases hr
   cases t with
   | true => exact wpIn_cond hq (ihx hd.1 hs (hh.1 rfl))
   | false => exact wpIn_cond hq (ihy hd.2 hs (hh.2 rfl))
  ·exact hh.elim
 | block id x ih =>
  intro B m Q hd M φ e h n a w hs hh
  refine wpIn_block (wpIn_mono (ih hd hs hh) ?_)
  rintro ex a' w' ⟨M', φ', e', h', n', hs', hq⟩
  cases ex with
  | exit id' =>
   simp only [zfo] at hq
   simp only [Exit.inBlock]
   split at hq
   ·rename_i e0; rw [if_pos e0]; exact ⟨M', φ', e', h', n', hs', hq⟩
   ·rename_i e0; rw [if_neg e0]; exact ⟨M', φ', e', h', n', hs', hq⟩
  | _ => exact ⟨M', φ', e', h', n', hs', hq⟩
 | scope x ih =>
  intro B m Q hd M φ e h n a w hs hh
  refine zuu (wpIn_mono (ih hd hs hh) ?_)
  rintro ex a' w' ⟨M', φ', e', h', n', hs', hq⟩
  cases ex with
  | goto l => exact hq.elim
  | _ => exact ⟨M', φ', e', h', n', hs', hq⟩
 | loop x ih =>
  intro B m Q hd M φ e h n a w hs hh b k cs hro hb hr
  have key := hh (fun e h n => ∀ M φ a w, SR B N M φ e h n a w →
   ∃ ex a' w', SQ B N Q ex a' w' ∧ ArrivesIn (Machine.fenced P (WF B.round)) P (lone (b.atR a (.code x :: .inLoop x :: k)) cs w) b k cs ex a' w') ?_ ?_ M φ a w hs
  ·obtain ⟨ex, a', w', hq, harr⟩ := key
   exact ⟨ex, a', w', hq, .of_steps (.one (fenced_calm hb hr rfl) stepR_loop) harr⟩
  ·intro e h n hB M φ a w hs
   obtain ⟨ex, a₁, w₁, ⟨M', φ', e', h', n', hs', hq⟩, harr⟩ := ih hd hs hB b (.inLoop x :: k) cs hro hb hr
   cases ex with
   | normal =>
    obtain ⟨ex, a₂, w₂, hq₂, harr₂⟩ := hq M' φ' a₁ w₁ hs'
    exact ⟨ex, a₂, w₂, hq₂, .of_steps (StepsIn.trans harr (.one (fenced_calm (fr := b.atR a₁ (.inLoop x :: k)) hb hr rfl) stepR_inLoop)) harr₂⟩
   | exit id => exact ⟨_, a₁, w₁, ⟨M', φ', e', h', n', hs', hq⟩, .pass (x := .inLoop x) rfl (fun _ _ => .inl (by simp)) harr⟩
   | goto l => exact ⟨_, a₁, w₁, ⟨M', φ', e', h', n', hs', hq⟩, .pass (x := .inLoop x) rfl (fun _ _ => .inl (by simp)) harr⟩
   | ret => exact ⟨_, a₁, w₁, ⟨M', φ', e', h', n', hs', hq⟩, .pass (x := .inLoop x) rfl (fun _ _ => .inl (by simp)) harr⟩
   | panic ch => exact ⟨_, a₁, w₁, ⟨M', φ', e', h', n', hs', hq⟩, .pass (x := .inLoop x) rfl (fun _ _ => .inl (by simp)) harr⟩
   | outgrown => exact ⟨_, a₁, w₁, ⟨M', φ', e', h', n', hs', hq⟩, .pass (x := .inLoop x) rfl (fun _ _ => .inl (by simp)) harr⟩
  ·intro e h n E HH n' hk hn hX M φ a w hs
   obtain ⟨φ', h1, h2, h3, h4⟩ := hk.sound hs.heap hs.env
   refine hX M φ' a w ⟨h2, hs.size, hs.defs, h1, B.forget hs.ok ?_ h3 h4 hn, hs.small⟩
   rcases zqX (E := E) GH with h5 | h5
   ·exact .inr h5
   ·have h6 := (hk.env _ h5).1
    simp only at h6
    generalize mkE E GH = y at h6
    rcases B.isG hs.ok with h7 | ⟨x, h7⟩
    ·rw [h7] at h6 ⊢
     cases h6 <;> simp
    ·rw [h7] at h6 ⊢
     cases h6 <;> simp
 | rangeFunc g ps x y ihx ihy =>
  intro B m Q hd M φ e h n a w hs hh
  simp only [zor, Bool.and_eq_true, List.all_eq_true, decide_eq_true_eq] at hd
  exact zkA (fun hs hh => ihx hd.2.1 hs hh) (fun hs hh => ihy hd.2.2 hs hh) hd.1 hs hh
 | exit id => intro B m Q _ M φ e h n a w hs hh; exact wpIn_exit ⟨M, φ, e, h, n, hs, hh⟩
 | ret => intro B m Q _ M φ e h n a w hs hh; exact wpIn_ret ⟨M, φ, e, h, n, hs, hh⟩
 | _ => intro B m Q _ M φ e h n a w hs hh; exact hh.elim
end Go.Av
end
section
/- Our library, part 12: functions' contracts; calls of functions that only compute. -/
namespace Go.Av
open Go

theorem zhb {P : Program} {f : FuncId} {fn : Func} {c : Code} (hf : P.funcs[f]? = some fn) (hb : fn.body = some c) (hname : (fn.name == "runtime.NumGoroutine") = false) : zdO P f := by
 intro args w
 have : ¬ fn.name = "runtime.NumGoroutine" := by simpa using hname
 simp [callFunc, hf, hb, this]

section
variable {P : Program}
theorem ztQ {t : TypeId} {v u : Value} {w w' : World} (h : (Instr.loadAt t v).run P w = .ok u w') : (do loadVar t (← asAddr v) : Sem Value).run P w = .ok u w' := by
 unfold Instr.loadAt at h
 cases v with
 | pointer a =>
  cases a with
  | some a => simpa [Instr.sureAddr, asAddr] using h
  | none => simp [Instr.sureAddr] at h
 | _ => simp [Instr.sureAddr] at h
def resF (tmps : Array Value) : ResultVar → Sem Value
 | .tmp t => pure (tmps.getD t undef)
 | .cell a t => do loadVar t (← asAddr (tmps.getD a undef))
theorem zii (fn : Func) (tmps : Array Value) : results fn tmps = (do let vs ← fn.results.mapM (resF tmps); pure (if h : vs.size = 1 then vs[0] else .tuple vs)) := by
 unfold results
 congr 1
theorem zeu {φ : zas} {n : Nat} {w : World} {M0 : Nat → Prop} {h : zan} (hH : zgX φ n w M0 h) {e : Env} {tmps : Array Value} (he : ∀ t, Rel φ w (Or M0 (Mut φ h)) (e t) (tmps.getD t undef)) :
  ∀ (rs : List ResultVar), (znN P e h rs).1 → ∃ vs, (rs.mapM (resF tmps)).run P w = .ok vs w ∧ zaH φ w (Or M0 (Mut φ h)) (znN P e h rs).2 vs
 | [], _ => ⟨[], by simp, .nil⟩
 | .tmp t :: rs, hc => by
  obtain ⟨vs, h1, h2⟩ := zeu hH he rs hc
  refine ⟨tmps.getD t undef :: vs, ?_, .cons (he t) h2⟩
  simp only [List.mapM_cons, resF, Sem.run_bind, Sem.run_pure, Result.andThen_ok, h1]
 | .cell a t :: rs, hc => by
  obtain ⟨hc1, hc2⟩ := hc
  obtain ⟨vs, h1, h2⟩ := zeu hH he rs hc2
  obtain ⟨u, h3, h4, _, _⟩ := zl1 (P := P) (t := t) hH (he a) hc1
  refine ⟨u :: vs, ?_, .cons h4 h2⟩
  have h5 := ztQ h3
  simp only [Sem.run_bind] at h5
  simp only [List.mapM_cons, resF, Sem.run_bind, h5, Result.andThen_ok, h1, Sem.run_pure]
theorem zud {φ : zas} {w : World} {M : Nat → Prop} {xs : List AV} {vs : List Value} (h : zaH φ w M xs vs) :
  Rel φ w M (zzD xs) (if h : (⟨vs⟩ : Array Value).size = 1 then (⟨vs⟩ : Array Value)[0] else .tuple ⟨vs⟩) := by
 cases h with
 | nil => exact .tup .nil
 | cons h t =>
  cases t with
  | nil => simpa [zzD] using h
  | cons h' t' => simpa [zzD] using Rel.tup (.cons h (.cons h' t'))

theorem zi1 {φ : zas} {w : World} {M : Nat → Prop} : ∀ {xs : List AV} {vs : List Value} (_ : zaH φ w M xs vs) (i t : Nat), zrL i xs t = .top ∨ ∃ k, t = i + k ∧ ∃ (hk : k < xs.length) (hk' : k < vs.length), zrL i xs t = xs[k] ∧ Rel φ w M xs[k] vs[k]
 | [], _, _, i, t => .inl rfl
 | x :: xs, _, .cons h ht, i, t => by
  simp only [zrL, upd]
  by_cases e : t = i
  ·subst e; rw [if_pos rfl]; exact .inr ⟨0, rfl, by simp, by simp, rfl, h⟩
  ·rw [if_neg e]
   rcases zi1 ht (i + 1) t with h1 | ⟨k, rfl, hk, hk', h1, h2⟩
   ·exact .inl h1
   ·exact .inr ⟨k + 1, by omega, by simpa using hk, by simpa using hk', by simpa using h1, by simpa using h2⟩

theorem zrM : ∀ {xs : List AV} {i t : Nat}, i + xs.length ≤ t → zrL i xs t = .top
 | [], _, _, _ => rfl
 | x :: xs, i, t, h => by
  simp only [List.length_cons] at h
  simp only [zrL, upd]
  rw [if_neg (by omega)]
  exact zrM (by omega)
theorem zdT {P : Program} {F : Fence} {n : Nat} {fn : Func} {tmps : Array Value} {R : Ending → World → Prop} {lo : Nat} {M : Nat → Prop} : ∀ {ds : List Deferred} {w : World}, zfm lo M ds w →
  (∀ w', NC lo w w' → ∃ v, (results fn tmps).run P w' = .ok v w' ∧ R (.returned v) w') → LeavesInM F n P fn tmps R ds .returning w
 | [], w, _, h => h w (.refl lo w)
 | d :: ds, w, hm, h => by
  obtain ⟨hp, hd⟩ := hm
  rw [List.pairwise_cons] at hp
  obtain ⟨D, e1, e0, e2, e3⟩ := hd d (by simp)
  have hnc : NC lo w (w.putObj D (.deferred none)) := .putObj _ e0 e3 (by simp) (by simp)
  refine ⟨by simp, .inl ⟨D, _, by rw [e1], run_takeDeferred e3, zdT (M := M) ⟨hp.2, fun d' hd' => ?_⟩ fun w' hn => h w' (hnc.trans hn)⟩⟩
  obtain ⟨D', k1, k0, k2, k3⟩ := hd d' (by simp [hd'])
  refine ⟨D', k1, k0, k2, (World.putObj_heap_other ?_).trans k3⟩
  rintro rfl
  exact hp.1 d' hd' (e1.trans k1.symm)
def fnBase (P : Program) (φ : zas) (w : World) (M0 : Nat → Prop) (h : zan) (n0 : Nat) (fresh : ∀ o, n0 ≤ o → φ o = none) : zeB P where
 n0 := n0
 lo := w.heap.size
 round := none
 ok0 g M O φ' w' h' := g = .top ∧ M = M0 ∧ (∀ k, O k → Mut φ h k ∨ w.heap.size ≤ k) ∧ zcJ φ w M0 h φ' w' h'
 isG0 hk := .inl hk.1
 step0 hk st := by
  obtain ⟨h1, rfl, h2, h3⟩ := hk
  exact ⟨h1, rfl, h2, h3.trans st⟩
 forget0 := by
  rintro g g' M O φ1 w1 h1 φ2 h2 n' ⟨e1, rfl, hO, st⟩ hg h3 h4 hn
  refine ⟨by rcases hg with h | h <;> simp [h, e1], rfl, hO, ?_, fun k hk => ?_, st.fr, fun k hk => st.mutd k (h3 k hk)⟩
  ·intro o x hx
   obtain ⟨x', hx', l1, l2⟩ := st.le o x hx
   have : o < n0 := Nat.lt_of_not_le fun hle => by rw [fresh o hle] at hx; cases hx
   exact ⟨x', h4 o x' (by omega) hx', l1, l2⟩
  ·rcases hk with hk | hk
   ·exact st.or k (.inl hk)
   ·exact st.or k (.inr (h3 k hk))
 yld0 hk := by cases hk.1
 exh0 hk := by cases hk.1
 oth0 := by
  rintro g M O O' φ' w1 w2 h1 ⟨e1, rfl, hO, st⟩ hfr hO'
  have hs := st.fr.size
  exact ⟨e1, rfl, fun k hk => (hO' k hk).elim (hO k) (fun h => .inr (by omega)), st.le, st.or,
   ⟨hfr.os.trans st.fr.os, hfr.tape.trans st.fr.tape, hfr.output.trans st.fr.output, Nat.le_trans st.fr.drawn hfr.drawn, Nat.le_trans hs hfr.size, fun k hk hu => (hfr.block k (by omega) (fun h => (hO k h).elim hu (fun h => by omega))).trans (st.fr.block k hk hu)⟩, st.mutd⟩
 give0 := by
  rintro g M O O' φ' w1 h1 h2 ⟨e1, rfl, hO, st⟩ hO' hm
  refine ⟨e1, rfl, fun k hk => (hO' k hk).elim (hO k) (st.mutd k), st.le, fun k hk => hk.elim (fun h => .inl (.inl h)) (fun h => st.or k (.inr (hm k h))), st.fr, fun k hk => st.mutd k (hm k hk)⟩
 nc0 := by
  rintro g M O φ' w1 w2 h1 ⟨e1, rfl, hO, st⟩ hn
  exact ⟨e1, rfl, hO, st.nc hn⟩
 lo0 hk := hk.2.2.2.fr.size
 rec0 _ h := by cases h
theorem zBm (hmix : P.follows .mixedOrders = true) {f : FuncId} {fn : Func} {c : Code} {args : List AV} {h : zan} {n : Nat} {K : zco} (hf : P.funcs[f]? = some fn) (hb : fn.body = some c) (hname : (fn.name == "runtime.NumGoroutine") = false)
  (hN : args.length ≤ fn.ntmps) (hd : zor fn.ntmps c = true) (hh : awp P n c (RetQ P fn.results.toList K) (zrL 0 args) h n) (hG : fn.ntmps ≤ GH := by exact Nat.le_of_ble_eq_true rfl) : zaa P f args h n K := by
 refine ⟨zhb hf hb hname, fun M0 φ w vs hH hargs => ?_⟩
 have hlen := hargs.length
 let B : zeB P := fnBase P φ w M0 h n hH.fresh
 have hsr : SR B fn.ntmps M0 φ (zrL 0 args) h n { tmps := ⟨vs⟩ ++ Array.replicate (fn.ntmps - (⟨vs⟩ : Array Value).size) undef, defers := [] } w := by
  refine ⟨fun t => ?_, by simp; omega, zfm.nil, hH, ⟨M0, fun _ => False, (zdJ M0).symm, zrM (by omega), rfl, fun _ h => h.elim, .refl _ _ _ _⟩, hG⟩
  rcases zi1 hargs 0 t with h1 | ⟨k, rfl, hk, hk', h1, h2⟩
  ·rw [h1]; exact .top _
  ·rw [h1]
   have : ((⟨vs⟩ : Array Value) ++ Array.replicate (fn.ntmps - (⟨vs⟩ : Array Value).size) undef).getD (0 + k) undef = vs[k] := by
    simp [Array.getD_eq_getD_getElem?, Array.getElem?_append, hk']
   rw [this]; exact h2
 have hw := zjE (P := P) hmix (B := B) (N := fn.ntmps) (m := 0) hd hsr hh
 refine callsIn_wide.1 (callsIn_of_wp_marks (F := WF none) (n := 0) hf hb trivial (wpIn_mono hw ?_) rfl)
 rintro ex a' w' ⟨M, φ', e', h', n', hs', hq⟩
 have fin : (znN P e' h' fn.results.toList).1 ∧ K (zzD (znN P e' h' fn.results.toList).2) h' n' → LeavesInM (WF none) 0 P fn a'.tmps (fun e w' => ∃ v_1 φ'_1 r h'_1 n'_1, e = Ending.returned v_1 ∧ K r h'_1 n'_1 ∧ zgX φ'_1 n'_1 w' M0 h'_1 ∧ Rel φ'_1 w' (Or M0 (Mut φ'_1 h'_1)) r v_1 ∧ zcJ φ w M0 h φ'_1 w' h'_1) a'.defers .returning w' := by
  rintro ⟨q1, q2⟩
  obtain ⟨M1, O, rfl, _, rfl, _, hst⟩ := hs'.ok
  refine zdT hs'.defs fun w'' hn => ?_
  have hsub : ∀ k, Or M1 (Mut φ' h') k → Or (Or M1 O) (Mut φ' h') k := fun k hk => hk.imp .inl id
  have hHm : zgX φ' n' w' M1 h' := hs'.heap.lessM fun k hk => .inl hk
  obtain ⟨us, h1, h2⟩ := zeu (P := P) (hHm.nc hn) (fun t => ((hs'.env t).lessM hsub).nc hn) fn.results.toList q1
  refine ⟨_, ?_, _, φ', _, h', n', rfl, q2, hHm.nc hn, zud h2, hst.nc hn⟩
  rw [zii, Array.mapM_eq_mapM_toList]
  simp only [Sem.run_bind, Sem.run_map, Sem.run_pure, h1, Result.andThen_ok]
 cases ex with
 | normal => exact fin hq
 | ret => exact fin hq
 | _ => exact hq.elim
end

theorem zhh {w : World} {M : Nat → Prop} (hM : ∀ k, M k → k < w.heap.size) (hg : zhH w M) : zgX noP 0 w M noH :=
 ⟨hM, fun _ _ => rfl, (fun o mt g sz rs ho => by cases ho), (fun o o' mt g sz rs mt' g' sz' rs' a a' b b' ho => by cases ho),
  hg.keep (fun _ _ _ => rfl) (fun k hk => .inl (hk.elim id fun h => (zaI h).elim))⟩

def RetI (P : Program) (rs : List ResultVar) (l more : Nat) : zbK
 | .normal, e, h, n | .ret, e, h, n => (znN P e h rs).1 ∧ ((more = 0 ∧ e GH = zbn l 0 []) ∨ e GH = zbn l 2 [])
 | _, _, _, _ => False
theorem zdb {l l' m m' : Nat} {r r' : List (List AV)} (h : zbn l m r = zbn l' m' r') : l = l' ∧ m = m' ∧ r = r' := by
 simp only [zbn, AV.gd.injEq, AV.tup.injEq, List.cons.injEq, AV.v.injEq, Value.int.injEq, AV.lst.injEq, and_true, true_and] at h
 obtain ⟨h1, h2, h3⟩ := h
 exact ⟨by omega, h2, h3⟩
def zzx (P : Program) (w : World) (l more : Nat) (J : List (List AV) → zcF → zcF → World → Prop) (Jx : zcF → zcF → World → Prop)
  (hJ : ∀ rs M O O' w1 w2, J rs M O w1 → Fr w1 O w2 → (∀ k, O' k → O k ∨ w1.heap.size ≤ k) → J rs M O' w2)
  (hJx : ∀ M O O' w1 w2, Jx M O w1 → Fr w1 O w2 → (∀ k, O' k → O k ∨ w1.heap.size ≤ k) → Jx M O' w2)
  (hn : ∀ rs M O w1 w2, J rs M O w1 → NC w.heap.size w1 w2 → J rs M O w2) (hnx : ∀ M O w1 w2, Jx M O w1 → NC w.heap.size w1 w2 → Jx M O w2)
  (hr : ∀ (r : Option Nat) (m : Nat) xs rest M O w1 vs, J (xs :: rest) M O w1 → (∀ k, O k → k < w1.heap.size) → zaH noP w1 (Or M O) xs vs →
   ∃ fn tmps assign body, (Instr.yield l ⟨vs⟩).run P w1 = .ok (.round l fn tmps assign body) w1 ∧ RoundIn (WF r) m P l fn tmps assign body w1 fun e w' =>
    ∃ b M', e = .returned (.bool b) ∧ ziN M w1 M' w' ∧ if b then J rest M' O w' else Jx M' O w')
  (hm : more = 1 → ∀ M O w1, ¬ J [] M O w1) : zeB P where
 n0 := 0
 lo := w.heap.size
 round := none
 ok0 g M O φ w1 h := w.heap.size ≤ w1.heap.size ∧ w1.os = w1.os ∧ ((∃ rs, g = zbn l more rs ∧ J rs M (Or O (Mut φ h)) w1) ∨ (g = zbn l 2 [] ∧ Jx M (Or O (Mut φ h)) w1) ∨ g = .top)
 isG0 := by
  rintro g M O φ w1 h ⟨_, _, ⟨rs, rfl, _⟩ | ⟨rfl, _⟩ | rfl⟩
  ·exact .inr ⟨_, rfl⟩
  ·exact .inr ⟨_, rfl⟩
  ·exact .inl rfl
 step0 := by
  rintro g M O φ w1 h φ' w2 h' ⟨h1, _, h2⟩ st
  have hfr : Fr w1 (Or O (Mut φ h)) w2 := st.fr.more fun k hk => .inr hk
  have hO : ∀ k, Or O (Mut φ' h') k → Or O (Mut φ h) k ∨ w1.heap.size ≤ k := fun k hk => hk.elim (fun h => .inl (.inl h)) fun h => (st.mutd k h).imp .inr id
  exact ⟨Nat.le_trans h1 st.fr.size, rfl, h2.imp (fun ⟨rs, e, h⟩ => ⟨rs, e, hJ _ _ _ _ _ _ h hfr hO⟩) (fun h => h.imp (fun h => ⟨h.1, hJx _ _ _ _ _ h.2 hfr hO⟩) id)⟩
 forget0 := by
  rintro g g' M O φ w1 h φ' h' n' ⟨h1, _, h2⟩ hg h3 h4 _
  have hO : ∀ k, Or O (Mut φ' h') k → Or O (Mut φ h) k ∨ w1.heap.size ≤ k := fun k hk => .inl (hk.imp id (h3 k))
  rcases hg with rfl | rfl
  ·exact ⟨h1, rfl, h2.imp (fun ⟨rs, e, h⟩ => ⟨rs, e, hJ _ _ _ _ _ _ h (Fr.refl _ _) hO⟩) (fun h => h.imp (fun h => ⟨h.1, hJx _ _ _ _ _ h.2 (Fr.refl _ _) hO⟩) id)⟩
  ·exact ⟨h1, rfl, .inr (.inr rfl)⟩
 yld0 := by
  rintro r m l' more' xs rest M O φ w1 h n vs ⟨h1, _, ⟨rs, e, h2⟩ | ⟨e, _⟩ | e⟩ hH hv
  ·obtain ⟨rfl, rfl, rfl⟩ := zdb e
   obtain ⟨fn, tm, asg, body, k1, k2⟩ := hr r m xs rest M _ w1 vs h2 (fun k hk => hk.elim (fun h => hH.m0 k (.inr h)) fun h => hH.blk (.inr h)) (by rw [← zks]; exact hv)
   refine ⟨fn, tm, asg, body, k1, k2.mono ?_⟩
   rintro en w2 ⟨b, M', e1, g, hk⟩
   refine ⟨b, M', e1, g, Nat.le_trans h1 g.size, rfl, ?_⟩
   cases b with
   | true => exact .inl ⟨rest, rfl, hk⟩
   | false => exact .inr (.inl ⟨rfl, hk⟩)
  ·obtain ⟨_, _, e⟩ := zdb e
   cases e
  ·cases e
 exh0 := by
  rintro l' M O φ w1 h ⟨h1, _, ⟨rs, e, h2⟩ | ⟨e, _⟩ | e⟩
  ·obtain ⟨rfl, e1, rfl⟩ := zdb e
   exact hm e1.symm _ _ _ h2
  ·obtain ⟨_, e, _⟩ := zdb e
   cases e
  ·cases e
 oth0 := by
  rintro g M O O' φ w1 w2 h ⟨h1, _, h2⟩ hfr hO
  have hfr' : Fr w1 (Or O (Mut φ h)) w2 := hfr.more fun k hk => .inl hk
  have hO' : ∀ k, Or O' (Mut φ h) k → Or O (Mut φ h) k ∨ w1.heap.size ≤ k := fun k hk => hk.elim (fun h => (hO k h).imp .inl id) fun h => .inl (.inr h)
  exact ⟨Nat.le_trans h1 hfr.size, rfl, h2.imp (fun ⟨rs, e, h⟩ => ⟨rs, e, hJ _ _ _ _ _ _ h hfr' hO'⟩) (fun h => h.imp (fun h => ⟨h.1, hJx _ _ _ _ _ h.2 hfr' hO'⟩) id)⟩
 nc0 := by
  rintro g M O φ w1 w2 h ⟨h1, _, h2⟩ hnc
  exact ⟨by rw [hnc.size]; exact h1, rfl, h2.imp (fun ⟨rs, e, h⟩ => ⟨rs, e, hn _ _ _ _ _ h hnc⟩) (fun h => h.imp (fun h => ⟨h.1, hnx _ _ _ _ h.2 hnc⟩) id)⟩
 give0 := by
  rintro g M O O' φ w1 h h' ⟨h1, _, h2⟩ hO' hm
  have hO : ∀ k, Or O' (Mut φ h') k → Or O (Mut φ h) k ∨ w1.heap.size ≤ k := fun k hk => .inl (hk.elim (hO' k) fun h => .inr (hm k h))
  exact ⟨h1, rfl, h2.imp (fun ⟨rs, e, h⟩ => ⟨rs, e, hJ _ _ _ _ _ _ h (Fr.refl _ _) hO⟩) (fun h => h.imp (fun h => ⟨h.1, hJx _ _ _ _ _ h.2 (Fr.refl _ _) hO⟩) id)⟩
 lo0 h := h.1
 rec0 _ h := by cases h
theorem zBH {P : Program} (hmix : P.follows .mixedOrders = true) {f : FuncId} {fn : Func} {c : Code} {caps : List AV} {more : Nat} {rows : List (List AV)} (hf : P.funcs[f]? = some fn) (hb : fn.body = some c) (hname : (fn.name == "runtime.NumGoroutine") = false)
  (hN : caps.length + 1 ≤ fn.ntmps) (hd : zor fn.ntmps c = true)
  (hh : ∀ l, awp P 0 c (RetI P fn.results.toList l more) (upd (zrL 0 (.fn (.yield l) [] [] :: caps)) GH (zbn l more rows)) noH 0) (hG : fn.ntmps ≤ GH := by exact Nat.le_of_ble_eq_true rfl) (hm2 : more ≠ 2 := by decide) : zxG P f caps more rows := by
 refine ⟨zhb hf hb hname, fun w M0 cvs l J Jx hM0 hgl hcaps hJ hJx hn hnx hr hm h0 => ?_⟩
 have hlen := hcaps.length
 let B : zeB P := zzx P w l more J Jx hJ hJx hn hnx hr hm
 have hargs : zaH noP w (Or M0 (Mut noP noH)) (.fn (.yield l) [] [] :: caps) (.func (.yield l) #[] #[] :: cvs) :=
  .cons (.fn .nil .nil) (hcaps.keep noP.le_refl (fun _ _ _ => rfl) fun k hk => .inl (hk.elim id fun h => (zaI h).elim))
 have hsr : SR B fn.ntmps M0 noP (upd (zrL 0 (.fn (.yield l) [] [] :: caps)) GH (zbn l more rows)) noH 0
   { tmps := ⟨.func (.yield l) #[] #[] :: cvs⟩ ++ Array.replicate (fn.ntmps - (⟨.func (.yield l) #[] #[] :: cvs⟩ : Array Value).size) undef, defers := [] } w := by
  refine ⟨fun t => ?_, by simp; omega, zfm.nil, zhh hM0 hgl, ⟨M0, fun _ => False, (zdJ M0).symm, Nat.le_refl _, rfl, .inl ⟨rows, by rw [zau], hJ _ _ _ _ _ _ h0 (Fr.refl _ _) fun k hk => .inl (hk.elim id fun h => (zaI h).elim)⟩⟩, hG⟩
  by_cases ht : t = GH
  ·subst ht
   rw [zau, Array.getD_eq_getD_getElem?, Array.getElem?_eq_none (by simp; omega)]
   exact .gd (fun h => by cases h) (fun _ => rfl)
  rw [zbc _ _ ht]
  rcases zi1 hargs 0 t with h1 | ⟨k, rfl, hk, hk', h1, h2⟩
  ·rw [h1]; exact .top _
  ·rw [h1]
   have : ((⟨.func (.yield l) #[] #[] :: cvs⟩ : Array Value) ++ Array.replicate (fn.ntmps - (⟨.func (.yield l) #[] #[] :: cvs⟩ : Array Value).size) undef).getD (0 + k) undef = (Value.func (.yield l) #[] #[] :: cvs)[k] := by
    simp only [List.length_cons] at hk'
    simp [Array.getD_eq_getD_getElem?, Array.getElem?_append, hk']
   rw [this]; exact h2
 have hw := zjE (P := P) hmix (B := B) (N := fn.ntmps) (m := 0) hd hsr (hh l)
 refine callsIn_wide.1 (callsIn_of_wp_marks (F := WF none) (n := 0) hf hb trivial (wpIn_mono hw ?_) rfl)
 rintro ex a' w' ⟨M, φ', e', h', n', hs', hq⟩
 have fin : (znN P e' h' fn.results.toList).1 ∧ ((more = 0 ∧ e' GH = zbn l 0 []) ∨ e' GH = zbn l 2 []) →
   LeavesInM (WF none) 0 P fn a'.tmps (fun e w' => (∃ v, e = .returned v) ∧ ∃ M' O', (∀ k, O' k → k < w'.heap.size) ∧ ((more = 0 ∧ J [] M' O' w') ∨ Jx M' O' w')) a'.defers .returning w' := by
  rintro ⟨q1, q2⟩
  obtain ⟨Mc, O, rfl, _, _, hst⟩ := hs'.ok
  refine zdT hs'.defs fun w'' hnc => ?_
  obtain ⟨us, h1, h2⟩ := zeu (P := P) (hs'.heap.nc hnc) (fun t => (hs'.env t).nc hnc) fn.results.toList q1
  refine ⟨if h : (⟨us⟩ : Array Value).size = 1 then (⟨us⟩ : Array Value)[0] else .tuple ⟨us⟩, ?_, ⟨_, rfl⟩, Mc, Or O (Mut φ' h'), fun k hk => ?_, ?_⟩
  ·rw [zii, Array.mapM_eq_mapM_toList]
   simp only [Sem.run_bind, Sem.run_map, Sem.run_pure, h1, Result.andThen_ok]
  ·rw [hnc.size]; exact hk.elim (fun h => hs'.heap.m0 k (.inr h)) fun h => hs'.heap.blk (.inr h)
  ·rcases hst with ⟨rs, e1, h⟩ | ⟨e1, h⟩ | e1
   ·rw [e1] at q2
    rcases q2 with ⟨e2, q2⟩ | q2
    ·obtain ⟨_, _, rfl⟩ := zdb q2
     exact .inl ⟨e2, hn _ _ _ _ _ h hnc⟩
    ·obtain ⟨_, e3, rfl⟩ := zdb q2
     exact absurd e3 hm2
   ·exact .inr (hnx _ _ _ _ h hnc)
   ·rw [e1] at q2
    rcases q2 with ⟨_, q2⟩ | q2 <;> cases q2
 cases ex with
 | normal => exact fin hq
 | ret => exact fin hq
 | _ => exact hq.elim

theorem zBW {P : Program} (hmix : P.follows .mixedOrders = true) {f : FuncId} {fn : Func} {c : Code} {caps : List AV} {HO : List (Nat × zbi)} {k0 : Nat} {more : Nat} {rows : List (List AV)} (hf : P.funcs[f]? = some fn) (hb : fn.body = some c) (hname : (fn.name == "runtime.NumGoroutine") = false)
  (hN : caps.length + 1 ≤ fn.ntmps) (hd : zor fn.ntmps c = true)
  (hh : ∀ l, awp P 0 c (RetI P fn.results.toList l more) (upd (zrL 0 (.fn (.yield l) [] [] :: caps)) GH (zbn l more rows)) (mkH HO) k0) (hG : fn.ntmps ≤ GH := by exact Nat.le_of_ble_eq_true rfl) (hm2 : more ≠ 2 := by decide) : zuL P f caps HO k0 more rows := by
 refine ⟨zhb hf hb hname, fun φ w M0 cvs l J Jx hH0 hcaps hJ hJx hn hnx hr hm h0 => ?_⟩
 have hlen := hcaps.length
 let B : zeB P := zzx P w l more J Jx hJ hJx hn hnx hr hm
 have hargs : zaH φ w (Or M0 (Mut φ (mkH HO))) (.fn (.yield l) [] [] :: caps) (.func (.yield l) #[] #[] :: cvs) := .cons (.fn .nil .nil) hcaps
 have hsr : SR B fn.ntmps M0 φ (upd (zrL 0 (.fn (.yield l) [] [] :: caps)) GH (zbn l more rows)) (mkH HO) k0
   { tmps := ⟨.func (.yield l) #[] #[] :: cvs⟩ ++ Array.replicate (fn.ntmps - (⟨.func (.yield l) #[] #[] :: cvs⟩ : Array Value).size) undef, defers := [] } w := by
  refine ⟨fun t => ?_, by simp; omega, zfm.nil, hH0, ⟨M0, fun _ => False, (zdJ M0).symm, Nat.le_refl _, rfl, .inl ⟨rows, by rw [zau], hJ _ _ _ _ _ _ h0 (Fr.refl _ _) fun k hk => .inl (hk.elim False.elim id)⟩⟩, hG⟩
  by_cases ht : t = GH
  ·subst ht
   rw [zau, Array.getD_eq_getD_getElem?, Array.getElem?_eq_none (by simp; omega)]
   exact .gd (fun h => by cases h) (fun _ => rfl)
  rw [zbc _ _ ht]
  rcases zi1 hargs 0 t with h1 | ⟨k, rfl, hk, hk', h1, h2⟩
  ·rw [h1]; exact .top _
  ·rw [h1]
   have : ((⟨.func (.yield l) #[] #[] :: cvs⟩ : Array Value) ++ Array.replicate (fn.ntmps - (⟨.func (.yield l) #[] #[] :: cvs⟩ : Array Value).size) undef).getD (0 + k) undef = (Value.func (.yield l) #[] #[] :: cvs)[k] := by
    simp only [List.length_cons] at hk'
    simp [Array.getD_eq_getD_getElem?, Array.getElem?_append, hk']
   rw [this]; exact h2
 have hw := zjE (P := P) hmix (B := B) (N := fn.ntmps) (m := 0) hd hsr (hh l)
 refine callsIn_wide.1 (callsIn_of_wp_marks (F := WF none) (n := 0) hf hb trivial (wpIn_mono hw ?_) rfl)
 rintro ex a' w' ⟨M, φ', e', h', n', hs', hq⟩
 have fin : (znN P e' h' fn.results.toList).1 ∧ ((more = 0 ∧ e' GH = zbn l 0 []) ∨ e' GH = zbn l 2 []) →
   LeavesInM (WF none) 0 P fn a'.tmps (fun e w' => (∃ v, e = .returned v) ∧ ∃ M' O', (∀ k, O' k → k < w'.heap.size) ∧ ((more = 0 ∧ J [] M' O' w') ∨ Jx M' O' w')) a'.defers .returning w' := by
  rintro ⟨q1, q2⟩
  obtain ⟨Mc, O, rfl, _, _, hst⟩ := hs'.ok
  refine zdT hs'.defs fun w'' hnc => ?_
  obtain ⟨us, h1, h2⟩ := zeu (P := P) (hs'.heap.nc hnc) (fun t => (hs'.env t).nc hnc) fn.results.toList q1
  refine ⟨if h : (⟨us⟩ : Array Value).size = 1 then (⟨us⟩ : Array Value)[0] else .tuple ⟨us⟩, ?_, ⟨_, rfl⟩, Mc, Or O (Mut φ' h'), fun k hk => ?_, ?_⟩
  ·rw [zii, Array.mapM_eq_mapM_toList]
   simp only [Sem.run_bind, Sem.run_map, Sem.run_pure, h1, Result.andThen_ok]
  ·rw [hnc.size]; exact hk.elim (fun h => hs'.heap.m0 k (.inr h)) fun h => hs'.heap.blk (.inr h)
  ·rcases hst with ⟨rs, e1, h⟩ | ⟨e1, h⟩ | e1
   ·rw [e1] at q2
    rcases q2 with ⟨e2, q2⟩ | q2
    ·obtain ⟨_, _, rfl⟩ := zdb q2
     exact .inl ⟨e2, hn _ _ _ _ _ h hnc⟩
    ·obtain ⟨_, e3, rfl⟩ := zdb q2
     exact absurd e3 hm2
   ·exact .inr (hnx _ _ _ _ h hnc)
   ·rw [e1] at q2
    rcases q2 with ⟨_, q2⟩ | q2 <;> cases q2
 cases ex with
 | normal => exact fin hq
 | ret => exact fin hq
 | _ => exact hq.elim

theorem zax.up {φ : zas} {w : World} {M0 : Nat → Prop} {h : zan} {n : Nat} (hH : zgX φ 0 w M0 h) : zgX φ n w M0 h := ⟨hH.m0, fun o _ => hH.fresh o (Nat.zero_le _), hH.obj, hH.inj, hH.glob⟩
theorem zBU {P : Program} {f : FuncId} {args : List AV} {r : AV} {n : Nat} (hc : zaa P f args noH n fun r' h' n' => LeV h' noH n' r' r ∧ Bel 0 r) : zaJ P f args r := by
 refine ⟨hc.1, fun M w vs hM hgl hargs => (hc.2 M noP w vs (zhh hM hgl).up (hargs.keep noP.le_refl (fun _ _ _ => rfl) (fun k hk => hk.elim .inl fun h => (zaI h).elim))).mono ?_⟩
 rintro e w' ⟨v, φ', r', h', n', rfl, ⟨hle, hb⟩, hH, hx, st⟩
 have hk : Wk (fun _ => r') h' n' [(0, r)] [] 0 := ⟨fun p hp => by simp at hp; subst hp; exact ⟨hle, hb⟩, fun p hp => by cases hp⟩
 obtain ⟨φ'', h1, h2, h3, _⟩ := hk.sound hH (tmps := fun _ => v) (fun _ => hx)
 refine ⟨v, rfl, ?_, ?_⟩
 ·have := h2 0
  simp only [mkE, zau] at this
  refine this.keep (fun o x ho => ?_) (fun _ _ _ => rfl) (fun k hk => .inl (.inl hk))
  rw [h1.fresh o (Nat.zero_le _)] at ho; cases ho
 ·exact ⟨st.fr.os, st.fr.tape, st.fr.output, st.fr.drawn, st.fr.size, fun k hk _ => st.fr.block k hk zaI⟩
theorem zaJ.of {P : Program} {f : FuncId} {args : List AV} {r : AV} (hc : zaa P f args noH 0 fun r' h' n' => LeV h' noH n' r' r ∧ Bel 0 r) : zaJ P f args r := zBU hc

theorem zBu {P : Program} {f : FuncId} {args args' : List AV} {r : AV} {h : zan} {n : Nat} {K : zco} (hp : zaJ P f args' r) (hfl : zss r) (hle : zam h noH n args args') (hb : ∀ c ∈ args', Bel 0 c)
  (hk : K r h n) : zaa P f args h n K := by
 refine ⟨hp.1, fun M0 φ w vs hH hargs => ?_⟩
 have h1 := zbW (h' := noH) hH (fun o g sz rs ho => by cases ho) hle hb hargs
 refine (hp.2 _ w vs (fun k hk => hk.elim (hH.m0 k) fun h => (zaI h).elim) (hH.glob.keep (fun _ _ _ => rfl) (fun k hk => .inl (hk.imp id fun h => (zaI h).elim))) h1).mono ?_
 rintro e w' ⟨v, rfl, hr, hfr⟩
 have st : zcJ φ w M0 h φ w' h := ⟨φ.le_refl, fun k hk => .inl hk, ⟨hfr.os, hfr.tape, hfr.output, hfr.drawn, hfr.size, fun k hk _ => hfr.block k hk (fun h => h)⟩, fun k hk => .inl hk⟩
 exact ⟨v, φ, r, h, n, rfl, hk, hH.keepw st (fun k hk => hfr.block k hk fun h => h), hfl.rel hr, st⟩

theorem zaa.pure {P : Program} {f : FuncId} {args args' : List AV} {r : AV} {h : zan} {n : Nat} {K : zco} (h' : zan) (hp : zaJ P f args' r) (hfz : Frz h h') (hle : zam h h' n args args') (hb : ∀ c ∈ args', Bel 0 c)
  (hk : K r h' n) : zaa P f args h n K := by
 refine ⟨hp.1, fun M0 φ w vs hH hargs => ?_⟩
 obtain ⟨hH', st0⟩ := hH.freeze hfz
 have hmt : ∀ o g sz rs, h' o = some (.rows true g sz rs) → h o = some (.rows true g sz rs) := by
  intro o g sz rs ho
  rcases hfz o with h1 | ⟨g1, sz1, rs1, _, h2⟩
  ·rw [← h1]; exact ho
  ·rw [h2] at ho; cases ho
 have h1 := zbW (h' := h') hH hmt hle hb hargs
 refine (hp.2 _ w vs (fun k hk => hH'.blk hk) hH'.glob h1).mono ?_
 rintro e w' ⟨v, rfl, hr, hfr⟩
 have st : zcJ φ w M0 h' φ w' h' := ⟨φ.le_refl, fun k hk => .inl hk, ⟨hfr.os, hfr.tape, hfr.output, hfr.drawn, hfr.size, fun k hk _ => hfr.block k hk (fun h => h)⟩, fun k hk => .inl hk⟩
 refine ⟨v, φ, r, h', n, rfl, hk, hH'.keepw st (fun k hk => hfr.block k hk fun h => h), ?_, st0.trans st⟩
 exact hr.keep (fun o x ho => by cases ho) (fun _ _ _ => rfl) (fun k hk => .inl hk)
theorem zBi {P : Program} {f : FuncId} {args : List AV} {r : AV} {h : zan} {n : Nat} {K : zco} (hp : zaJ P f args r) (hb : ∀ c ∈ args, Bel 0 c) (hk : K r h n) : zaa P f args h n K :=
 zaa.pure h hp (.refl h) (.refl _ _ _ _) hb hk

theorem zBN {P : Program} {f : FuncId} {args args' : List AV} {h : zan} {n k2 : Nat} {K K' : zco} {R0 R : AV} {H0 HH : List (Nat × zbi)} (h' : zan) (hp : zaa P f args' noH 0 K')
  (hk' : ∀ r h1 n', K' r h1 n' → Wk (fun _ => r) h1 n' [(0, R0)] H0 k2) (hR : Sh n R0 R) (hHH : ShH n H0 HH) (hfz : Frz h h') (hle : zam h h' n args args') (hb : ∀ c ∈ args', Bel 0 c)
  (hk : K R (zdM HH h') (n + k2)) : zaa P f args h n K := by
 refine ⟨hp.1, fun M0 φ w vs hH hargs => ?_⟩
 obtain ⟨hH', st0⟩ := hH.freeze hfz
 have hmt : ∀ o g sz rs, h' o = some (.rows true g sz rs) → h o = some (.rows true g sz rs) := by
  intro o g sz rs ho
  rcases hfz o with h1 | ⟨g1, sz1, rs1, h1, h2⟩
  ·rw [← h1]; exact ho
  ·rw [h2] at ho; cases ho
 have hv := zbW (h' := h') hH hmt hle hb hargs
 have hM1 : ∀ k, Or (Or M0 (Mut φ h')) (Mut noP noH) k → Or M0 (Mut φ h') k := fun k hk => hk.elim id fun h => (zaI h).elim
 have hH1 : zgX noP 0 w (Or M0 (Mut φ h')) noH := zhh (fun k hk => hH'.blk hk) hH'.glob
 refine (hp.2 _ noP w vs hH1 (hv.keep noP.le_refl (fun _ _ _ => rfl) (fun k hk => .inl (hM1 k hk)))).mono ?_
 rintro e w' ⟨v, φ1, r, h1, n', rfl, hK, hH2, hx, st⟩
 obtain ⟨φ2, hH3, hx3, hm3, _⟩ := (hk' _ _ _ hK).sound hH2 (tmps := fun _ => v) (fun _ => hx)
 have hx3 := hx3 0
 simp only [mkE, zau] at hx3
 have hheap : ∀ k, k < w.heap.size → w'.heap[k]? = w.heap[k]? := fun k hk => st.fr.block k hk zaI
 let φ3 : zas := fun o => if o < n then φ o else φ2 (o - n)
 have e3 : ∀ o, φ3 (n + o) = φ2 o := fun o => by simp only [φ3]; rw [if_neg (by omega)]; congr 1; omega
 have e3' : ∀ o, o < n → φ3 o = φ o := fun o ho => if_pos ho
 have hlt : ∀ o x, φ o = some x → o < n := fun o x ho => Nat.lt_of_not_le fun hle => by rw [hH.fresh o hle] at ho; cases ho
 have hle3 : φ.le φ3 := fun o x ho => ⟨x, by rw [e3' o (hlt o x ho)]; exact ho, Nat.le_refl _, fun _ => rfl⟩
 have hsrc : ∀ o y, zdM HH h' o = some y → (∃ o0 x, o = n + o0 ∧ mkH H0 o0 = some x ∧ ShO n x y) ∨ (o < n ∧ h' o = some y) := by
  intro o x ho
  rw [zgO] at ho
  split at ho
  ·rename_i y hy
   cases ho
   exact .inl (hHH.at hy)
  ·cases x with
   | rows mt g sz rs =>
    obtain ⟨A, hA, _⟩ := hH'.obj _ _ _ _ _ ho
    exact .inr ⟨hlt _ _ hA, ho⟩
 have hmut : ∀ k, Mut φ3 (zdM HH h') k → Mut φ2 (mkH H0) k ∨ Mut φ h' k := by
  rintro k ⟨o, g, sz, rs, g', a, bs, ho, hp, rfl⟩
  rcases hsrc o _ ho with ⟨o0, x, rfl, h1, h2⟩ | ⟨h1, h2⟩
  ·cases h2 with
   | rows h2 => rw [e3] at hp; exact .inl ⟨o0, g, sz, _, g', a, bs, h1, hp, rfl⟩
  ·rw [e3' o h1] at hp; exact .inr ⟨o, g, sz, rs, g', a, bs, h2, hp, rfl⟩
 have hnew : ∀ k, Mut φ2 (mkH H0) k → w.heap.size ≤ k := fun k hk => (st.mutd k (hm3 k hk)).elim (fun h => (zaI h).elim) id
 have hsub : ∀ k, Or M0 (Mut φ3 (zdM HH h')) k → Or (Or M0 (Mut φ h')) (Mut φ2 (mkH H0)) k := fun k hk => hk.elim (fun h => .inl (.inl h)) fun h => (hmut k h).elim .inr fun h => .inl (.inr h)
 have hsub' : ∀ k, Or M0 (Mut φ3 (zdM HH h')) k → Or M0 (Mut φ h') k ∨ w.heap.size ≤ k := fun k hk => hk.elim (fun h => .inl (.inl h)) fun h => (hmut k h).elim (fun h => .inr (hnew k h)) fun h => .inl (.inr h)
 have hblk : ∀ o x g' a bs, h' o = some x → φ o = some (g', some (a, bs)) → a.block < w.heap.size := by
  intro o x g' a bs ho hp
  cases x with
  | rows mt g sz rs =>
   obtain ⟨A, hA, hc⟩ := hH'.obj _ _ _ _ _ ho
   rw [hp] at hA
   simp only [Option.some.injEq, Prod.mk.injEq] at hA
   obtain ⟨rfl, rfl⟩ := hA
   rcases hc with ⟨h, _⟩ | ⟨a', bs', h, _, h2⟩
   ·cases h
   ·simp only [Option.some.injEq, Prod.mk.injEq] at h
    obtain ⟨rfl, rfl⟩ := h
    exact h2.blk
 have hfar : ∀ o0 mt g sz rs g' a bs o' y g1 a' b', mkH H0 o0 = some (.rows mt g sz rs) → φ2 o0 = some (g', some (a, bs)) → h' o' = some y → φ o' = some (g1, some (a', b')) →
   (mt = true ∨ ∃ g sz rs, y = .rows true g sz rs) → a.block ≠ a'.block := by
  intro o0 mt g sz rs g' a bs o' y g1 a' b' q1 q2 q3 q4 hm
  have hb' := hblk _ _ _ _ _ q3 q4
  rcases hm with rfl | ⟨g2, sz2, rs2, rfl⟩
  ·have := hnew a.block ⟨o0, g, sz, rs, _, a, bs, q1, q2, rfl⟩
   omega
  ·intro he
   obtain ⟨A, hA, hc⟩ := hH3.obj _ _ _ _ _ q1
   rw [q2] at hA
   simp only [Option.some.injEq, Prod.mk.injEq] at hA
   obtain ⟨_, rfl⟩ := hA
   rcases hc with ⟨h, _⟩ | ⟨a1, bs1, h, hn0, _⟩
   ·cases h
   ·simp only [Option.some.injEq, Prod.mk.injEq] at h
    obtain ⟨rfl, rfl⟩ := h
    exact hn0 (.inr ⟨o', g2, sz2, rs2, _, a', b', q3, q4, he.symm⟩)
 refine ⟨v, φ3, R, zdM HH h', n + k2, rfl, hk, ⟨fun k hk => Nat.lt_of_lt_of_le (hH.m0 k hk) st.fr.size, fun o ho => ?_, fun o mt g sz rs ho => ?_, fun o o' mt g sz rs mt' g' sz' rs' a a' b b' ho ho' hne hm hp hp' => ?_, hH'.glob.keep (fun k _ hk => hheap k hk) hsub'⟩,
  hR.rel (fun o x h => (e3 o).trans h) hsub hx3, st0.trans ⟨hle3, hsub', ⟨st.fr.os, st.fr.tape, st.fr.output, st.fr.drawn, st.fr.size, fun k hk _ => hheap k hk⟩, fun k hk => (hmut k hk).elim (fun h => .inr (hnew k h)) .inl⟩⟩
 ·obtain ⟨d, rfl⟩ := Nat.exists_eq_add_of_le (show n ≤ o by omega)
  rw [e3]; exact hH3.fresh d (by omega)
 ·rcases hsrc o _ ho with ⟨o0, x, rfl, h1, h2⟩ | ⟨h1, h2⟩
  ·cases h2 with
   | rows hs =>
    obtain ⟨A, hA, hc⟩ := hH3.obj _ _ _ _ _ h1
    refine ⟨A, by rw [e3]; exact hA, hc.imp (fun h => ⟨h.1, ?_⟩) ?_⟩
    ·obtain ⟨_, rfl⟩ := h
     exact List.eq_nil_of_length_eq_zero hs.shape.1
    ·rintro ⟨a, bs, c1, c3, hd⟩
     exact ⟨a, bs, c1, fun hk => c3 (.inl hk), hd.turn rfl hs.shape.1 (hs.shape.2 sz) (fun c9 => hs.rel (fun o x h => (e3 o).trans h) hsub c9)⟩
  ·obtain ⟨A, hA, hc⟩ := hH'.obj _ _ _ _ _ h2
   refine ⟨A, by rw [e3' o h1]; exact hA, hc.imp id ?_⟩
   rintro ⟨a, bs, c1, c3, hd⟩
   exact ⟨a, bs, c1, c3, hd.keep (hheap _ hd.blk) (fun c9 => c9.keep hle3 (fun k _ hk => hheap k hk) hsub')⟩
 ·rcases hsrc o _ ho with ⟨o0, x, rfl, q1, q2⟩ | ⟨q1, q2⟩ <;> rcases hsrc o' _ ho' with ⟨o0', x', rfl, q1', q2'⟩ | ⟨q1', q2'⟩
  ·cases q2; cases q2'
   rw [e3] at hp hp'
   exact hH3.inj _ _ _ _ _ _ _ _ _ _ _ _ _ _ q1 q1' (by omega) hm hp hp'
  ·cases q2
   rw [e3] at hp; rw [e3' o' q1'] at hp'
   exact hfar _ _ _ _ _ _ _ _ _ _ _ _ _ q1 hp q2' hp' (hm.imp id fun h => by subst h; exact ⟨_, _, _, rfl⟩)
  ·cases q2'
   rw [e3' o q1] at hp; rw [e3] at hp'
   exact Ne.symm (hfar _ _ _ _ _ _ _ _ _ _ _ _ _ q1' hp' q2 hp (hm.symm.imp id fun h => by subst h; exact ⟨_, _, _, rfl⟩))
  ·rw [e3' o q1] at hp; rw [e3' o' q1'] at hp'
   exact hH'.inj _ _ _ _ _ _ _ _ _ _ _ _ _ _ q2 q2' hne hm hp hp'

theorem zBM {P : Program} {f : FuncId} {args args' : List AV} {h : zan} {n k2 : Nat} {K K' : zco} {R0 R : AV} {H0 HH : List (Nat × zbi)} (hp : zaa P f args' noH 0 K')
  (hk' : ∀ r h1 n', K' r h1 n' → Wk (fun _ => r) h1 n' [(0, R0)] H0 k2) (hR : Sh n R0 R) (hHH : ShH n H0 HH) (hnR : zfn R0) (hnH : ∀ p ∈ H0, znR p.2) (hle : zam h noH n args args') (hb : ∀ c ∈ args', Bel 0 c)
  (hk : K R (zdM HH h) (n + k2)) : zaa P f args h n K := by
 refine ⟨hp.1, fun M0 φ w vs hH hargs => ?_⟩
 have hv := zbW (h' := noH) hH (fun o g sz rs ho => by cases ho) hle hb hargs
 have hM1 : ∀ k, Or M0 (Mut noP noH) k → M0 k := fun k hk => hk.elim id fun h => (zaI h).elim
 have hM2 : ∀ k, Or M0 (Mut φ noH) k → M0 k := fun k hk => hk.elim id fun h => (zaI h).elim
 have hH1 : zgX noP 0 w M0 noH := zhh (fun k hk => hH.m0 k hk) (hH.glob.keep (fun _ _ _ => rfl) (fun k hk => .inl (.inl hk)))
 refine (hp.2 _ noP w vs hH1 (hv.keep noP.le_refl (fun _ _ _ => rfl) (fun k hk => .inl (.inl (hM1 k hk))))).mono ?_
 rintro e w' ⟨v, φ1, r, h1, n', rfl, hK, hH2, hx, st⟩
 obtain ⟨φ2, hH3, hx3, hm3, _⟩ := (hk' _ _ _ hK).sound hH2 (tmps := fun _ => v) (fun _ => hx)
 have hnw : ∀ k, Mut φ2 (mkH H0) k → w.heap.size ≤ k := fun k hk => (st.mutd k (hm3 k hk)).elim (fun h => (zaI h).elim) id
 have hold : ∀ k, Mut φ h k → k < w.heap.size := fun k hk => hH.blk (.inr hk)
 replace hH3 : zgX φ2 k2 w' (Or M0 (Mut φ h)) (mkH H0) := hH3.widen (N := w.heap.size) (fun o x ho => hnH _ (zd9 ho)) hnw hold st.fr.size
  (hH.glob.keep (fun k _ hk => st.fr.block k hk zaI) (fun k hk => hk.imp id (hnw k)))
 have hmt : ∀ o g sz rs, h o = some (.rows true g sz rs) → h o = some (.rows true g sz rs) := fun _ _ _ _ h => h
 have hH' := hH
 have st0 : zcJ φ w M0 h φ w h := ⟨φ.le_refl, fun k hk => .inl hk, Fr.refl _ _, fun k hk => .inl hk⟩
 replace hx3 : ∀ i, Rel φ2 w' (Or (Or M0 (Mut φ h)) (Mut φ2 (mkH H0))) (mkE [(0, R0)] i) v := fun i => by
  have := hx3 i
  simp only [mkE, upd] at this ⊢
  split
  ·rename_i hi
   rw [if_pos hi] at this
   exact hnR.rel this
  ·exact .top _
 have hx3 := hx3 0
 simp only [mkE, zau] at hx3
 have hheap : ∀ k, k < w.heap.size → w'.heap[k]? = w.heap[k]? := fun k hk => st.fr.block k hk zaI
 let φ3 : zas := fun o => if o < n then φ o else φ2 (o - n)
 have e3 : ∀ o, φ3 (n + o) = φ2 o := fun o => by simp only [φ3]; rw [if_neg (by omega)]; congr 1; omega
 have e3' : ∀ o, o < n → φ3 o = φ o := fun o ho => if_pos ho
 have hlt : ∀ o x, φ o = some x → o < n := fun o x ho => Nat.lt_of_not_le fun hle => by rw [hH.fresh o hle] at ho; cases ho
 have hle3 : φ.le φ3 := fun o x ho => ⟨x, by rw [e3' o (hlt o x ho)]; exact ho, Nat.le_refl _, fun _ => rfl⟩
 have hsrc : ∀ o y, zdM HH h o = some y → (∃ o0 x, o = n + o0 ∧ mkH H0 o0 = some x ∧ ShO n x y) ∨ (o < n ∧ h o = some y) := by
  intro o x ho
  rw [zgO] at ho
  split at ho
  ·rename_i y hy
   cases ho
   exact .inl (hHH.at hy)
  ·cases x with
   | rows mt g sz rs =>
    obtain ⟨A, hA, _⟩ := hH'.obj _ _ _ _ _ ho
    exact .inr ⟨hlt _ _ hA, ho⟩
 have hmut : ∀ k, Mut φ3 (zdM HH h) k → Mut φ2 (mkH H0) k ∨ Mut φ h k := by
  rintro k ⟨o, g, sz, rs, g', a, bs, ho, hp, rfl⟩
  rcases hsrc o _ ho with ⟨o0, x, rfl, h1, h2⟩ | ⟨h1, h2⟩
  ·cases h2 with
   | rows h2 => rw [e3] at hp; exact .inl ⟨o0, g, sz, _, g', a, bs, h1, hp, rfl⟩
  ·rw [e3' o h1] at hp; exact .inr ⟨o, g, sz, rs, g', a, bs, h2, hp, rfl⟩
 have hnew : ∀ k, Mut φ2 (mkH H0) k → w.heap.size ≤ k := fun k hk => (st.mutd k (hm3 k hk)).elim (fun h => (zaI h).elim) id
 have hsub : ∀ k, Or M0 (Mut φ3 (zdM HH h)) k → Or (Or M0 (Mut φ h)) (Mut φ2 (mkH H0)) k := fun k hk => hk.elim (fun h => .inl (.inl h)) fun h => (hmut k h).elim .inr fun h => .inl (.inr h)
 have hsub' : ∀ k, Or M0 (Mut φ3 (zdM HH h)) k → Or M0 (Mut φ h) k ∨ w.heap.size ≤ k := fun k hk => hk.elim (fun h => .inl (.inl h)) fun h => (hmut k h).elim (fun h => .inr (hnew k h)) fun h => .inl (.inr h)
 have hblk : ∀ o x g' a bs, h o = some x → φ o = some (g', some (a, bs)) → a.block < w.heap.size := by
  intro o x g' a bs ho hp
  cases x with
  | rows mt g sz rs =>
   obtain ⟨A, hA, hc⟩ := hH'.obj _ _ _ _ _ ho
   rw [hp] at hA
   simp only [Option.some.injEq, Prod.mk.injEq] at hA
   obtain ⟨rfl, rfl⟩ := hA
   rcases hc with ⟨h, _⟩ | ⟨a', bs', h, _, h2⟩
   ·cases h
   ·simp only [Option.some.injEq, Prod.mk.injEq] at h
    obtain ⟨rfl, rfl⟩ := h
    exact h2.blk
 have hfar : ∀ o0 mt g sz rs g' a bs o' y g1 a' b', mkH H0 o0 = some (.rows mt g sz rs) → φ2 o0 = some (g', some (a, bs)) → h o' = some y → φ o' = some (g1, some (a', b')) →
   (mt = true ∨ ∃ g sz rs, y = .rows true g sz rs) → a.block ≠ a'.block := by
  intro o0 mt g sz rs g' a bs o' y g1 a' b' q1 q2 q3 q4 hm
  have hb' := hblk _ _ _ _ _ q3 q4
  rcases hm with rfl | ⟨g2, sz2, rs2, rfl⟩
  ·have := hnew a.block ⟨o0, g, sz, rs, _, a, bs, q1, q2, rfl⟩
   omega
  ·intro he
   obtain ⟨A, hA, hc⟩ := hH3.obj _ _ _ _ _ q1
   rw [q2] at hA
   simp only [Option.some.injEq, Prod.mk.injEq] at hA
   obtain ⟨_, rfl⟩ := hA
   rcases hc with ⟨h, _⟩ | ⟨a1, bs1, h, hn0, _⟩
   ·cases h
   ·simp only [Option.some.injEq, Prod.mk.injEq] at h
    obtain ⟨rfl, rfl⟩ := h
    exact hn0 (.inr ⟨o', g2, sz2, rs2, _, a', b', q3, q4, he.symm⟩)
 refine ⟨v, φ3, R, zdM HH h, n + k2, rfl, hk, ⟨fun k hk => Nat.lt_of_lt_of_le (hH.m0 k hk) st.fr.size, fun o ho => ?_, fun o mt g sz rs ho => ?_, fun o o' mt g sz rs mt' g' sz' rs' a a' b b' ho ho' hne hm hp hp' => ?_, hH'.glob.keep (fun k _ hk => hheap k hk) hsub'⟩,
  hR.rel (fun o x h => (e3 o).trans h) hsub hx3, st0.trans ⟨hle3, hsub', ⟨st.fr.os, st.fr.tape, st.fr.output, st.fr.drawn, st.fr.size, fun k hk _ => hheap k hk⟩, fun k hk => (hmut k hk).elim (fun h => .inr (hnew k h)) .inl⟩⟩
 ·obtain ⟨d, rfl⟩ := Nat.exists_eq_add_of_le (show n ≤ o by omega)
  rw [e3]; exact hH3.fresh d (by omega)
 ·rcases hsrc o _ ho with ⟨o0, x, rfl, h1, h2⟩ | ⟨h1, h2⟩
  ·cases h2 with
   | rows hs =>
    obtain ⟨A, hA, hc⟩ := hH3.obj _ _ _ _ _ h1
    refine ⟨A, by rw [e3]; exact hA, hc.imp (fun h => ⟨h.1, ?_⟩) ?_⟩
    ·obtain ⟨_, rfl⟩ := h
     exact List.eq_nil_of_length_eq_zero hs.shape.1
    ·rintro ⟨a, bs, c1, c3, hd⟩
     exact ⟨a, bs, c1, fun hk => c3 (.inl hk), hd.turn rfl hs.shape.1 (hs.shape.2 sz) (fun c9 => hs.rel (fun o x h => (e3 o).trans h) hsub c9)⟩
  ·obtain ⟨A, hA, hc⟩ := hH'.obj _ _ _ _ _ h2
   refine ⟨A, by rw [e3' o h1]; exact hA, hc.imp id ?_⟩
   rintro ⟨a, bs, c1, c3, hd⟩
   exact ⟨a, bs, c1, c3, hd.keep (hheap _ hd.blk) (fun c9 => c9.keep hle3 (fun k _ hk => hheap k hk) hsub')⟩
 ·rcases hsrc o _ ho with ⟨o0, x, rfl, q1, q2⟩ | ⟨q1, q2⟩ <;> rcases hsrc o' _ ho' with ⟨o0', x', rfl, q1', q2'⟩ | ⟨q1', q2'⟩
  ·cases q2; cases q2'
   rw [e3] at hp hp'
   exact hH3.inj _ _ _ _ _ _ _ _ _ _ _ _ _ _ q1 q1' (by omega) hm hp hp'
  ·cases q2
   rw [e3] at hp; rw [e3' o' q1'] at hp'
   exact hfar _ _ _ _ _ _ _ _ _ _ _ _ _ q1 hp q2' hp' (hm.imp id fun h => by subst h; exact ⟨_, _, _, rfl⟩)
  ·cases q2'
   rw [e3' o q1] at hp; rw [e3] at hp'
   exact Ne.symm (hfar _ _ _ _ _ _ _ _ _ _ _ _ _ q1' hp' q2 hp (hm.symm.imp id fun h => by subst h; exact ⟨_, _, _, rfl⟩))
  ·rw [e3' o q1] at hp; rw [e3' o' q1'] at hp'
   exact hH'.inj _ _ _ _ _ _ _ _ _ _ _ _ _ _ q2 q2' hne hm hp hp'

def zlt (P : Program) (f : FuncId) (args : List AV) (R : Nat → AV) (HH : Nat → List (Nat × zbi)) (k : Nat) : Prop :=
 zaa P f args noH 0 (fun r h n' => Wk (fun _ => r) h n' [(0, R 0)] (HH 0) k) ∧ ∀ n, Sh n (R 0) (R n) ∧ ShH n (HH 0) (HH n)
theorem zBP {P : Program} {f : FuncId} {args args' : List AV} {h : zan} {n : Nat} {K : zco} {R : Nat → AV} {HH : Nat → List (Nat × zbi)} {k : Nat} (h' : zan) (hp : zlt P f args' R HH k)
  (hfz : Frz h h') (hle : zam h h' n args args') (hb : ∀ c ∈ args', Bel 0 c) (hk : K (R n) (zdM (HH n) h') (n + k)) : zaa P f args h n K :=
 zBN h' hp.1 (fun _ _ _ h => h) (hp.2 n).1 (hp.2 n).2 hfz hle hb hk
theorem zlt.pure {P : Program} {f : FuncId} {args : List AV} {R : Nat → AV} {HH : Nat → List (Nat × zbi)} {k : Nat} {r : AV} (hp : zlt P f args R HH k) (hle : LeV (mkH (HH 0)) noH k (R 0) r) (hb : Bel 0 r) : zaJ P f args r := by
 refine ⟨hp.1.1, fun M w vs hM hgl hargs => (hp.1.2 M noP w vs (zhh hM hgl) (hargs.keep noP.le_refl (fun _ _ _ => rfl) (fun k hk => hk.elim .inl fun h => (zaI h).elim))).mono ?_⟩
 rintro e w' ⟨v, φ', r', h', n', rfl, hk, hH, hx, st⟩
 obtain ⟨φ1, g1, g2, _, _⟩ := hk.sound hH (tmps := fun _ => v) (fun _ => hx)
 have g2 := g2 0
 simp only [mkE, zau] at g2
 have hk2 : Wk (fun _ => R 0) (mkH (HH 0)) k [(0, r)] [] 0 := ⟨fun p hp => by simp at hp; subst hp; exact ⟨hle, hb⟩, fun p hp => by cases hp⟩
 obtain ⟨φ'', h1, h2, h3, _⟩ := hk2.sound g1 (tmps := fun _ => v) (fun _ => g2)
 refine ⟨v, rfl, ?_, ?_⟩
 ·have := h2 0
  simp only [mkE, zau] at this
  refine this.keep (fun o x ho => ?_) (fun _ _ _ => rfl) (fun k hk => .inl (.inl hk))
  rw [h1.fresh o (Nat.zero_le _)] at ho; cases ho
 ·exact ⟨st.fr.os, st.fr.tape, st.fr.output, st.fr.drawn, st.fr.size, fun k hk _ => st.fr.block k hk zaI⟩
theorem zBq {P : Program} {f : FuncId} {args : List AV} {h : zan} {n : Nat} {K : zco} {R : Nat → AV} {HH : Nat → List (Nat × zbi)} {k : Nat} (hp : zlt P f args R HH k)
  (hb : ∀ c ∈ args, Bel 0 c) (hk : K (R n) (zdM (HH n) h) (n + k)) : zaa P f args h n K :=
 zBP h hp (.refl h) (.refl _ _ _ _) hb hk
theorem zBI {P : Program} {f : FuncId} {sz : Nat} {rows : List (List AV)} {xs : List AV} {h : zan} {n : Nat} {K : zco} (h1 : rows ≠ [] → zaa P f (.lst sz rows :: xs) h n K)
  (h2 : rows = [] → ∀ A c, zaa P f (.v (.slice A 0 c) :: xs) h n K) : zaa P f (.lst sz rows :: xs) h n K := by
 by_cases hr : rows = []
 ·refine ⟨(h2 hr none 0).1, fun M0 φ w vs hH hargs => ?_⟩
  cases hargs with
  | cons hx ht =>
   cases hx with
   | nil _ A c => exact (h2 hr A c).2 M0 φ w _ hH (.cons (.v _) ht)
   | @lst _ _ a len cap C T fz hs hM hb hrr hl hc hcap hv h =>
    have : len = 0 := by rw [hl, hr]; rfl
    subst this
    exact (h2 hr (some a) cap).2 M0 φ w _ hH (.cons (.v _) ht)
 ·exact h1 hr
theorem pF {P : Program} {f : FuncId} {fn : Func} {c : Code} {args : List AV} {r : AV} (hf : P.funcs[f]? = some fn) (hh : awp P 0 c (RetQ P fn.results.toList fun r' h' n' => LeV h' noH n' r' r ∧ Bel 0 r) (zrL 0 args) noH 0) (hmix : P.follows .mixedOrders = true := by kernel_rfl) (hb : fn.body = some c := by rfl) (hname : (fn.name == "runtime.NumGoroutine") = false := by rfl) (hN : args.length ≤ fn.ntmps := by exact Nat.le_of_ble_eq_true rfl) (hd : zor fn.ntmps c = true := by kernel_rfl) (hG : fn.ntmps ≤ GH := by exact Nat.le_of_ble_eq_true rfl) : zaJ P f args r := zaJ.of (zBm hmix hf hb hname hN hd hh hG)
end Go.Av
end
