/- Our library: ranges over functions: the state between rounds, and within one. -/
import Derived.Test.YtjajfalomchohaaGreatDoorAvD
import Derived.RangeFuncNested
import Derived.Scope
import Derived.RangeFuncLeaves
import Derived.RangeFuncRecord
set_option linter.unusedSimpArgs false
set_option linter.unusedVariables false
section
namespace Go.Av
open Go

def OcS (O0 : NSet) (l : Nat) (Oi : NSet) (w : World) : NSet := fun k => (O0 k ∨ k = l) ∨ (Oi k ∧ k < w.heap.size)
structure BndAt {P : Program} (B : Base P) (l base : Nat) (ds : List Deferred) (tmps : Array Value) (rc : Loop) (O0 M Oi : NSet) (w : World) (Mc : NSet) (φ : Place) (e : Env) (h : Heap) (n : Nat) : Prop where
 sub : ∀ k, (Mc k ∨ Mut φ h k) ∨ (k = l ∨ O0 k) → M k
 env : ∀ t, Rel φ w (Or (Or Mc (OcS O0 l Oi w)) (Mut φ h)) (e t) (tmps.getD t undef)
 heap : HRel φ n w (Or Mc (OcS O0 l Oi w)) h
 ok : B.ok0 (e GH) Mc (OcS O0 l Oi w) φ w h
 marks : Marks B.lo (Or Mc (OcS O0 l Oi w)) ds w
 obase : ∀ k, Oi k → base ≤ k
 size : base ≤ w.heap.size
 lrec : w.heap[l]? = some (.loop rc)
 ln : ¬ Mc l
def Bnd {P : Program} (B : Base P) (l base : Nat) (ds : List Deferred) (tmps : Array Value) (rc : Loop) (O0 : NSet) (K : Env → Heap → Nat → Prop) (M Oi : NSet) (w : World) : Prop :=
 ∃ Mc φ e h n, BndAt B l base ds tmps rc O0 M Oi w Mc φ e h n ∧ K e h n

section
variable {P : Program} {B : Base P} {l base : Nat} {ds : List Deferred} {tmps : Array Value} {rc : Loop} {O0 : NSet} {K : Env → Heap → Nat → Prop} {M Oi : NSet} {w w' : World}
theorem Bnd.oth {Oi' : NSet} (hl : l < base) (hb : Bnd B l base ds tmps rc O0 K M Oi w) (hfr : Fr w Oi w') (hO : ∀ k, Oi' k → Oi k ∨ w.heap.size ≤ k) : Bnd B l base ds tmps rc O0 K M Oi' w' := by
 obtain ⟨Mc, φ, e, h, n, ⟨h1, h2, h3, h4, h5, h6, h7, h8, h9⟩, hK⟩ := hb
 have hsz := hfr.size
 have hsub : ∀ k, OcS O0 l Oi' w' k → OcS O0 l Oi w k ∨ w.heap.size ≤ k := by
  rintro k (hk | ⟨hk, _⟩)
  ·exact .inl (.inl hk)
  ·by_cases hlt : k < w.heap.size
   ·exact (hO k hk).imp (fun h => .inr ⟨h, hlt⟩) id
   ·exact .inr (by omega)
 have hfr' : Fr w (OcS O0 l Oi w) w' := ⟨hfr.os, hfr.tape, hfr.output, hfr.drawn, hfr.size, fun k hk hn => hfr.block k hk fun ho => hn (.inr ⟨ho, hk⟩)⟩
 have g : Grow (Or Mc (OcS O0 l Oi w)) w (Or Mc (OcS O0 l Oi' w')) w' := by
  refine ⟨hsz, fun k hk hn => hfr'.block k hk fun h => hn (.inr h), fun k hk => hk.elim (fun h => .inl (.inl h)) fun h => (hsub k h).imp .inr id, fun k hk => ?_⟩
  rcases hk with hk | hk
  ·exact Nat.lt_of_lt_of_le (h3.m0 k (.inl hk)) hsz
  ·rcases hk with (hk | rfl) | ⟨_, hk⟩
   ·exact Nat.lt_of_lt_of_le (h3.m0 k (.inr (.inl (.inl hk)))) hsz
   ·omega
   ·exact hk
 refine ⟨Mc, φ, e, h, n, ⟨h1, fun t => g.rel (h2 t), g.hrel h3, B.oth0 h4 hfr' hsub, h5.grow g, fun k hk => (hO k hk).elim (h6 k) (fun h => by omega), by omega, ?_, h9⟩, hK⟩
 rw [hfr.block l (by omega) (fun h => by have := h6 l h; omega)]; exact h8
theorem Bnd.nc (hl : l < base) (hlo : B.lo ≤ base) (hd : ∀ d ∈ ds, ∃ D, d = { target := .collected D, args := #[] } ∧ D < base) (hb : Bnd B l base ds tmps rc O0 K M Oi w) (hn : NC base w w') : Bnd B l base ds tmps rc O0 K M Oi w' := by
 obtain ⟨Mc, φ, e, h, n, ⟨h1, h2, h3, h4, h5, h6, h7, h8, h9⟩, hK⟩ := hb
 have ho : OcS O0 l Oi w' = OcS O0 l Oi w := by unfold OcS; rw [hn.size]
 refine ⟨Mc, φ, e, h, n, ⟨h1, fun t => ?_, ?_, ?_, ?_, h6, by rw [hn.size]; exact h7, (hn.low l hl).trans h8, h9⟩, hK⟩
 ·rw [ho]; exact (h2 t).nc hn
 ·rw [ho]; exact h3.nc hn
 ·rw [ho]; exact B.nc0 h4 (hn.mono hlo)
 ·rw [ho]
  refine ⟨h5.1, fun d hdm => ?_⟩
  obtain ⟨D, e1, e2, e3, e4⟩ := h5.2 d hdm
  obtain ⟨D', k1, k2⟩ := hd d hdm
  have : D = D' := by rw [e1] at k1; simpa using k1
  subst this
  exact ⟨D, e1, e2, e3, (hn.low D k2).trans e4⟩
theorem Bnd.fgt (hb : Bnd B l base ds tmps rc O0 (Fgt B.n0 K) M Oi w) : Bnd B l base ds tmps rc O0 K M Oi w := by
 obtain ⟨Mc, φ, e, h, n, hB, hK | ⟨E, HH, n', hk, hn, hK⟩⟩ := hb
 ·exact ⟨Mc, φ, e, h, n, hB, hK⟩
 ·obtain ⟨φ', g1, g2, g3, g4⟩ := hk.sound hB.heap hB.env
  refine ⟨Mc, φ', _, _, n', ⟨fun k hk => hB.sub k (hk.imp (fun h => h.imp id (g3 k)) id), g2, g1, B.forget0 hB.ok ?_ g3 g4 hn, hB.marks, hB.obase, hB.size, hB.lrec, hB.ln⟩, hK⟩
  rcases mkE_mem (E := E) GH with h5 | h5
  ·exact .inr h5
  ·have h6 := (hk.env _ h5).1
   simp only at h6
   generalize mkE E GH = y at h6
   rcases B.isG0 hB.ok with h7 | ⟨x, h7⟩
   ·rw [h7] at h6 ⊢
    cases h6 <;> simp
   ·rw [h7] at h6 ⊢
    cases h6 <;> simp
end

def RB {P : Program} (B : Base P) (l : Nat) (rc : Loop) (w2 : World) (E1 Oc : NSet) (φ2 : Place) (e2 : Env) (M2 : NSet) (tmps : Array Value) (n2 : Nat) (hl : l < w2.heap.size) (hlo : B.lo ≤ w2.heap.size) (hn0 : B.n0 ≤ n2)
  (hfresh : ∀ o, n2 ≤ o → φ2 o = none) (henv : ∀ t, Rel φ2 w2 M2 (e2 t) (tmps.getD t undef)) : Base P where
 n0 := n2
 lo := w2.heap.size
 round := some l
 ok0 g M O φ w h := ∃ Mc, M = Or Mc Oc ∧ B.ok0 g Mc (Or Oc O) φ w h ∧ (∀ t, Rel φ w (Or (Or M O) (Mut φ h)) (e2 t) (tmps.getD t undef)) ∧ (∀ o x, φ2 o = some x → ∃ x', φ o = some x') ∧
  w2.heap.size ≤ w.heap.size ∧ (∀ k, k < w2.heap.size → ¬ E1 k → w.heap[k]? = w2.heap[k]?) ∧ (∀ k, Mc k → E1 k ∨ w2.heap.size ≤ k) ∧ (∀ k, Mut φ h k → E1 k ∨ w2.heap.size ≤ k) ∧ (∀ k, O k → w2.heap.size ≤ k) ∧
  ¬ Mc l ∧ ¬ Mut φ h l ∧ w.heap[l]? = some (.loop rc)
 isG0 := by
  rintro g M O φ w h ⟨Mc, _, h1, _⟩; exact B.isG0 h1
 step0 := by
  rintro g M O φ w h φ' w' h' ⟨Mc, rfl, h1, h2, h3, h4, h5, h6, h7, h8, h9, h10, h11⟩ st
  have hsz := st.fr.size
  have hlw : l < w.heap.size := by omega
  refine ⟨Mc, rfl, B.step0 h1 st.anyM, fun t => (st.anyM (M' := Or (Or Mc Oc) O)).rel (h2 t), fun o x ho => ?_, by omega, fun k hk hn => (st.fr.block k (by omega) fun hm => (h7 k hm).elim hn (fun h => by omega)).trans (h5 k hk hn), h6,
   fun k hk => (st.mutd k hk).elim (h7 k) (fun h => .inr (by omega)), h8, h9, fun hk => (st.mutd l hk).elim h10 (fun h => by omega), (st.fr.block l hlw h10).trans h11⟩
  obtain ⟨x', hx'⟩ := h3 o x ho
  obtain ⟨x'', hx'', _⟩ := st.le o x' hx'
  exact ⟨x'', hx''⟩
 forget0 := by
  rintro g g' M O φ w h φ' h' n' ⟨Mc, rfl, h1, h2, h3, h4, h5, h6, h7, h8, h9, h10, h11⟩ hg hm hφ hn
  have hlt : ∀ o x, φ2 o = some x → o < n' := fun o x ho => Nat.lt_of_lt_of_le (Nat.lt_of_not_le fun hle => by rw [hfresh o hle] at ho; cases ho) hn
  refine ⟨Mc, rfl, B.forget0 h1 hg hm hφ (Nat.le_trans hn0 hn), fun t => ?_, fun o x ho => ?_, h4, h5, h6, fun k hk => h7 k (hm k hk), h8, h9, fun hk => h10 (hm l hk), h11⟩
  ·refine ((h2 t).cut2 (φ := φ2) (φ'' := φ') (w := w2) (M := M2) (fun o x ho => ?_) (henv t)).lessM fun k hk => hk.imp id (hm k)
   obtain ⟨x', hx'⟩ := h3 o x ho
   rw [hx']; exact hφ o x' (hlt o x ho) hx'
  ·obtain ⟨x', hx'⟩ := h3 o x ho
   exact ⟨x', hφ o x' (hlt o x ho) hx'⟩
 yld0 := by
  rintro r m l' more xs rest M O φ w h n vs ⟨Mc, rfl, h1, h2, h3, h4, h5, h6, h7, h8, h9, h10, h11⟩ hH hr
  have hH' : HRel φ n w (Or Mc (Or Oc O)) h := by rw [← or_assoc0]; exact hH
  obtain ⟨fn, tm, asg, body, k1, k2⟩ := B.yld0 (r := r) (m := m) h1 hH' (by rw [← or_assoc0]; exact hr)
  refine ⟨fn, tm, asg, body, k1, k2.mono ?_⟩
  rintro e w' ⟨b, M', e1, g, hk⟩
  have hsz := g.size
  have hlw : l < w.heap.size := by omega
  have gO : Grow (Or Mc Oc) w (Or M' Oc) w' := g.add fun k hk => hH.m0 k (.inl (.inr hk))
  have gOO : Grow (Or (Or Mc Oc) O) w (Or (Or M' Oc) O) w' := gO.add fun k hk => hH.m0 k (.inr hk)
  exact ⟨b, Or M' Oc, e1, gO, M', rfl, hk, fun t => gOO.rel (h2 t), h3, by omega, fun k hk hn => (g.keep k (by omega) fun hm => (h6 k hm).elim hn (fun h => by omega)).trans (h5 k hk hn),
   fun k hk => (g.new k hk).elim (h6 k) (fun h => .inr (by omega)), h7, h8, fun hk => (g.new l hk).elim h9 (fun h => by omega), h10, (g.keep l hlw h9).trans h11⟩
 exh0 := by
  rintro l' M O φ w h ⟨Mc, _, h1, _⟩; exact B.exh0 h1
 oth0 := by
  rintro g M O O' φ w w' h ⟨Mc, rfl, h1, h2, h3, h4, h5, h6, h7, h8, h9, h10, h11⟩ hfr hO
  have hsz := hfr.size
  refine ⟨Mc, rfl, B.oth0 h1 (hfr.more fun k hk => .inr hk) (fun k hk => hk.elim (fun h => .inl (.inl h)) fun h => (hO k h).imp .inr id), fun t => ?_, h3, by omega,
   fun k hk hn => (hfr.block k (by omega) fun ho => by have := h8 k ho; omega).trans (h5 k hk hn), h6, h7, fun k hk => (hO k hk).elim (h8 k) (fun h => by omega), h9, h10,
   (hfr.block l (by omega) fun ho => by have := h8 l ho; omega).trans h11⟩
  refine (h2 t).keep φ.le_refl (fun k hn hk => hfr.block k hk fun ho => hn (.inl (.inr ho))) fun k hk => ?_
  rcases hk with (hk | hk) | hk
  ·exact .inl (.inl (.inl hk))
  ·exact (hO k hk).imp (fun h => .inl (.inr h)) id
  ·exact .inl (.inr hk)
 nc0 := by
  rintro g M O φ w w' h ⟨Mc, rfl, h1, h2, h3, h4, h5, h6, h7, h8, h9, h10, h11⟩ hn
  exact ⟨Mc, rfl, B.nc0 h1 (hn.mono hlo), fun t => (h2 t).nc hn, h3, by rw [hn.size]; exact h4, fun k hk hne => (hn.low k hk).trans (h5 k hk hne), h6, h7, h8, h9, h10, (hn.low l hl).trans h11⟩
 lo0 := by
  rintro g M O φ w h ⟨Mc, _, _, _, _, h4, _⟩; exact h4
 rec0 := by
  rintro g M O φ w h l' ⟨Mc, _, _, _, _, _, _, _, _, _, _, _, h11⟩ hl'
  simp only [Option.some.injEq] at hl'
  subst hl'
  exact ⟨rc, h11⟩

theorem grow_putObj {M : NSet} {w : World} {l : Nat} (o : Obj) (hl : M l) (hM : ∀ k, M k → k < w.heap.size) : Grow M w M (w.putObj l o) :=
 ⟨by simp, fun k _ hn => World.putObj_heap_other (fun e => hn (e ▸ hl)), fun k hk => .inl hk, fun k hk => by simpa using hM k hk⟩
theorem fr_putObj {O : NSet} {w : World} {l : Nat} (o : Obj) (hl : O l) : Fr w O (w.putObj l o) :=
 ⟨rfl, rfl, rfl, Nat.le_refl _, by simp, fun k _ hn => World.putObj_heap_other (fun e => hn (e ▸ hl))⟩

theorem putPs_rel {φ : Place} {w : World} {M : NSet} : ∀ {ps : List Tmp} {xs : List AV} {vs : List Value} {e : Env} {tm : Array Value}, RelL φ w M xs vs → (∀ p ∈ ps, p < tm.size) → (∀ t, Rel φ w M (e t) (tm.getD t undef)) →
  ∀ t, Rel φ w M (putPs ps xs e t) (((ps.zip vs).foldl (fun tm p => tm.setIfInBounds p.1 p.2) tm).getD t undef)
 | [], _, _, _, _, _, _, he => by simpa [putPs] using he
 | p :: ps, _, _, _, _, .nil, _, he => by simpa [putPs] using he
 | p :: ps, x :: xs, v :: vs, e, tm, .cons h1 h2, hp, he => by
  have hp1 := hp p (by simp)
  simp only [putPs, List.zip_cons_cons, List.foldl_cons]
  refine putPs_rel h2 (fun q hq => by simpa using hp q (by simp [hq])) fun t => ?_
  simp only [upd]
  by_cases ht : t = p
  ·subst ht
   rw [if_pos rfl]
   simpa [Array.getD_eq_getD_getElem?, hp1] using h1
  ·rw [if_neg ht]
   have : (tm.setIfInBounds p v).getD t undef = tm.getD t undef := by
    simp [Array.getD_eq_getD_getElem?, Array.getElem?_setIfInBounds, Ne.symm ht]
   rw [this]; exact he t
theorem putPs_at {k : Nat} : ∀ {ps : List Tmp} {xs : List AV} {e : Env}, (∀ p ∈ ps, p ≠ k) → putPs ps xs e k = e k
 | [], _, _, _ => by simp [putPs]
 | p :: ps, [], _, _ => by simp [putPs]
 | p :: ps, x :: xs, e, hp => by
  simp only [putPs]
  rw [putPs_at fun q hq => hp q (by simp [hq])]
  exact upd_ne _ _ (Ne.symm (hp p (by simp)))
theorem fold_size : ∀ {l : List (Tmp × Value)} {tm : Array Value}, (l.foldl (fun tm p => tm.setIfInBounds p.1 p.2) tm).size = tm.size
 | [], _ => rfl
 | p :: l, tm => by rw [List.foldl_cons, fold_size]; simp

section
variable {P : Program} {B : Base P} {l : Nat} {rc rc' : Loop} {w2 : World} {E1 Oc : NSet} {φ2 : Place} {e2 : Env} {M2 : NSet} {tmps : Array Value} {n2 : Nat} {hl : l < w2.heap.size} {hlo : B.lo ≤ w2.heap.size} {hn0 : B.n0 ≤ n2}
  {hfresh : ∀ o, n2 ≤ o → φ2 o = none} {henv : ∀ t, Rel φ2 w2 M2 (e2 t) (tmps.getD t undef)}
theorem RB.turn {N : Nat} {M : NSet} {φ : Place} {e : Env} {h : Heap} {n : Nat} {a : Act} {w : World} (hOl : Oc l) (hs : SR (RB B l rc w2 E1 Oc φ2 e2 M2 tmps n2 hl hlo hn0 hfresh henv) N M φ e h n a w) (hE : E1 l) :
  w.heap[l]? = some (.loop rc) ∧ SR (RB B l rc' w2 E1 Oc φ2 e2 M2 tmps n2 hl hlo hn0 hfresh henv) N M φ e h n a (w.putObj l (.loop rc')) := by
 obtain ⟨M', O, rfl, Mc, rfl, h1, h2, h3, h4, h5, h6, h7, h8, h9, h10, h11⟩ := hs.ok
 have hlw := (Array.getElem?_eq_some_iff.1 h11).1
 have g : Grow (Or (Or Mc Oc) O) w (Or (Or Mc Oc) O) (w.putObj l (.loop rc')) := grow_putObj _ (.inl (.inr hOl)) hs.heap.m0
 refine ⟨h11, fun t => g.rel (hs.env t), hs.size, ⟨hs.defs.1, fun d hd => ?_⟩, g.hrel hs.heap,
  ⟨_, O, rfl, Mc, rfl, B.oth0 h1 (fr_putObj _ (.inl hOl)) (fun k hk => .inl hk), fun t => g.rel (h2 t), h3, by simpa using h4, fun k hk hn => (World.putObj_heap_other (fun e => hn (by rw [e]; exact hE))).trans (h5 k hk hn), h6, h7, h8, h9, h10, World.putObj_heap_same hlw⟩, hs.small⟩
 obtain ⟨D, k1, k2, k3, k4⟩ := hs.defs.2 d hd
 exact ⟨D, k1, k2, k3, (World.putObj_heap_other (fun e => k3 (by rw [e]; exact .inl (.inr hOl)))).trans k4⟩
end

theorem round_start {P : Program} {B : Base P} {l base : Nat} {ds : List Deferred} {tmps : Array Value} {rc : Loop} {O0 M Oi : NSet} {w2 : World} {Mc : NSet} {φ2 : Place} {e2 : Env} {h2 : Heap} {n2 : Nat}
  (hB : BndAt B l base ds tmps rc O0 M Oi w2 Mc φ2 e2 h2 n2) (hl : l < w2.heap.size) (hlo : B.lo ≤ w2.heap.size) (hn0 : B.n0 ≤ n2) (hO : ∀ k, Oi k → k < w2.heap.size) {N : Nat} (hsz : tmps.size = N) (hN : N ≤ GH)
  {ps : List Tmp} (hps : ∀ p ∈ ps, p < N) {xs : List AV} {vs : List Value} (hr : RelL noP w2 (Or M Oi) xs vs) :
  SR (RB B l rc w2 (fun k => (Mc k ∨ Mut φ2 h2 k) ∨ k = l) (OcS O0 l Oi w2) φ2 e2 (Or (Or Mc (OcS O0 l Oi w2)) (Mut φ2 h2)) tmps n2 hl hlo hn0 hB.heap.fresh hB.env) N (Or Mc (OcS O0 l Oi w2)) φ2 (putPs ps xs e2) h2 n2
   { tmps := (ps.zip vs).foldl (fun tm p => tm.setIfInBounds p.1 p.2) tmps, defers := [] } w2 := by
 have hGH : putPs ps xs e2 GH = e2 GH := putPs_at fun p hp => Nat.ne_of_lt (Nat.lt_of_lt_of_le (hps p hp) hN)
 have hxs : RelL φ2 w2 (Or (Or Mc (OcS O0 l Oi w2)) (Mut φ2 h2)) xs vs := by
  refine hr.keep (fun o x ho => by cases ho) (fun _ _ _ => rfl) fun k hk => .inl ?_
  rcases hk with (hk | (hk | hk) | hk) | hk
  ·exact .inl (hB.sub k (.inl (.inl hk)))
  ·exact .inl (hB.sub k (.inr (.inr hk)))
  ·exact .inl (hB.sub k (.inr (.inl hk)))
  ·exact .inr hk.1
  ·exact .inl (hB.sub k (.inl (.inr hk)))
 refine ⟨putPs_rel hxs (fun p hp => by rw [hsz]; exact hps p hp) hB.env, by rw [← hsz]; exact fold_size, Marks.nil, hB.heap, ?_, hN⟩
 refine ⟨_, fun _ => False, (or_false0 _).symm, Mc, rfl, ?_, fun t => ?_, fun o x ho => ⟨x, ho⟩, Nat.le_refl _, fun _ _ _ => rfl, fun k hk => .inl (.inl (.inl hk)), fun k hk => .inl (.inl (.inr hk)), fun _ h => h.elim, hB.ln, ?_, hB.lrec⟩
 ·rw [hGH, or_false0]; exact hB.ok
 ·rw [or_false0]; exact hB.env t
 ·intro hm
  obtain ⟨_, ⟨C, T, fz, hc⟩ | ⟨es, clk, hc⟩⟩ := hB.heap.mut_cells hm <;> (rw [hB.lrec] at hc; cases hc)

theorem round_end {P : Program} {B : Base P} {l base : Nat} {ds : List Deferred} {tmps : Array Value} {rc rb rc' : Loop} {O0 M Oi : NSet} {w2 : World} {Mc : NSet} {φ2 : Place} {e2 : Env} {h2 : Heap} {n2 : Nat}
  (hB : BndAt B l base ds tmps rc O0 M Oi w2 Mc φ2 e2 h2 n2) {hl : l < w2.heap.size} {hlo : B.lo ≤ w2.heap.size} {hn0 : B.n0 ≤ n2} (hO : ∀ k, Oi k → k < w2.heap.size) {N : Nat} (hsz : tmps.size = N)
  {M4 : NSet} {φ4 : Place} {e4 : Env} {h4 : Heap} {n4 : Nat} {a4 : Act} {w4 : World}
  (hs : SR (RB B l rb w2 (fun k => (Mc k ∨ Mut φ2 h2 k) ∨ k = l) (OcS O0 l Oi w2) φ2 e2 (Or (Or Mc (OcS O0 l Oi w2)) (Mut φ2 h2)) tmps n2 hl hlo hn0 hB.heap.fresh hB.env) N M4 φ4 e4 h4 n4 a4 w4) :
  w4.heap[l]? = some (.loop rb) ∧ ∃ M' Mc4, Grow M w2 M' (w4.putObj l (.loop rc')) ∧ BndAt B l base ds tmps rc' O0 M' Oi (w4.putObj l (.loop rc')) Mc4 φ4 (upd e2 GH (e4 GH)) h4 n4 := by
 obtain ⟨h0, hs⟩ := RB.turn (rc' := rc') (.inl (.inr rfl)) hs (.inr rfl)
 refine ⟨h0, ?_⟩
 generalize w4.putObj l (.loop rc') = w5 at hs ⊢
 obtain ⟨M5, O, rfl, Mc4, rfl, k1, k2, k3, k4, k5, k6, k7, k8, k9, k10, k11⟩ := hs.ok
 have hOc : OcS O0 l Oi w5 = OcS O0 l Oi w2 := funext fun k => propext ⟨fun h => h.imp id fun h => ⟨h.1, hO k h.1⟩, fun h => h.imp id fun h => ⟨h.1, by have := hO k h.1; omega⟩⟩
 have hsub : ∀ k, Or Mc4 (OcS O0 l Oi w2) k → Or (Or Mc4 (OcS O0 l Oi w2)) O k := fun k hk => .inl hk
 refine ⟨fun k => (Mc4 k ∨ Mut φ4 h4 k) ∨ (k = l ∨ O0 k), Mc4, ⟨k4, fun k hk hn => k5 k hk fun h => hn (hB.sub k ?_), fun k hk => ?_, fun k hk => ?_⟩, ⟨fun k hk => hk, fun t => ?_, ?_, ?_, ⟨hB.marks.1, fun d hd => ?_⟩, hB.obase, by have := hB.size; omega, k11, k9⟩⟩
 ·exact h.imp id .inl
 ·have hE : ∀ k, (Mc k ∨ Mut φ2 h2 k) ∨ k = l → M k := fun k hk => hB.sub k (hk.imp id .inl)
  rcases hk with (hk | hk) | (hk | hk)
  ·exact (k6 k hk).imp (hE k) id
  ·exact (k7 k hk).imp (hE k) id
  ·exact .inl (hB.sub k (.inr (.inl hk)))
  ·exact .inl (hB.sub k (.inr (.inr hk)))
 ·rcases hk with (hk | hk) | (hk | hk)
  ·exact hs.heap.m0 k (.inl (.inl hk))
  ·exact hs.heap.blk (.inr hk)
  ·rw [hk]; omega
  ·exact hs.heap.m0 k (.inl (.inr (.inl (.inl hk))))
 ·rw [hOc]
  by_cases ht : t = GH
  ·subst ht
   rw [upd_same]
   have hu : tmps.getD GH undef = undef := by
    rw [Array.getD_eq_getD_getElem?, Array.getElem?_eq_none (by have := hs.small; omega)]; rfl
   rw [hu]
   rcases B.isG0 k1 with h | ⟨x, h⟩ <;> rw [h]
   ·exact .top _
   ·exact .gd (fun h => by cases h) (fun _ => rfl)
  ·rw [upd_ne _ _ ht]
   exact (k2 t).lessM fun k hk => hk.imp (hsub k) id
 ·rw [hOc]; exact hs.heap.lessM hsub
 ·rw [hOc, upd_same]
  exact B.oth0 k1 (Fr.refl _ _) fun k hk => .inl (.inl hk)
 ·rw [hOc]
  obtain ⟨D, q1, q2, q3, q4⟩ := hB.marks.2 d hd
  have hD := (Array.getElem?_eq_some_iff.1 q4).1
  have hDE : ¬ ((Mc D ∨ Mut φ2 h2 D) ∨ D = l) := by
   rintro ((h | h) | h)
   ·exact q3 (.inl h)
   ·obtain ⟨_, ⟨C, T, fz, hc⟩ | ⟨es, clk, hc⟩⟩ := hB.heap.mut_cells h <;> (rw [q4] at hc; cases hc)
   ·exact q3 (.inr (.inl (.inr h)))
  exact ⟨D, q1, q2, fun h => h.elim (fun h => (k6 D h).elim hDE (fun h => by omega)) fun h => q3 (.inr h), (k5 D hD hDE).trans q4⟩

abbrev mkRec (fn : FuncId) (tmps : Array Value) (ps : Array Tmp) (assign body : Code) (D : Nat) (st : LoopState) (pe : Option Code) : Loop :=
 { state := st, pending := pe, fn, tmps, params := ps, assign, body, defers := D }
theorem fr_alloc {U : NSet} {w : World} (o : Obj) : Fr w U (w.alloc o) :=
 ⟨rfl, rfl, rfl, Nat.le_refl _, by simp, fun k hk _ => by show (w.heap.push o)[k]? = _; rw [Array.getElem?_push, if_neg (Nat.ne_of_lt hk)]⟩
theorem Fr.trans' {U : NSet} {w w' w'' : World} (a : Fr w U w') (b : Fr w' U w'') : Fr w U w'' :=
 ⟨b.os.trans a.os, b.tape.trans a.tape, b.output.trans a.output, Nat.le_trans a.drawn b.drawn, Nat.le_trans a.size b.size, fun k hk hn => (b.block k (Nat.lt_of_lt_of_le hk a.size) hn).trans (a.block k hk hn)⟩
theorem enter_sound {P : Program} {w : World} (fn : FuncId) (tmps : Array Value) (ps : Array Tmp) (assign body : Code) {ro : Option Nat} (hro : ∀ l, ro = some l → ∃ r : Loop, w.heap[l]? = some (.loop r)) :
  ∃ (l : Nat) (mark : List Deferred) (D : Nat) (w1 : World), (Instr.enterLoop fn tmps ps assign body ro).run P w = .ok (l, mark) w1 ∧ w.heap.size ≤ l ∧ l < w1.heap.size ∧
   w1.heap[l]? = some (.loop (mkRec fn tmps ps assign body D .ready none)) ∧ Fr w (fun _ => False) w1 ∧
   (mark = [] ∨ ∃ D', mark = [{ target := .collected D', args := #[] }] ∧ w.heap.size ≤ D' ∧ D' ≠ l ∧ w1.heap[D']? = some (.deferred (some []))) := by
 cases ro with
 | none =>
  refine ⟨_, _, w.heap.size, _, run_enterLoop_outer fn tmps ps assign body, by omega, by simp, ?_, (fr_alloc _).trans' (fr_alloc _), .inr ⟨_, rfl, Nat.le_refl _, by omega, ?_⟩⟩
  ·have := World.alloc_heap_new (w.alloc (.deferred (some []))) (.loop (mkRec fn tmps ps assign body w.heap.size .ready none))
   rwa [World.size_alloc] at this
  ·exact ((fr_alloc (U := fun _ => False) (w := w.alloc (.deferred (some []))) _).block w.heap.size (by simp) id).trans (World.alloc_heap_new w _)
 | some l0 =>
  obtain ⟨r0, h0⟩ := hro l0 rfl
  exact ⟨_, _, r0.defers, _, run_enterLoop_inner h0 fn tmps ps assign body, Nat.le_refl _, by simp, World.alloc_heap_new w _, fr_alloc _, .inl rfl⟩

theorem rangeFunc_sound {P : Program} {N : Nat} {g : Operand} {ps : Array Tmp} {assign body : Code} {B : Base P} {m : Nat} {Q : Post}
  (ha : ∀ {B' : Base P} {m : Nat} {Q : Post} {M : NSet} {φ : Place} {e : Env} {h : Heap} {n : Nat} {a : Act} {w : World}, SR B' N M φ e h n a w → awp P B'.n0 assign Q e h n → assign.wpIn (WF B'.round) m P (SQ B' N Q) a w)
  (hb : ∀ {B' : Base P} {m : Nat} {Q : Post} {M : NSet} {φ : Place} {e : Env} {h : Heap} {n : Nat} {a : Act} {w : World}, SR B' N M φ e h n a w → awp P B'.n0 body Q e h n → body.wpIn (WF B'.round) m P (SQ B' N Q) a w)
  (hps : ∀ p ∈ ps.toList, p < N) {M : NSet} {φ : Place} {e : Env} {h : Heap} {n : Nat} {a : Act} {w : World} (hs : SR B N M φ e h n a w) (hh : awp P B.n0 (.rangeFunc g ps assign body) Q e h n) :
  (Code.rangeFunc g ps assign body).wpIn (WF B.round) m P (SQ B N Q) a w := by
 obtain ⟨f, caps, caps', more, rows, h', h1, h2, h3, h4, ⟨hent, hseq⟩, hlen, hR⟩ := hh
 obtain ⟨Mc, O0, rfl, hok⟩ := hs.ok
 obtain ⟨hHf, stf⟩ := hs.heap.freeze h2
 have hmt : ∀ o g sz rs, h' o = some (.rows true g sz rs) → h o = some (.rows true g sz rs) := by
  intro o g sz rs ho
  rcases h2 o with h1 | ⟨g1, sz1, rs1, h1, h2⟩
  ·rw [← h1]; exact ho
  ·rw [h2] at ho; cases ho
 have hok1 := B.step0 hok stf.anyM
 have henv1 : ∀ t, Rel φ w (Or (Or Mc O0) (Mut φ h')) (e t) (a.tmps.getD t undef) := fun t => stf.rel (hs.env t)
 have hfo := rel_ev hs.heap.glob hs.env g
 rw [h1] at hfo
 generalize hval : a.eval g = fv at hfo
 cases hfo with
 | @fn _ _ _ fs cs r1 r2 =>
 cases r1
 have hcs := view_args hs.heap hmt h3 h4 r2
 refine wpIn_rangeFunc fun fn _ => ?_
 obtain ⟨l, mark, D, w1, hent1, hl1, hl2, hrec, hfr1, hmark⟩ := enter_sound (P := P) fn a.tmps ps assign body (fun l hl => B.rec0 hok hl)
 have hlo := B.lo0 hok
 have hsz1 := hfr1.size
 have hOc : ∀ k, OcS O0 l (fun _ => False) w1 k → O0 k ∨ k = l := fun k hk => hk.elim id fun h => h.1.elim
 have g1 : Grow (Or Mc O0) w (Or Mc (OcS O0 l (fun _ => False) w1)) w1 := by
  refine ⟨hsz1, fun k hk _ => hfr1.block k hk id, fun k hk => ?_, fun k hk => ?_⟩
  ·rcases hk with hk | hk
   ·exact .inl (.inl hk)
   ·exact (hOc k hk).imp .inr (fun h => by omega)
  ·rcases hk with hk | hk
   ·exact Nat.lt_of_lt_of_le (hs.heap.m0 k (.inl hk)) hsz1
   ·exact (hOc k hk).elim (fun hk => Nat.lt_of_lt_of_le (hs.heap.m0 k (.inr hk)) hsz1) (fun h => by omega)
 have hm1 : Marks B.lo (Or Mc (OcS O0 l (fun _ => False) w1)) (mark ++ a.defers) w1 := by
  have h0 := hs.defs.grow g1
  rcases hmark with rfl | ⟨D', rfl, d1, d2, d3⟩
  ·exact h0
  ·refine ⟨List.pairwise_cons.2 ⟨fun d hd => ?_, h0.1⟩, fun d hd => ?_⟩
   ·obtain ⟨D2, q1, _, _, q4⟩ := hs.defs.2 d hd
    have := (Array.getElem?_eq_some_iff.1 q4).1
    rw [q1]
    simp only [ne_eq, Deferred.mk.injEq, Target.collected.injEq, and_true]
    omega
   ·rcases List.mem_cons.1 hd with rfl | hd
    ·refine ⟨D', rfl, by omega, fun hk => ?_, d3⟩
     rcases hk with hk | hk
     ·have := hs.heap.m0 D' (.inl hk); omega
     ·rcases hOc D' hk with hk | hk
      ·have := hs.heap.m0 D' (.inr hk); omega
      ·exact d2 hk
    ·exact h0.2 d hd
 have hdl : ∀ d ∈ mark ++ a.defers, ∃ D, d = { target := .collected D, args := #[] } ∧ D < w1.heap.size := fun d hd => by
  obtain ⟨D, q1, _, _, q4⟩ := hm1.2 d hd
  exact ⟨D, q1, (Array.getElem?_eq_some_iff.1 q4).1⟩
 have hB1 : BndAt B l w1.heap.size (mark ++ a.defers) a.tmps (mkRec fn a.tmps ps assign body D .ready none) O0 (fun k => (Mc k ∨ Mut φ h' k) ∨ (k = l ∨ O0 k)) (fun _ => False) w1 Mc φ e h' n :=
  ⟨fun _ hk => hk, fun t => g1.rel (henv1 t), g1.hrel hHf, B.oth0 hok1 (hfr1.more fun _ h => h.elim) (fun k hk => (hOc k hk).imp id (fun h => by omega)), hm1, fun _ h => h.elim, Nat.le_refl _, hrec,
   fun hk => by have := hs.heap.m0 l (.inl hk); omega⟩
 have eargs : (#[.func (.yield l) #[] #[]] ++ ⟨cs⟩ : Array Value) = ⟨.func (.yield l) #[] #[] :: cs⟩ := by apply Array.ext'; simp
 refine ⟨l, mark, w1, { target := .fn (.func f) ⟨cs⟩, args := #[.func (.yield l) #[] #[]] }, w1, f, #[.func (.yield l) #[] #[]] ++ ⟨cs⟩, w1, hent1, ?_, fun _ _ => trivial, ?_, fun h => by simp [WF, Fence.wide] at h, ?_⟩
 ·simp only [resolve, hval]
  simp [go_sem]
 ·simp [invoke, go_sem, hent _ _]
 rw [eargs]
 refine callsIn_WF ((hseq w1 (fun k => (Mc k ∨ Mut φ h' k) ∨ (k = l ∨ O0 k)) cs l
  (fun rs M O w' => Bnd B l w1.heap.size (mark ++ a.defers) a.tmps (mkRec fn a.tmps ps assign body D .ready none) O0
   (fun e h n => (∀ xs ∈ rs, xs.length = ps.size) ∧ ARange B.n0 more ps.toList (fun n1 => awp P n1 assign) (fun n1 => awp P n1 body) Q rs e h n) M O w')
  (fun M O w' => ∃ c x, (c = Code.ret ∧ x = Exit.ret ∨ ∃ id, c = Code.exit id ∧ x = Exit.exit id) ∧
   Bnd B l w1.heap.size (mark ++ a.defers) a.tmps (mkRec fn a.tmps ps assign body D .done (some c)) O0 (fun e h n => Q x e h n) M O w')
  (fun k hk => ?_) (hHf.glob.keep (fun k _ hk => hfr1.block k hk id) (fun k hk => hk.elim (fun hk => hk.elim (fun h => .inl (.inl (.inl h))) fun h => .inl (.inr h)) fun hk => hk.elim (fun h => .inr (by omega)) fun h => .inl (.inl (.inr h)))) ?_ (fun rs M O O' w2 w3 hJ hfr hO => Bnd.oth hl2 hJ hfr hO) (fun M O O' w2 w3 hJ hfr hO => ?_) (fun rs M O w2 w3 hJ hn => Bnd.nc hl2 (by omega) hdl hJ hn) (fun M O w2 w3 hJ hn => ?_) ?_ ?_
  (Bnd.fgt ⟨Mc, φ, e, h', n, hB1, Fgt.mono (fun e h n hk => ⟨hlen, hk⟩) hR⟩)).mono ?_)
 ·rcases hk with (hk | hk) | (hk | hk)
  ·exact Nat.lt_of_lt_of_le (hs.heap.m0 k (.inl hk)) hsz1
  ·exact Nat.lt_of_lt_of_le (hHf.blk (.inr hk)) hsz1
  ·omega
  ·exact Nat.lt_of_lt_of_le (hs.heap.m0 k (.inr hk)) hsz1
 ·refine hcs.keep noP.le_refl (fun k _ hk => hfr1.block k hk id) fun k hk => ?_
  rcases hk with (hk | hk) | (hk | hk)
  ·exact .inl (.inl (.inl hk))
  ·exact .inl (.inr hk)
  ·exact .inr (by omega)
  ·exact .inl (.inl (.inr hk))
 ·obtain ⟨c, x, hcx, hJ⟩ := hJ
  exact ⟨c, x, hcx, Bnd.oth hl2 hJ hfr hO⟩
 ·obtain ⟨c, x, hcx, hJ⟩ := hJ
  exact ⟨c, x, hcx, Bnd.nc hl2 (by omega) hdl hJ hn⟩
 · -- one round
  intro r m' xs rest M O w2 vs hJ hO hr
  obtain ⟨Mc2, φ2, e2, h2', n2, hB2, hlens, hn0, hA⟩ := hJ
  have hsz2 := hB2.size
  have hvl : vs.length = ps.size := by rw [← hlens xs (by simp)]; exact hr.length.symm
  refine ⟨fn, _, assign, body, run_yield hB2.lrec (by simpa using hvl), roundIn_of_wpIn trivial ?_⟩
  have hst := round_start hB2 (by omega) (by omega) hn0 hO hs.size hs.small hps hr
  have hw := ha (m := m') hst hA
  have htm : ((ps.zip ⟨vs⟩).foldl (fun tmps (t, a) => tmps.setIfInBounds t a) a.tmps) = (ps.toList.zip vs).foldl (fun tm p => tm.setIfInBounds p.1 p.2) a.tmps := by
   rw [← Array.foldl_toList, Array.toList_zip]
  simp only [htm]
  refine wpIn_mono hw ?_
  rintro x a3 w3 ⟨M3, φ3, e3, h3', n3, hs3, hq3⟩
  cases x with
  | normal =>
   obtain ⟨hl3, hs3'⟩ := RB.turn (rc' := mkRec fn a.tmps ps assign body D .busy none) (.inl (.inr rfl)) hs3 (.inr rfl)
   refine ⟨_, run_beginRound hl3 rfl, wpIn_mono (hb hs3' hq3) ?_⟩
   rintro x a4 w4 ⟨M4, φ4, e4, h4', n4, hs4, hq4⟩
   cases x with
   | normal =>
    obtain ⟨hl4, M', Mc4, hg, hB4⟩ := round_end (rc' := mkRec fn a.tmps ps assign body D .ready none) hB2 hO hs.size hs4
    exact ⟨_, _, run_endRound none hl4, true, M', rfl, hg, Bnd.fgt ⟨Mc4, φ4, _, h4', n4, hB4, Fgt.mono (fun e h n hk => ⟨fun xs hx => hlens xs (by simp [hx]), hk⟩) hq4⟩⟩
   | ret =>
    obtain ⟨hl4, M', Mc4, hg, hB4⟩ := round_end (rc' := mkRec fn a.tmps ps assign body D .done (some .ret)) hB2 hO hs.size hs4
    exact ⟨_, _, run_endRound (some .ret) hl4, false, M', rfl, hg, _, _, .inl ⟨rfl, rfl⟩, Mc4, φ4, _, h4', n4, hB4, hq4⟩
   | exit id =>
    obtain ⟨hl4, M', Mc4, hg, hB4⟩ := round_end (rc' := mkRec fn a.tmps ps assign body D .done (some (.exit id))) hB2 hO hs.size hs4
    exact ⟨_, _, run_endRound (some (.exit id)) hl4, false, M', rfl, hg, _, _, .inr ⟨id, rfl, rfl⟩, Mc4, φ4, _, h4', n4, hB4, hq4⟩
   | goto t => exact hq4.elim
   | panic ch => exact hq4.elim
   | outgrown => exact hq4.elim
  | _ => exact hq3.elim
 ·rintro rfl M O w2 ⟨Mc2, φ2, e2, h2', n2, hB2, _, hA, _⟩
  cases hA
 · -- behind the iterator
  rintro en w3 ⟨⟨v, rfl⟩, M', O', hO', ⟨hmore, hJ⟩ | ⟨c, x, hcx, hJ⟩⟩
  ·obtain ⟨Mc2, φ2, e2, h2', n2, hB2, _, _, hQ⟩ := hJ
   refine ⟨none, _, run_endLoop hB2.lrec (by simp), ?_⟩
   have g := grow_putObj (M := Or Mc2 (OcS O0 l O' w3)) (w := w3) (l := l) (.loop { mkRec fn a.tmps ps assign body D .ready none with state := .exhausted }) (.inr (.inl (.inr rfl))) hB2.heap.m0
   exact ⟨_, φ2, e2, h2', n2, ⟨fun t => g.rel (hB2.env t), hs.size, hB2.marks.grow g, g.hrel hB2.heap, ⟨Mc2, _, rfl, B.oth0 hB2.ok (fr_putObj _ (.inl (.inr rfl))) fun k hk => .inl hk⟩, hs.small⟩, hQ⟩
  ·obtain ⟨Mc2, φ2, e2, h2', n2, hB2, hQ⟩ := hJ
   refine ⟨some c, _, run_endLoop hB2.lrec (by simp), ?_⟩
   have g := grow_putObj (M := Or Mc2 (OcS O0 l O' w3)) (w := w3) (l := l) (.loop { mkRec fn a.tmps ps assign body D .done (some c) with state := .exhausted }) (.inr (.inl (.inr rfl))) hB2.heap.m0
   have hfin : SQ B N Q x { a with defers := mark ++ a.defers } (w3.putObj l (.loop { mkRec fn a.tmps ps assign body D .done (some c) with state := .exhausted })) :=
    ⟨_, φ2, e2, h2', n2, ⟨fun t => g.rel (hB2.env t), hs.size, hB2.marks.grow g, g.hrel hB2.heap, ⟨Mc2, _, rfl, B.oth0 hB2.ok (fr_putObj _ (.inl (.inr rfl))) fun k hk => .inl hk⟩, hs.small⟩, hQ⟩
   rcases hcx with ⟨rfl, rfl⟩ | ⟨id, rfl, rfl⟩
   ·exact wpIn_ret hfin
   ·exact wpIn_exit hfin
end Go.Av
end
section
namespace Go.Av
open Go

theorem stepR_scope {P : Program} {b : Frame} {a : Act} {k : List Item} {cs : List Frame} {w : World} {c : Code} : step P (lone (b.atR a (.code (.scope c) :: k)) cs w) = .next (lone (b.atR a (.code c :: .inScope c :: k)) cs w) :=
 step_lone_go (by simp [stepG, stepG.exec, Frame.atR])
theorem stepR_inScope {P : Program} {b : Frame} {a : Act} {k : List Item} {cs : List Frame} {w : World} {c : Code} : step P (lone (b.atR a (.inScope c :: k)) cs w) = .next (lone (b.atR a k) cs w) :=
 step_lone_go (by simp [stepG, stepG.exec, Frame.atR])
theorem wpIn_scope {F : Fence} {n : Nat} {P : Program} {c : Code} {Q : Exit → Act → World → Prop} {a : Act} {w : World} (h : c.wpIn F n P (Exit.noGoto Q) a w) : (Code.scope c).wpIn F n P Q a w := by
 intro b k cs hro hb hr
 have h0 : (lone (b.atR a (.code (.scope c) :: k)) cs w).fenced P F := fenced_calm hb hr rfl
 obtain ⟨e, a₁, w₁, hq, harr⟩ := h b (.inScope c :: k) cs hro hb hr
 cases e with
 | normal => exact ⟨.normal, a₁, w₁, hq, .head h0 stepR_scope (StepsIn.trans harr (.one (fenced_calm hb hr rfl) stepR_inScope))⟩
 | exit id =>
  have hx : exitTo id (.inScope c :: k) = exitTo id k := by simp [exitTo]
  exact ⟨.exit id, a₁, w₁, hq, fun k' hk => .head h0 stepR_scope (harr.1 k' (by rw [hx]; exact hk)),
   fun hr' hk => let ⟨k₁, h1, h2⟩ := harr.2 hr' (by rw [hx]; exact hk); ⟨k₁, h1, .head h0 stepR_scope h2⟩⟩
 | goto l => exact hq.elim
 | ret => exact ⟨_, a₁, w₁, hq, .of_steps (.one h0 stepR_scope) harr⟩
 | panic ch => exact ⟨_, a₁, w₁, hq, .of_steps (.one h0 stepR_scope) harr⟩
 | outgrown => exact ⟨_, a₁, w₁, hq, .of_steps (.one h0 stepR_scope) harr⟩
theorem awp_sound {P : Program} (hmix : P.follows .mixedOrders = true) {N : Nat} : ∀ {c : Code} {B : Base P} {m : Nat} {Q : Post}, dstB N c = true → ∀ {M : Nat → Prop} {φ : Place} {e : Env} {h : Heap} {n : Nat} {a : Act} {w : World},
  SR B N M φ e h n a w → awp P B.n0 c Q e h n → c.wpIn (WF B.round) m P (SQ B N Q) a w := by
 intro c
 induction c with
 | skip => intro B m Q _ M φ e h n a w hs hh; exact wpIn_skip ⟨M, φ, e, h, n, hs, hh⟩
 | label l => intro B m Q _ M φ e h n a w hs hh; exact wpIn_label ⟨M, φ, e, h, n, hs, hh⟩
 | region id ops draw =>
  intro B m Q hd M φ e h n a w hs hh
  cases draw with
  | false =>
   refine wpIn_region ?_
   rw [List.range_eq_range']
   refine aops_sound (fun o ho => ?_) ops.size 0 (by omega) hs hh
   simp only [dstB, List.all_eq_true] at hd
   have := hd o ho
   split at this <;> simp_all
  | true =>
   obtain ⟨h', hfz, hh⟩ := hh
   obtain ⟨hH', st0⟩ := hs.heap.freeze hfz
   refine adraw_sound hmix (fun o ho => ?_) (hs.put (dst := none) trivial (.top undef) hH' st0) hh
   simp only [dstB, List.all_eq_true] at hd
   have := hd o ho
   split at this <;> simp_all
 | seq x y ihx ihy =>
  intro B m Q hd M φ e h n a w hs hh
  simp only [dstB, Bool.and_eq_true] at hd
  refine wpIn_seq (wpIn_mono (ihx hd.1 hs hh) ?_)
  rintro ex a' w' ⟨M', φ', e', h', n', hs', hq⟩
  cases ex with
  | normal => exact ihy hd.2 hs' hq
  | _ => exact ⟨M', φ', e', h', n', hs', hq⟩
 | cond o x y ihx ihy =>
  intro B m Q hd M φ e h n a w hs hh
  simp only [dstB, Bool.and_eq_true] at hd
  unfold awp at hh
  split at hh
  ·rename_i t ht
   have hr := rel_ev hs.heap.glob hs.env o
   rw [ht] at hr
   generalize hq : a.eval o = q at hr
   cases hr
   cases t with
   | true => exact wpIn_cond hq (ihx hd.1 hs (hh.1 rfl))
   | false => exact wpIn_cond hq (ihy hd.2 hs (hh.2 rfl))
  ·exact hh.elim
 | block id x ih =>
  intro B m Q hd M φ e h n a w hs hh
  refine wpIn_block (wpIn_mono (ih hd hs hh) ?_)
  rintro ex a' w' ⟨M', φ', e', h', n', hs', hq⟩
  cases ex with
  | exit id' =>
   simp only [QBlock] at hq
   simp only [Exit.inBlock]
   split at hq
   ·rename_i e0; rw [if_pos e0]; exact ⟨M', φ', e', h', n', hs', hq⟩
   ·rename_i e0; rw [if_neg e0]; exact ⟨M', φ', e', h', n', hs', hq⟩
  | _ => exact ⟨M', φ', e', h', n', hs', hq⟩
 | scope x ih =>
  intro B m Q hd M φ e h n a w hs hh
  refine wpIn_scope (wpIn_mono (ih hd hs hh) ?_)
  rintro ex a' w' ⟨M', φ', e', h', n', hs', hq⟩
  cases ex with
  | goto l => exact hq.elim
  | _ => exact ⟨M', φ', e', h', n', hs', hq⟩
 | loop x ih =>
  intro B m Q hd M φ e h n a w hs hh b k cs hro hb hr
  have key := hh (fun e h n => ∀ M φ a w, SR B N M φ e h n a w →
   ∃ ex a' w', SQ B N Q ex a' w' ∧ ArrivesIn (Machine.fenced P (WF B.round)) P (lone (b.atR a (.code x :: .inLoop x :: k)) cs w) b k cs ex a' w') ?_ ?_ M φ a w hs
  ·obtain ⟨ex, a', w', hq, harr⟩ := key
   exact ⟨ex, a', w', hq, .of_steps (.one (fenced_calm hb hr rfl) stepR_loop) harr⟩
  ·intro e h n hB M φ a w hs
   obtain ⟨ex, a₁, w₁, ⟨M', φ', e', h', n', hs', hq⟩, harr⟩ := ih hd hs hB b (.inLoop x :: k) cs hro hb hr
   cases ex with
   | normal =>
    obtain ⟨ex, a₂, w₂, hq₂, harr₂⟩ := hq M' φ' a₁ w₁ hs'
    exact ⟨ex, a₂, w₂, hq₂, .of_steps (StepsIn.trans harr (.one (fenced_calm (fr := b.atR a₁ (.inLoop x :: k)) hb hr rfl) stepR_inLoop)) harr₂⟩
   | exit id => exact ⟨_, a₁, w₁, ⟨M', φ', e', h', n', hs', hq⟩, .pass (x := .inLoop x) rfl (fun _ _ => .inl (by simp)) harr⟩
   | goto l => exact ⟨_, a₁, w₁, ⟨M', φ', e', h', n', hs', hq⟩, .pass (x := .inLoop x) rfl (fun _ _ => .inl (by simp)) harr⟩
   | ret => exact ⟨_, a₁, w₁, ⟨M', φ', e', h', n', hs', hq⟩, .pass (x := .inLoop x) rfl (fun _ _ => .inl (by simp)) harr⟩
   | panic ch => exact ⟨_, a₁, w₁, ⟨M', φ', e', h', n', hs', hq⟩, .pass (x := .inLoop x) rfl (fun _ _ => .inl (by simp)) harr⟩
   | outgrown => exact ⟨_, a₁, w₁, ⟨M', φ', e', h', n', hs', hq⟩, .pass (x := .inLoop x) rfl (fun _ _ => .inl (by simp)) harr⟩
  ·intro e h n E HH n' hk hn hX M φ a w hs
   obtain ⟨φ', h1, h2, h3, h4⟩ := hk.sound hs.heap hs.env
   refine hX M φ' a w ⟨h2, hs.size, hs.defs, h1, B.forget hs.ok ?_ h3 h4 hn, hs.small⟩
   rcases mkE_mem (E := E) GH with h5 | h5
   ·exact .inr h5
   ·have h6 := (hk.env _ h5).1
    simp only at h6
    generalize mkE E GH = y at h6
    rcases B.isG hs.ok with h7 | ⟨x, h7⟩
    ·rw [h7] at h6 ⊢
     cases h6 <;> simp
    ·rw [h7] at h6 ⊢
     cases h6 <;> simp
 | rangeFunc g ps x y ihx ihy =>
  intro B m Q hd M φ e h n a w hs hh
  simp only [dstB, Bool.and_eq_true, List.all_eq_true, decide_eq_true_eq] at hd
  exact rangeFunc_sound (fun hs hh => ihx hd.2.1 hs hh) (fun hs hh => ihy hd.2.2 hs hh) hd.1 hs hh
 | exit id => intro B m Q _ M φ e h n a w hs hh; exact wpIn_exit ⟨M, φ, e, h, n, hs, hh⟩
 | ret => intro B m Q _ M φ e h n a w hs hh; exact wpIn_ret ⟨M, φ, e, h, n, hs, hh⟩
 | _ => intro B m Q _ M φ e h n a w hs hh; exact hh.elim
end Go.Av
end
section
namespace Go.Av
open Go

theorem enters_of {P : Program} {f : FuncId} {fn : Func} {c : Code} (hf : P.funcs[f]? = some fn) (hb : fn.body = some c) (hname : (fn.name == "runtime.NumGoroutine") = false) : Enters P f := by
 intro args w
 have : ¬ fn.name = "runtime.NumGoroutine" := by simpa using hname
 simp [callFunc, hf, hb, this]

section
variable {P : Program}
theorem loadAt_ptr {t : TypeId} {v u : Value} {w w' : World} (h : (Instr.loadAt t v).run P w = .ok u w') : (do loadVar t (← asAddr v) : Sem Value).run P w = .ok u w' := by
 unfold Instr.loadAt at h
 cases v with
 | pointer a =>
  cases a with
  | some a => simpa [Instr.sureAddr, asAddr] using h
  | none => simp [Instr.sureAddr] at h
 | _ => simp [Instr.sureAddr] at h
def resF (tmps : Array Value) : ResultVar → Sem Value
 | .tmp t => pure (tmps.getD t undef)
 | .cell a t => do loadVar t (← asAddr (tmps.getD a undef))
theorem results_eq (fn : Func) (tmps : Array Value) : results fn tmps = (do let vs ← fn.results.mapM (resF tmps); pure (if h : vs.size = 1 then vs[0] else .tuple vs)) := by
 unfold results
 congr 1
theorem resL_sound {φ : Place} {n : Nat} {w : World} {M0 : Nat → Prop} {h : Heap} (hH : HRel φ n w M0 h) {e : Env} {tmps : Array Value} (he : ∀ t, Rel φ w (Or M0 (Mut φ h)) (e t) (tmps.getD t undef)) :
  ∀ (rs : List ResultVar), (resL P e h rs).1 → ∃ vs, (rs.mapM (resF tmps)).run P w = .ok vs w ∧ RelL φ w (Or M0 (Mut φ h)) (resL P e h rs).2 vs
 | [], _ => ⟨[], by simp, .nil⟩
 | .tmp t :: rs, hc => by
  obtain ⟨vs, h1, h2⟩ := resL_sound hH he rs hc
  refine ⟨tmps.getD t undef :: vs, ?_, .cons (he t) h2⟩
  simp only [List.mapM_cons, resF, Sem.run_bind, Sem.run_pure, Result.andThen_ok, h1]
 | .cell a t :: rs, hc => by
  obtain ⟨hc1, hc2⟩ := hc
  obtain ⟨vs, h1, h2⟩ := resL_sound hH he rs hc2
  obtain ⟨u, h3, h4, _, _⟩ := load_reads (P := P) (t := t) hH (he a) hc1
  refine ⟨u :: vs, ?_, .cons h4 h2⟩
  have h5 := loadAt_ptr h3
  simp only [Sem.run_bind] at h5
  simp only [List.mapM_cons, resF, Sem.run_bind, h5, Result.andThen_ok, h1, Sem.run_pure]
theorem resV_sound {φ : Place} {w : World} {M : Nat → Prop} {xs : List AV} {vs : List Value} (h : RelL φ w M xs vs) :
  Rel φ w M (resV xs) (if h : (⟨vs⟩ : Array Value).size = 1 then (⟨vs⟩ : Array Value)[0] else .tuple ⟨vs⟩) := by
 cases h with
 | nil => exact .tup .nil
 | cons h t =>
  cases t with
  | nil => simpa [resV] using h
  | cons h' t' => simpa [resV] using Rel.tup (.cons h (.cons h' t'))

theorem argE_rel {φ : Place} {w : World} {M : Nat → Prop} : ∀ {xs : List AV} {vs : List Value} (_ : RelL φ w M xs vs) (i t : Nat), argE i xs t = .top ∨ ∃ k, t = i + k ∧ ∃ (hk : k < xs.length) (hk' : k < vs.length), argE i xs t = xs[k] ∧ Rel φ w M xs[k] vs[k]
 | [], _, _, i, t => .inl rfl
 | x :: xs, _, .cons h ht, i, t => by
  simp only [argE, upd]
  by_cases e : t = i
  ·subst e; rw [if_pos rfl]; exact .inr ⟨0, rfl, by simp, by simp, rfl, h⟩
  ·rw [if_neg e]
   rcases argE_rel ht (i + 1) t with h1 | ⟨k, rfl, hk, hk', h1, h2⟩
   ·exact .inl h1
   ·exact .inr ⟨k + 1, by omega, by simpa using hk, by simpa using hk', by simpa using h1, by simpa using h2⟩

theorem argE_top : ∀ {xs : List AV} {i t : Nat}, i + xs.length ≤ t → argE i xs t = .top
 | [], _, _, _ => rfl
 | x :: xs, i, t, h => by
  simp only [List.length_cons] at h
  simp only [argE, upd]
  rw [if_neg (by omega)]
  exact argE_top (by omega)
theorem leaves_marks {P : Program} {F : Fence} {n : Nat} {fn : Func} {tmps : Array Value} {R : Ending → World → Prop} {lo : Nat} {M : Nat → Prop} : ∀ {ds : List Deferred} {w : World}, Marks lo M ds w →
  (∀ w', NC lo w w' → ∃ v, (results fn tmps).run P w' = .ok v w' ∧ R (.returned v) w') → LeavesInM F n P fn tmps R ds .returning w
 | [], w, _, h => h w (.refl lo w)
 | d :: ds, w, hm, h => by
  obtain ⟨hp, hd⟩ := hm
  rw [List.pairwise_cons] at hp
  obtain ⟨D, e1, e0, e2, e3⟩ := hd d (by simp)
  have hnc : NC lo w (w.putObj D (.deferred none)) := .putObj _ e0 e3 (by simp) (by simp)
  refine ⟨by simp, .inl ⟨D, _, by rw [e1], run_takeDeferred e3, leaves_marks (M := M) ⟨hp.2, fun d' hd' => ?_⟩ fun w' hn => h w' (hnc.trans hn)⟩⟩
  obtain ⟨D', k1, k0, k2, k3⟩ := hd d' (by simp [hd'])
  refine ⟨D', k1, k0, k2, (World.putObj_heap_other ?_).trans k3⟩
  rintro rfl
  exact hp.1 d' hd' (e1.trans k1.symm)
def fnBase (P : Program) (φ : Place) (w : World) (M0 : Nat → Prop) (h : Heap) (n0 : Nat) (fresh : ∀ o, n0 ≤ o → φ o = none) : Base P where
 n0 := n0
 lo := w.heap.size
 round := none
 ok0 g M O φ' w' h' := g = .top ∧ M = M0 ∧ (∀ k, O k → w.heap.size ≤ k) ∧ Step φ w M0 h φ' w' h'
 isG0 hk := .inl hk.1
 step0 hk st := by
  obtain ⟨h1, rfl, h2, h3⟩ := hk
  exact ⟨h1, rfl, h2, h3.trans st⟩
 forget0 := by
  rintro g g' M O φ1 w1 h1 φ2 h2 n' ⟨e1, rfl, hO, st⟩ hg h3 h4 hn
  refine ⟨by rcases hg with h | h <;> simp [h, e1], rfl, hO, ?_, fun k hk => ?_, st.fr, fun k hk => st.mutd k (h3 k hk)⟩
  ·intro o x hx
   obtain ⟨x', hx', l1, l2⟩ := st.le o x hx
   have : o < n0 := Nat.lt_of_not_le fun hle => by rw [fresh o hle] at hx; cases hx
   exact ⟨x', h4 o x' (by omega) hx', l1, l2⟩
  ·rcases hk with hk | hk
   ·exact st.or k (.inl hk)
   ·exact st.or k (.inr (h3 k hk))
 yld0 hk := by cases hk.1
 exh0 hk := by cases hk.1
 oth0 := by
  rintro g M O O' φ' w1 w2 h1 ⟨e1, rfl, hO, st⟩ hfr hO'
  have hs := st.fr.size
  exact ⟨e1, rfl, fun k hk => (hO' k hk).elim (hO k) (fun h => by omega), st.le, st.or,
   ⟨hfr.os.trans st.fr.os, hfr.tape.trans st.fr.tape, hfr.output.trans st.fr.output, Nat.le_trans st.fr.drawn hfr.drawn, Nat.le_trans hs hfr.size, fun k hk hu => (hfr.block k (by omega) (fun h => by have := hO k h; omega)).trans (st.fr.block k hk hu)⟩, st.mutd⟩
 nc0 := by
  rintro g M O φ' w1 w2 h1 ⟨e1, rfl, hO, st⟩ hn
  exact ⟨e1, rfl, hO, st.nc hn⟩
 lo0 hk := hk.2.2.2.fr.size
 rec0 _ h := by cases h
theorem ACallP.of_awp (hmix : P.follows .mixedOrders = true) {f : FuncId} {fn : Func} {c : Code} {args : List AV} {h : Heap} {n : Nat} {K : CallK} (hf : P.funcs[f]? = some fn) (hb : fn.body = some c) (hname : (fn.name == "runtime.NumGoroutine") = false)
  (hN : args.length ≤ fn.ntmps) (hd : dstB fn.ntmps c = true) (hh : awp P n c (RetQ P fn.results.toList K) (argE 0 args) h n) (hG : fn.ntmps ≤ GH := by exact Nat.le_of_ble_eq_true rfl) : ACallP P f args h n K := by
 refine ⟨enters_of hf hb hname, fun M0 φ w vs hH hargs => ?_⟩
 have hlen := hargs.length
 let B : Base P := fnBase P φ w M0 h n hH.fresh
 have hsr : SR B fn.ntmps M0 φ (argE 0 args) h n { tmps := ⟨vs⟩ ++ Array.replicate (fn.ntmps - (⟨vs⟩ : Array Value).size) undef, defers := [] } w := by
  refine ⟨fun t => ?_, by simp; omega, Marks.nil, hH, ⟨M0, fun _ => False, (or_false0 M0).symm, argE_top (by omega), rfl, fun _ h => h.elim, .refl _ _ _ _⟩, hG⟩
  rcases argE_rel hargs 0 t with h1 | ⟨k, rfl, hk, hk', h1, h2⟩
  ·rw [h1]; exact .top _
  ·rw [h1]
   have : ((⟨vs⟩ : Array Value) ++ Array.replicate (fn.ntmps - (⟨vs⟩ : Array Value).size) undef).getD (0 + k) undef = vs[k] := by
    simp [Array.getD_eq_getD_getElem?, Array.getElem?_append, hk']
   rw [this]; exact h2
 have hw := awp_sound (P := P) hmix (B := B) (N := fn.ntmps) (m := 0) hd hsr hh
 refine callsIn_wide.1 (callsIn_of_wp_marks (F := WF none) (n := 0) hf hb trivial (wpIn_mono hw ?_) rfl)
 rintro ex a' w' ⟨M, φ', e', h', n', hs', hq⟩
 have fin : (resL P e' h' fn.results.toList).1 ∧ K (resV (resL P e' h' fn.results.toList).2) h' n' → LeavesInM (WF none) 0 P fn a'.tmps (fun e w' => ∃ v_1 φ'_1 r h'_1 n'_1, e = Ending.returned v_1 ∧ K r h'_1 n'_1 ∧ HRel φ'_1 n'_1 w' M0 h'_1 ∧ Rel φ'_1 w' (Or M0 (Mut φ'_1 h'_1)) r v_1 ∧ Step φ w M0 h φ'_1 w' h'_1) a'.defers .returning w' := by
  rintro ⟨q1, q2⟩
  obtain ⟨M1, O, rfl, _, rfl, _, hst⟩ := hs'.ok
  refine leaves_marks hs'.defs fun w'' hn => ?_
  have hsub : ∀ k, Or M1 (Mut φ' h') k → Or (Or M1 O) (Mut φ' h') k := fun k hk => hk.imp .inl id
  have hHm : HRel φ' n' w' M1 h' := hs'.heap.lessM fun k hk => .inl hk
  obtain ⟨us, h1, h2⟩ := resL_sound (P := P) (hHm.nc hn) (fun t => ((hs'.env t).lessM hsub).nc hn) fn.results.toList q1
  refine ⟨_, ?_, _, φ', _, h', n', rfl, q2, hHm.nc hn, resV_sound h2, hst.nc hn⟩
  rw [results_eq, Array.mapM_eq_mapM_toList]
  simp only [Sem.run_bind, Sem.run_map, Sem.run_pure, h1, Result.andThen_ok]
 cases ex with
 | normal => exact fin hq
 | ret => exact fin hq
 | _ => exact hq.elim
end

theorem hrel_noH {w : World} {M : Nat → Prop} (hM : ∀ k, M k → k < w.heap.size) (hg : GlbOk w M) : HRel noP 0 w M noH :=
 ⟨hM, fun _ _ => rfl, (fun o mt g sz rs ho => by cases ho), (fun o o' mt g sz rs mt' g' sz' rs' a a' b b' ho => by cases ho),
  hg.keep (fun _ _ _ => rfl) (fun k hk => .inl (hk.elim id fun h => (not_mut_noH h).elim))⟩

def RetI (P : Program) (rs : List ResultVar) (l more : Nat) : Post
 | .normal, e, h, n | .ret, e, h, n => (resL P e h rs).1 ∧ ((more = 0 ∧ e GH = ghost l 0 []) ∨ e GH = ghost l 2 [])
 | _, _, _, _ => False
theorem ghost_inj {l l' m m' : Nat} {r r' : List (List AV)} (h : ghost l m r = ghost l' m' r') : l = l' ∧ m = m' ∧ r = r' := by
 simp only [ghost, AV.gd.injEq, AV.tup.injEq, List.cons.injEq, AV.v.injEq, Value.int.injEq, AV.lst.injEq, and_true, true_and] at h
 obtain ⟨h1, h2, h3⟩ := h
 exact ⟨by omega, h2, h3⟩
def itBase (P : Program) (w : World) (l more : Nat) (J : List (List AV) → NSet → NSet → World → Prop) (Jx : NSet → NSet → World → Prop)
  (hJ : ∀ rs M O O' w1 w2, J rs M O w1 → Fr w1 O w2 → (∀ k, O' k → O k ∨ w1.heap.size ≤ k) → J rs M O' w2)
  (hJx : ∀ M O O' w1 w2, Jx M O w1 → Fr w1 O w2 → (∀ k, O' k → O k ∨ w1.heap.size ≤ k) → Jx M O' w2)
  (hn : ∀ rs M O w1 w2, J rs M O w1 → NC w.heap.size w1 w2 → J rs M O w2) (hnx : ∀ M O w1 w2, Jx M O w1 → NC w.heap.size w1 w2 → Jx M O w2)
  (hr : ∀ (r : Option Nat) (m : Nat) xs rest M O w1 vs, J (xs :: rest) M O w1 → (∀ k, O k → k < w1.heap.size) → RelL noP w1 (Or M O) xs vs →
   ∃ fn tmps assign body, (Instr.yield l ⟨vs⟩).run P w1 = .ok (.round l fn tmps assign body) w1 ∧ RoundIn (WF r) m P l fn tmps assign body w1 fun e w' =>
    ∃ b M', e = .returned (.bool b) ∧ Grow M w1 M' w' ∧ if b then J rest M' O w' else Jx M' O w')
  (hm : more = 1 → ∀ M O w1, ¬ J [] M O w1) : Base P where
 n0 := 0
 lo := w.heap.size
 round := none
 ok0 g M O φ w1 h := w.heap.size ≤ w1.heap.size ∧ w1.os = w1.os ∧ ((∃ rs, g = ghost l more rs ∧ J rs M (Or O (Mut φ h)) w1) ∨ (g = ghost l 2 [] ∧ Jx M (Or O (Mut φ h)) w1) ∨ g = .top)
 isG0 := by
  rintro g M O φ w1 h ⟨_, _, ⟨rs, rfl, _⟩ | ⟨rfl, _⟩ | rfl⟩
  ·exact .inr ⟨_, rfl⟩
  ·exact .inr ⟨_, rfl⟩
  ·exact .inl rfl
 step0 := by
  rintro g M O φ w1 h φ' w2 h' ⟨h1, _, h2⟩ st
  have hfr : Fr w1 (Or O (Mut φ h)) w2 := st.fr.more fun k hk => .inr hk
  have hO : ∀ k, Or O (Mut φ' h') k → Or O (Mut φ h) k ∨ w1.heap.size ≤ k := fun k hk => hk.elim (fun h => .inl (.inl h)) fun h => (st.mutd k h).imp .inr id
  exact ⟨Nat.le_trans h1 st.fr.size, rfl, h2.imp (fun ⟨rs, e, h⟩ => ⟨rs, e, hJ _ _ _ _ _ _ h hfr hO⟩) (fun h => h.imp (fun h => ⟨h.1, hJx _ _ _ _ _ h.2 hfr hO⟩) id)⟩
 forget0 := by
  rintro g g' M O φ w1 h φ' h' n' ⟨h1, _, h2⟩ hg h3 h4 _
  have hO : ∀ k, Or O (Mut φ' h') k → Or O (Mut φ h) k ∨ w1.heap.size ≤ k := fun k hk => .inl (hk.imp id (h3 k))
  rcases hg with rfl | rfl
  ·exact ⟨h1, rfl, h2.imp (fun ⟨rs, e, h⟩ => ⟨rs, e, hJ _ _ _ _ _ _ h (Fr.refl _ _) hO⟩) (fun h => h.imp (fun h => ⟨h.1, hJx _ _ _ _ _ h.2 (Fr.refl _ _) hO⟩) id)⟩
  ·exact ⟨h1, rfl, .inr (.inr rfl)⟩
 yld0 := by
  rintro r m l' more' xs rest M O φ w1 h n vs ⟨h1, _, ⟨rs, e, h2⟩ | ⟨e, _⟩ | e⟩ hH hv
  ·obtain ⟨rfl, rfl, rfl⟩ := ghost_inj e
   obtain ⟨fn, tm, asg, body, k1, k2⟩ := hr r m xs rest M _ w1 vs h2 (fun k hk => hk.elim (fun h => hH.m0 k (.inr h)) fun h => hH.blk (.inr h)) (by rw [← or_assoc0]; exact hv)
   refine ⟨fn, tm, asg, body, k1, k2.mono ?_⟩
   rintro en w2 ⟨b, M', e1, g, hk⟩
   refine ⟨b, M', e1, g, Nat.le_trans h1 g.size, rfl, ?_⟩
   cases b with
   | true => exact .inl ⟨rest, rfl, hk⟩
   | false => exact .inr (.inl ⟨rfl, hk⟩)
  ·obtain ⟨_, _, e⟩ := ghost_inj e
   cases e
  ·cases e
 exh0 := by
  rintro l' M O φ w1 h ⟨h1, _, ⟨rs, e, h2⟩ | ⟨e, _⟩ | e⟩
  ·obtain ⟨rfl, e1, rfl⟩ := ghost_inj e
   exact hm e1.symm _ _ _ h2
  ·obtain ⟨_, e, _⟩ := ghost_inj e
   cases e
  ·cases e
 oth0 := by
  rintro g M O O' φ w1 w2 h ⟨h1, _, h2⟩ hfr hO
  have hfr' : Fr w1 (Or O (Mut φ h)) w2 := hfr.more fun k hk => .inl hk
  have hO' : ∀ k, Or O' (Mut φ h) k → Or O (Mut φ h) k ∨ w1.heap.size ≤ k := fun k hk => hk.elim (fun h => (hO k h).imp .inl id) fun h => .inl (.inr h)
  exact ⟨Nat.le_trans h1 hfr.size, rfl, h2.imp (fun ⟨rs, e, h⟩ => ⟨rs, e, hJ _ _ _ _ _ _ h hfr' hO'⟩) (fun h => h.imp (fun h => ⟨h.1, hJx _ _ _ _ _ h.2 hfr' hO'⟩) id)⟩
 nc0 := by
  rintro g M O φ w1 w2 h ⟨h1, _, h2⟩ hnc
  exact ⟨by rw [hnc.size]; exact h1, rfl, h2.imp (fun ⟨rs, e, h⟩ => ⟨rs, e, hn _ _ _ _ _ h hnc⟩) (fun h => h.imp (fun h => ⟨h.1, hnx _ _ _ _ h.2 hnc⟩) id)⟩
 lo0 h := h.1
 rec0 _ h := by cases h
theorem PSeq.of_awp {P : Program} (hmix : P.follows .mixedOrders = true) {f : FuncId} {fn : Func} {c : Code} {caps : List AV} {more : Nat} {rows : List (List AV)} (hf : P.funcs[f]? = some fn) (hb : fn.body = some c) (hname : (fn.name == "runtime.NumGoroutine") = false)
  (hN : caps.length + 1 ≤ fn.ntmps) (hd : dstB fn.ntmps c = true)
  (hh : ∀ l, awp P 0 c (RetI P fn.results.toList l more) (upd (argE 0 (.fn (.yield l) [] [] :: caps)) GH (ghost l more rows)) noH 0) (hG : fn.ntmps ≤ GH := by exact Nat.le_of_ble_eq_true rfl) (hm2 : more ≠ 2 := by decide) : PSeq P f caps more rows := by
 refine ⟨enters_of hf hb hname, fun w M0 cvs l J Jx hM0 hgl hcaps hJ hJx hn hnx hr hm h0 => ?_⟩
 have hlen := hcaps.length
 let B : Base P := itBase P w l more J Jx hJ hJx hn hnx hr hm
 have hargs : RelL noP w (Or M0 (Mut noP noH)) (.fn (.yield l) [] [] :: caps) (.func (.yield l) #[] #[] :: cvs) :=
  .cons (.fn .nil .nil) (hcaps.keep noP.le_refl (fun _ _ _ => rfl) fun k hk => .inl (hk.elim id fun h => (not_mut_noH h).elim))
 have hsr : SR B fn.ntmps M0 noP (upd (argE 0 (.fn (.yield l) [] [] :: caps)) GH (ghost l more rows)) noH 0
   { tmps := ⟨.func (.yield l) #[] #[] :: cvs⟩ ++ Array.replicate (fn.ntmps - (⟨.func (.yield l) #[] #[] :: cvs⟩ : Array Value).size) undef, defers := [] } w := by
  refine ⟨fun t => ?_, by simp; omega, Marks.nil, hrel_noH hM0 hgl, ⟨M0, fun _ => False, (or_false0 M0).symm, Nat.le_refl _, rfl, .inl ⟨rows, by rw [upd_same], hJ _ _ _ _ _ _ h0 (Fr.refl _ _) fun k hk => .inl (hk.elim id fun h => (not_mut_noH h).elim)⟩⟩, hG⟩
  by_cases ht : t = GH
  ·subst ht
   rw [upd_same, Array.getD_eq_getD_getElem?, Array.getElem?_eq_none (by simp; omega)]
   exact .gd (fun h => by cases h) (fun _ => rfl)
  rw [upd_ne _ _ ht]
  rcases argE_rel hargs 0 t with h1 | ⟨k, rfl, hk, hk', h1, h2⟩
  ·rw [h1]; exact .top _
  ·rw [h1]
   have : ((⟨.func (.yield l) #[] #[] :: cvs⟩ : Array Value) ++ Array.replicate (fn.ntmps - (⟨.func (.yield l) #[] #[] :: cvs⟩ : Array Value).size) undef).getD (0 + k) undef = (Value.func (.yield l) #[] #[] :: cvs)[k] := by
    simp only [List.length_cons] at hk'
    simp [Array.getD_eq_getD_getElem?, Array.getElem?_append, hk']
   rw [this]; exact h2
 have hw := awp_sound (P := P) hmix (B := B) (N := fn.ntmps) (m := 0) hd hsr (hh l)
 refine callsIn_wide.1 (callsIn_of_wp_marks (F := WF none) (n := 0) hf hb trivial (wpIn_mono hw ?_) rfl)
 rintro ex a' w' ⟨M, φ', e', h', n', hs', hq⟩
 have fin : (resL P e' h' fn.results.toList).1 ∧ ((more = 0 ∧ e' GH = ghost l 0 []) ∨ e' GH = ghost l 2 []) →
   LeavesInM (WF none) 0 P fn a'.tmps (fun e w' => (∃ v, e = .returned v) ∧ ∃ M' O', (∀ k, O' k → k < w'.heap.size) ∧ ((more = 0 ∧ J [] M' O' w') ∨ Jx M' O' w')) a'.defers .returning w' := by
  rintro ⟨q1, q2⟩
  obtain ⟨Mc, O, rfl, _, _, hst⟩ := hs'.ok
  refine leaves_marks hs'.defs fun w'' hnc => ?_
  obtain ⟨us, h1, h2⟩ := resL_sound (P := P) (hs'.heap.nc hnc) (fun t => (hs'.env t).nc hnc) fn.results.toList q1
  refine ⟨if h : (⟨us⟩ : Array Value).size = 1 then (⟨us⟩ : Array Value)[0] else .tuple ⟨us⟩, ?_, ⟨_, rfl⟩, Mc, Or O (Mut φ' h'), fun k hk => ?_, ?_⟩
  ·rw [results_eq, Array.mapM_eq_mapM_toList]
   simp only [Sem.run_bind, Sem.run_map, Sem.run_pure, h1, Result.andThen_ok]
  ·rw [hnc.size]; exact hk.elim (fun h => hs'.heap.m0 k (.inr h)) fun h => hs'.heap.blk (.inr h)
  ·rcases hst with ⟨rs, e1, h⟩ | ⟨e1, h⟩ | e1
   ·rw [e1] at q2
    rcases q2 with ⟨e2, q2⟩ | q2
    ·obtain ⟨_, _, rfl⟩ := ghost_inj q2
     exact .inl ⟨e2, hn _ _ _ _ _ h hnc⟩
    ·obtain ⟨_, e3, rfl⟩ := ghost_inj q2
     exact absurd e3 hm2
   ·exact .inr (hnx _ _ _ _ h hnc)
   ·rw [e1] at q2
    rcases q2 with ⟨_, q2⟩ | q2 <;> cases q2
 cases ex with
 | normal => exact fin hq
 | ret => exact fin hq
 | _ => exact hq.elim

theorem Pure.of {P : Program} {f : FuncId} {args : List AV} {r : AV} (hc : ACallP P f args noH 0 fun r' h' n' => LeV h' noH n' r' r ∧ Bel 0 r) : Pure P f args r := by
 refine ⟨hc.1, fun M w vs hM hgl hargs => (hc.2 M noP w vs (hrel_noH hM hgl) (hargs.keep noP.le_refl (fun _ _ _ => rfl) (fun k hk => hk.elim .inl fun h => (not_mut_noH h).elim))).mono ?_⟩
 rintro e w' ⟨v, φ', r', h', n', rfl, ⟨hle, hb⟩, hH, hx, st⟩
 have hk : Wk (fun _ => r') h' n' [(0, r)] [] 0 := ⟨fun p hp => by simp at hp; subst hp; exact ⟨hle, hb⟩, fun p hp => by cases hp⟩
 obtain ⟨φ'', h1, h2, h3, _⟩ := hk.sound hH (tmps := fun _ => v) (fun _ => hx)
 refine ⟨v, rfl, ?_, ?_⟩
 ·have := h2 0
  simp only [mkE, upd_same] at this
  refine this.keep (fun o x ho => ?_) (fun _ _ _ => rfl) (fun k hk => .inl (.inl hk))
  rw [h1.fresh o (Nat.zero_le _)] at ho; cases ho
 ·exact ⟨st.fr.os, st.fr.tape, st.fr.output, st.fr.drawn, st.fr.size, fun k hk _ => st.fr.block k hk not_mut_noH⟩

theorem ACallP.flat {P : Program} {f : FuncId} {args args' : List AV} {r : AV} {h : Heap} {n : Nat} {K : CallK} (hp : Pure P f args' r) (hfl : Flat r) (hle : LeRow h noH n args args') (hb : ∀ c ∈ args', Bel 0 c)
  (hk : K r h n) : ACallP P f args h n K := by
 refine ⟨hp.1, fun M0 φ w vs hH hargs => ?_⟩
 have h1 := view_args (h' := noH) hH (fun o g sz rs ho => by cases ho) hle hb hargs
 refine (hp.2 _ w vs (fun k hk => hk.elim (hH.m0 k) fun h => (not_mut_noH h).elim) (hH.glob.keep (fun _ _ _ => rfl) (fun k hk => .inl (hk.imp id fun h => (not_mut_noH h).elim))) h1).mono ?_
 rintro e w' ⟨v, rfl, hr, hfr⟩
 have st : Step φ w M0 h φ w' h := ⟨φ.le_refl, fun k hk => .inl hk, ⟨hfr.os, hfr.tape, hfr.output, hfr.drawn, hfr.size, fun k hk _ => hfr.block k hk (fun h => h)⟩, fun k hk => .inl hk⟩
 exact ⟨v, φ, r, h, n, rfl, hk, hH.keepw st (fun k hk => hfr.block k hk fun h => h), hfl.rel hr, st⟩

theorem ACallP.pure {P : Program} {f : FuncId} {args args' : List AV} {r : AV} {h : Heap} {n : Nat} {K : CallK} (h' : Heap) (hp : Pure P f args' r) (hfz : Frz h h') (hle : LeRow h h' n args args') (hb : ∀ c ∈ args', Bel 0 c)
  (hk : K r h' n) : ACallP P f args h n K := by
 refine ⟨hp.1, fun M0 φ w vs hH hargs => ?_⟩
 obtain ⟨hH', st0⟩ := hH.freeze hfz
 have hmt : ∀ o g sz rs, h' o = some (.rows true g sz rs) → h o = some (.rows true g sz rs) := by
  intro o g sz rs ho
  rcases hfz o with h1 | ⟨g1, sz1, rs1, _, h2⟩
  ·rw [← h1]; exact ho
  ·rw [h2] at ho; cases ho
 have h1 := view_args (h' := h') hH hmt hle hb hargs
 refine (hp.2 _ w vs (fun k hk => hH'.blk hk) hH'.glob h1).mono ?_
 rintro e w' ⟨v, rfl, hr, hfr⟩
 have st : Step φ w M0 h' φ w' h' := ⟨φ.le_refl, fun k hk => .inl hk, ⟨hfr.os, hfr.tape, hfr.output, hfr.drawn, hfr.size, fun k hk _ => hfr.block k hk (fun h => h)⟩, fun k hk => .inl hk⟩
 refine ⟨v, φ, r, h', n, rfl, hk, hH'.keepw st (fun k hk => hfr.block k hk fun h => h), ?_, st0.trans st⟩
 exact hr.keep (fun o x ho => by cases ho) (fun _ _ _ => rfl) (fun k hk => .inl hk)
theorem ACallP.plain {P : Program} {f : FuncId} {args : List AV} {r : AV} {h : Heap} {n : Nat} {K : CallK} (hp : Pure P f args r) (hb : ∀ c ∈ args, Bel 0 c) (hk : K r h n) : ACallP P f args h n K :=
 ACallP.pure h hp (.refl h) (.refl _ _ _ _) hb hk

theorem ACallP.frame {P : Program} {f : FuncId} {args args' : List AV} {h : Heap} {n k2 : Nat} {K K' : CallK} {R0 R : AV} {H0 HH : List (Nat × AObj)} (h' : Heap) (hp : ACallP P f args' noH 0 K')
  (hk' : ∀ r h1 n', K' r h1 n' → Wk (fun _ => r) h1 n' [(0, R0)] H0 k2) (hR : Sh n R0 R) (hHH : ShH n H0 HH) (hfz : Frz h h') (hle : LeRow h h' n args args') (hb : ∀ c ∈ args', Bel 0 c)
  (hk : K R (over HH h') (n + k2)) : ACallP P f args h n K := by
 refine ⟨hp.1, fun M0 φ w vs hH hargs => ?_⟩
 obtain ⟨hH', st0⟩ := hH.freeze hfz
 have hmt : ∀ o g sz rs, h' o = some (.rows true g sz rs) → h o = some (.rows true g sz rs) := by
  intro o g sz rs ho
  rcases hfz o with h1 | ⟨g1, sz1, rs1, h1, h2⟩
  ·rw [← h1]; exact ho
  ·rw [h2] at ho; cases ho
 have hv := view_args (h' := h') hH hmt hle hb hargs
 have hM1 : ∀ k, Or (Or M0 (Mut φ h')) (Mut noP noH) k → Or M0 (Mut φ h') k := fun k hk => hk.elim id fun h => (not_mut_noH h).elim
 have hH1 : HRel noP 0 w (Or M0 (Mut φ h')) noH := hrel_noH (fun k hk => hH'.blk hk) hH'.glob
 refine (hp.2 _ noP w vs hH1 (hv.keep noP.le_refl (fun _ _ _ => rfl) (fun k hk => .inl (hM1 k hk)))).mono ?_
 rintro e w' ⟨v, φ1, r, h1, n', rfl, hK, hH2, hx, st⟩
 obtain ⟨φ2, hH3, hx3, hm3, _⟩ := (hk' _ _ _ hK).sound hH2 (tmps := fun _ => v) (fun _ => hx)
 have hx3 := hx3 0
 simp only [mkE, upd_same] at hx3
 have hheap : ∀ k, k < w.heap.size → w'.heap[k]? = w.heap[k]? := fun k hk => st.fr.block k hk not_mut_noH
 let φ3 : Place := fun o => if o < n then φ o else φ2 (o - n)
 have e3 : ∀ o, φ3 (n + o) = φ2 o := fun o => by simp only [φ3]; rw [if_neg (by omega)]; congr 1; omega
 have e3' : ∀ o, o < n → φ3 o = φ o := fun o ho => if_pos ho
 have hlt : ∀ o x, φ o = some x → o < n := fun o x ho => Nat.lt_of_not_le fun hle => by rw [hH.fresh o hle] at ho; cases ho
 have hle3 : φ.le φ3 := fun o x ho => ⟨x, by rw [e3' o (hlt o x ho)]; exact ho, Nat.le_refl _, fun _ => rfl⟩
 have hsrc : ∀ o y, over HH h' o = some y → (∃ o0 x, o = n + o0 ∧ mkH H0 o0 = some x ∧ ShO n x y) ∨ (o < n ∧ h' o = some y) := by
  intro o x ho
  rw [over_eq] at ho
  split at ho
  ·rename_i y hy
   cases ho
   exact .inl (hHH.at hy)
  ·cases x with
   | rows mt g sz rs =>
    obtain ⟨A, hA, _⟩ := hH'.obj _ _ _ _ _ ho
    exact .inr ⟨hlt _ _ hA, ho⟩
 have hmut : ∀ k, Mut φ3 (over HH h') k → Mut φ2 (mkH H0) k ∨ Mut φ h' k := by
  rintro k ⟨o, g, sz, rs, g', a, bs, ho, hp, rfl⟩
  rcases hsrc o _ ho with ⟨o0, x, rfl, h1, h2⟩ | ⟨h1, h2⟩
  ·cases h2 with
   | rows h2 => rw [e3] at hp; exact .inl ⟨o0, g, sz, _, g', a, bs, h1, hp, rfl⟩
  ·rw [e3' o h1] at hp; exact .inr ⟨o, g, sz, rs, g', a, bs, h2, hp, rfl⟩
 have hnew : ∀ k, Mut φ2 (mkH H0) k → w.heap.size ≤ k := fun k hk => (st.mutd k (hm3 k hk)).elim (fun h => (not_mut_noH h).elim) id
 have hsub : ∀ k, Or M0 (Mut φ3 (over HH h')) k → Or (Or M0 (Mut φ h')) (Mut φ2 (mkH H0)) k := fun k hk => hk.elim (fun h => .inl (.inl h)) fun h => (hmut k h).elim .inr fun h => .inl (.inr h)
 have hsub' : ∀ k, Or M0 (Mut φ3 (over HH h')) k → Or M0 (Mut φ h') k ∨ w.heap.size ≤ k := fun k hk => hk.elim (fun h => .inl (.inl h)) fun h => (hmut k h).elim (fun h => .inr (hnew k h)) fun h => .inl (.inr h)
 have hblk : ∀ o x g' a bs, h' o = some x → φ o = some (g', some (a, bs)) → a.block < w.heap.size := by
  intro o x g' a bs ho hp
  cases x with
  | rows mt g sz rs =>
   obtain ⟨A, hA, hc⟩ := hH'.obj _ _ _ _ _ ho
   rw [hp] at hA
   simp only [Option.some.injEq, Prod.mk.injEq] at hA
   obtain ⟨rfl, rfl⟩ := hA
   rcases hc with ⟨h, _⟩ | ⟨a', bs', h, _, h2⟩
   ·cases h
   ·simp only [Option.some.injEq, Prod.mk.injEq] at h
    obtain ⟨rfl, rfl⟩ := h
    exact h2.blk
 have hfar : ∀ o0 mt g sz rs g' a bs o' y g1 a' b', mkH H0 o0 = some (.rows mt g sz rs) → φ2 o0 = some (g', some (a, bs)) → h' o' = some y → φ o' = some (g1, some (a', b')) →
   (mt = true ∨ ∃ g sz rs, y = .rows true g sz rs) → a.block ≠ a'.block := by
  intro o0 mt g sz rs g' a bs o' y g1 a' b' q1 q2 q3 q4 hm
  have hb' := hblk _ _ _ _ _ q3 q4
  rcases hm with rfl | ⟨g2, sz2, rs2, rfl⟩
  ·have := hnew a.block ⟨o0, g, sz, rs, _, a, bs, q1, q2, rfl⟩
   omega
  ·intro he
   obtain ⟨A, hA, hc⟩ := hH3.obj _ _ _ _ _ q1
   rw [q2] at hA
   simp only [Option.some.injEq, Prod.mk.injEq] at hA
   obtain ⟨_, rfl⟩ := hA
   rcases hc with ⟨h, _⟩ | ⟨a1, bs1, h, hn0, _⟩
   ·cases h
   ·simp only [Option.some.injEq, Prod.mk.injEq] at h
    obtain ⟨rfl, rfl⟩ := h
    exact hn0 (.inr ⟨o', g2, sz2, rs2, _, a', b', q3, q4, he.symm⟩)
 refine ⟨v, φ3, R, over HH h', n + k2, rfl, hk, ⟨fun k hk => Nat.lt_of_lt_of_le (hH.m0 k hk) st.fr.size, fun o ho => ?_, fun o mt g sz rs ho => ?_, fun o o' mt g sz rs mt' g' sz' rs' a a' b b' ho ho' hne hm hp hp' => ?_, hH'.glob.keep (fun k _ hk => hheap k hk) hsub'⟩,
  hR.rel (fun o x h => (e3 o).trans h) hsub hx3, st0.trans ⟨hle3, hsub', ⟨st.fr.os, st.fr.tape, st.fr.output, st.fr.drawn, st.fr.size, fun k hk _ => hheap k hk⟩, fun k hk => (hmut k hk).elim (fun h => .inr (hnew k h)) .inl⟩⟩
 ·obtain ⟨d, rfl⟩ := Nat.exists_eq_add_of_le (show n ≤ o by omega)
  rw [e3]; exact hH3.fresh d (by omega)
 ·rcases hsrc o _ ho with ⟨o0, x, rfl, h1, h2⟩ | ⟨h1, h2⟩
  ·cases h2 with
   | rows hs =>
    obtain ⟨A, hA, hc⟩ := hH3.obj _ _ _ _ _ h1
    refine ⟨A, by rw [e3]; exact hA, hc.imp (fun h => ⟨h.1, ?_⟩) ?_⟩
    ·obtain ⟨_, rfl⟩ := h
     exact List.eq_nil_of_length_eq_zero hs.shape.1
    ·rintro ⟨a, bs, c1, c3, hd⟩
     exact ⟨a, bs, c1, fun hk => c3 (.inl hk), hd.turn rfl hs.shape.1 (hs.shape.2 sz) (fun c9 => hs.rel (fun o x h => (e3 o).trans h) hsub c9)⟩
  ·obtain ⟨A, hA, hc⟩ := hH'.obj _ _ _ _ _ h2
   refine ⟨A, by rw [e3' o h1]; exact hA, hc.imp id ?_⟩
   rintro ⟨a, bs, c1, c3, hd⟩
   exact ⟨a, bs, c1, c3, hd.keep (hheap _ hd.blk) (fun c9 => c9.keep hle3 (fun k _ hk => hheap k hk) hsub')⟩
 ·rcases hsrc o _ ho with ⟨o0, x, rfl, q1, q2⟩ | ⟨q1, q2⟩ <;> rcases hsrc o' _ ho' with ⟨o0', x', rfl, q1', q2'⟩ | ⟨q1', q2'⟩
  ·cases q2; cases q2'
   rw [e3] at hp hp'
   exact hH3.inj _ _ _ _ _ _ _ _ _ _ _ _ _ _ q1 q1' (by omega) hm hp hp'
  ·cases q2
   rw [e3] at hp; rw [e3' o' q1'] at hp'
   exact hfar _ _ _ _ _ _ _ _ _ _ _ _ _ q1 hp q2' hp' (hm.imp id fun h => by subst h; exact ⟨_, _, _, rfl⟩)
  ·cases q2'
   rw [e3' o q1] at hp; rw [e3] at hp'
   exact Ne.symm (hfar _ _ _ _ _ _ _ _ _ _ _ _ _ q1' hp' q2 hp (hm.symm.imp id fun h => by subst h; exact ⟨_, _, _, rfl⟩))
  ·rw [e3' o q1] at hp; rw [e3' o' q1'] at hp'
   exact hH'.inj _ _ _ _ _ _ _ _ _ _ _ _ _ _ q2 q2' hne hm hp hp'

def Owns (P : Program) (f : FuncId) (args : List AV) (R : Nat → AV) (HH : Nat → List (Nat × AObj)) (k : Nat) : Prop :=
 ACallP P f args noH 0 (fun r h n' => Wk (fun _ => r) h n' [(0, R 0)] (HH 0) k) ∧ ∀ n, Sh n (R 0) (R n) ∧ ShH n (HH 0) (HH n)
theorem ACallP.owns {P : Program} {f : FuncId} {args args' : List AV} {h : Heap} {n : Nat} {K : CallK} {R : Nat → AV} {HH : Nat → List (Nat × AObj)} {k : Nat} (h' : Heap) (hp : Owns P f args' R HH k)
  (hfz : Frz h h') (hle : LeRow h h' n args args') (hb : ∀ c ∈ args', Bel 0 c) (hk : K (R n) (over (HH n) h') (n + k)) : ACallP P f args h n K :=
 ACallP.frame h' hp.1 (fun _ _ _ h => h) (hp.2 n).1 (hp.2 n).2 hfz hle hb hk
theorem Owns.pure {P : Program} {f : FuncId} {args : List AV} {R : Nat → AV} {HH : Nat → List (Nat × AObj)} {k : Nat} {r : AV} (hp : Owns P f args R HH k) (hle : LeV (mkH (HH 0)) noH k (R 0) r) (hb : Bel 0 r) : Pure P f args r := by
 refine ⟨hp.1.1, fun M w vs hM hgl hargs => (hp.1.2 M noP w vs (hrel_noH hM hgl) (hargs.keep noP.le_refl (fun _ _ _ => rfl) (fun k hk => hk.elim .inl fun h => (not_mut_noH h).elim))).mono ?_⟩
 rintro e w' ⟨v, φ', r', h', n', rfl, hk, hH, hx, st⟩
 obtain ⟨φ1, g1, g2, _, _⟩ := hk.sound hH (tmps := fun _ => v) (fun _ => hx)
 have g2 := g2 0
 simp only [mkE, upd_same] at g2
 have hk2 : Wk (fun _ => R 0) (mkH (HH 0)) k [(0, r)] [] 0 := ⟨fun p hp => by simp at hp; subst hp; exact ⟨hle, hb⟩, fun p hp => by cases hp⟩
 obtain ⟨φ'', h1, h2, h3, _⟩ := hk2.sound g1 (tmps := fun _ => v) (fun _ => g2)
 refine ⟨v, rfl, ?_, ?_⟩
 ·have := h2 0
  simp only [mkE, upd_same] at this
  refine this.keep (fun o x ho => ?_) (fun _ _ _ => rfl) (fun k hk => .inl (.inl hk))
  rw [h1.fresh o (Nat.zero_le _)] at ho; cases ho
 ·exact ⟨st.fr.os, st.fr.tape, st.fr.output, st.fr.drawn, st.fr.size, fun k hk _ => st.fr.block k hk not_mut_noH⟩
theorem ACallP.ownsPlain {P : Program} {f : FuncId} {args : List AV} {h : Heap} {n : Nat} {K : CallK} {R : Nat → AV} {HH : Nat → List (Nat × AObj)} {k : Nat} (hp : Owns P f args R HH k)
  (hb : ∀ c ∈ args, Bel 0 c) (hk : K (R n) (over (HH n) h) (n + k)) : ACallP P f args h n K :=
 ACallP.owns h hp (.refl h) (.refl _ _ _ _) hb hk
theorem ACallP.emp {P : Program} {f : FuncId} {sz : Nat} {rows : List (List AV)} {xs : List AV} {h : Heap} {n : Nat} {K : CallK} (h1 : rows ≠ [] → ACallP P f (.lst sz rows :: xs) h n K)
  (h2 : rows = [] → ∀ A c, ACallP P f (.v (.slice A 0 c) :: xs) h n K) : ACallP P f (.lst sz rows :: xs) h n K := by
 by_cases hr : rows = []
 ·refine ⟨(h2 hr none 0).1, fun M0 φ w vs hH hargs => ?_⟩
  cases hargs with
  | cons hx ht =>
   cases hx with
   | nil _ A c => exact (h2 hr A c).2 M0 φ w _ hH (.cons (.v _) ht)
   | @lst _ _ a len cap C T fz hs hM hb hrr hl hc hcap hv h =>
    have : len = 0 := by rw [hl, hr]; rfl
    subst this
    exact (h2 hr (some a) cap).2 M0 φ w _ hH (.cons (.v _) ht)
 ·exact h1 hr
theorem pF {P : Program} {f : FuncId} {fn : Func} {c : Code} {args : List AV} {r : AV} (hf : P.funcs[f]? = some fn) (hh : awp P 0 c (RetQ P fn.results.toList fun r' h' n' => LeV h' noH n' r' r ∧ Bel 0 r) (argE 0 args) noH 0) (hmix : P.follows .mixedOrders = true := by kernel_rfl) (hb : fn.body = some c := by rfl) (hname : (fn.name == "runtime.NumGoroutine") = false := by rfl) (hN : args.length ≤ fn.ntmps := by exact Nat.le_of_ble_eq_true rfl) (hd : dstB fn.ntmps c = true := by kernel_rfl) (hG : fn.ntmps ≤ GH := by exact Nat.le_of_ble_eq_true rfl) : Pure P f args r := Pure.of (ACallP.of_awp hmix hf hb hname hN hd hh hG)
end Go.Av
end
