/- Texts of ours, part 8: our library and contracts of functions. -/
import Derived.Test.YtkahkcakggflaaaGreatDoorB07
import Derived.Shelf.SlSortCmp.NoneTotal
set_option linter.unusedSimpArgs false
set_option linter.unusedVariables false
set_option maxRecDepth 100000
set_option maxHeartbeats 40000000
section
open Go Go.Proofs
namespace Go.Av
structure znb (g : zaf) : Prop where
 ok : GOk g
 c4 : g.cells ≤ 4
 k1 : g.kinds.length = 1
 keep : ∀ k ∈ g.kinds, k.keep = false
 r1 : g.rights ≤ 1
def zaQ : Nat → List (List Int)
 | 0 => [[]]
 | c + 1 => (zaQ c).flatMap fun l => [l ++ [0], l ++ [1], l ++ [2]]
theorem ze4 : ∀ {c : Nat} {l : List Int}, l ∈ zaQ c ↔ l.length = c ∧ ∀ x ∈ l, 0 ≤ x ∧ x ≤ 2
 | 0, l => by
  simp only [zaQ, List.mem_singleton]
  constructor
  ·rintro rfl; simp
  ·rintro ⟨h, _⟩; exact List.length_eq_zero_iff.1 h
 | c + 1, l => by
  simp only [zaQ, List.mem_flatMap]
  constructor
  ·rintro ⟨m, hm, h⟩
   obtain ⟨h1, h2⟩ := ze4.1 hm
   simp only [List.mem_cons, List.not_mem_nil, or_false] at h
   rcases h with rfl | rfl | rfl <;> refine ⟨by simp [h1], fun x hx => ?_⟩ <;> rcases List.mem_append.1 hx with hx | hx <;> first | exact h2 x hx | (simp only [List.mem_singleton] at hx; omega)
  ·rintro ⟨h1, h2⟩
   have hne : l ≠ [] := by intro h; rw [h] at h1; simp at h1
   have e := (List.dropLast_concat_getLast hne).symm
   refine ⟨l.dropLast, ze4.2 ⟨by simp [h1], fun x hx => h2 x (List.dropLast_subset l hx)⟩, ?_⟩
   have hl := h2 _ (List.getLast_mem hne)
   simp only [List.mem_cons, List.not_mem_nil, or_false]
   rcases (show l.getLast hne = 0 ∨ l.getLast hne = 1 ∨ l.getLast hne = 2 by omega) with h | h | h <;> rw [h] at e
   ·exact .inl e
   ·exact .inr (.inl e)
   ·exact .inr (.inr e)
def zei (g : zaf) (l : List Int) : List zaj := (List.range (2 ^ g.rights.toNat)).flatMap fun (r : Nat) => [(⟨l, [0], [0], (r : Int), 0⟩ : zaj), ⟨l, [0], [0], (r : Int), 1⟩]
def zb1 (g : zaf) : List zaj := (zaQ g.cells.toNat).flatMap (zei g)
theorem zf2 {g : zaf} (h : znb g) {q : zaj} : q ∈ zb1 g ↔ POk g q := by
 have hg := h.ok
 have c1 := hg.c1
 have hk := h.k1
 have r0 := hg.r0
 have r1 := h.r1
 have hpw : ((2 ^ g.rights.toNat : Nat) : Int) = (2 : Int) ^ g.rights.toNat := by
  rcases (show g.rights.toNat = 0 ∨ g.rights.toNat = 1 by omega) with e | e <;> rw [e] <;> rfl
 have hz : zew g [0] := ⟨by rw [hk]; rfl, fun i hi => by
  obtain rfl : i = 0 := by simpa using hi
  exact ⟨by decide, by decide, by intro h0; exact absurd h0 (by decide)⟩⟩
 have hz2 : ∀ l, zew g l → l = [0] := fun l hl => by
  have h1 := hl.len
  rw [hk] at h1
  obtain ⟨x, rfl⟩ := List.length_eq_one_iff.1 h1
  have h2 := hl.v 0 (by simp)
  have h3 := h.keep _ (zan (show 0 < g.kinds.length by omega))
  have h4 : nth [x] 0 = x := rfl
  rw [h4] at h2
  by_cases hx : 0 < x
  ·have := h2.2.2 hx
   rw [h3] at this
   cases this
  ·have : x = 0 := by omega
   rw [this]
 unfold zb1 zei
 simp only [List.mem_flatMap, ze4, List.mem_range, List.mem_cons, List.not_mem_nil, or_false]
 constructor
 ·rintro ⟨l, ⟨h1, h2⟩, r, hr, h3⟩
  have hr2 : (r : Int) < 2 ^ g.rights.toNat := by rw [← hpw]; exact_mod_cast hr
  rcases h3 with rfl | rfl
  ·exact ⟨by show ((l.length : Nat) : Int) = g.cells; omega, fun c hc => by have := h2 c hc; rw [hk]; omega, hz, hz, by simp, hr2, .inl rfl⟩
  ·exact ⟨by show ((l.length : Nat) : Int) = g.cells; omega, fun c hc => by have := h2 c hc; rw [hk]; omega, hz, hz, by simp, hr2, .inr rfl⟩
 ·intro hq
  have hal := hq.al
  have q0 := hq.r0
  have q1 := hq.r1
  refine ⟨q.at_, ⟨by omega, fun c hc => by have := hq.av c hc; rw [hk] at this; omega⟩, q.rights.toNat, by omega, ?_⟩
  have e1 := hz2 _ hq.h0
  have e2 := hz2 _ hq.h1
  obtain ⟨a, b, c, r, s⟩ := q
  simp only at e1 e2 q0
  subst e1
  subst e2
  rw [Int.toNat_of_nonneg q0]
  rcases hq.s with e | e <;> simp only at e <;> subst e
  ·exact .inl rfl
  ·exact .inr rfl
def orOne : Bool := (List.range 5).all fun (r : Nat) => (List.range (2 ^ r)).all fun (a : Nat) => (List.range r).all fun (n : Nat) => decide (0 ≤ orN .i64 (a : Int) (2 ^ n) ∧ orN .i64 (a : Int) (2 ^ n) < 2 ^ r)
theorem zsy : orOne = true := by kernel_rfl
theorem or_in {r : Nat} (hr : r ≤ 4) {a : Int} (h0 : 0 ≤ a) (h1 : a < 2 ^ r) {n : Nat} (hn : n < r) : 0 ≤ orN .i64 a (2 ^ n) ∧ orN .i64 a (2 ^ n) < 2 ^ r := by
 have key := zsy
 unfold orOne at key
 have hp : (2 : Int) ^ r = ((2 ^ r : Nat) : Int) := by
  rcases (show r = 0 ∨ r = 1 ∨ r = 2 ∨ r = 3 ∨ r = 4 by omega) with h | h | h | h | h <;> subst h <;> decide
 have k1 := List.all_eq_true.1 key r (List.mem_range.2 (by omega))
 have k2 := List.all_eq_true.1 k1 a.toNat (List.mem_range.2 (by omega))
 have k3 := of_decide_eq_true (List.all_eq_true.1 k2 n (List.mem_range.2 hn))
 rwa [Int.toNat_of_nonneg h0] at k3
theorem zig {g : zaf} (hg : GOk g) {k : Nat} (hk : k < g.kinds.length) {s : Int} (hs : s = 0 ∨ s = 1) : 1 ≤ zaD k s ∧ zaD k s ≤ 2 * g.kinds.length := by
 have := hg.k6
 unfold zaD
 rw [if_pos ⟨⟨by omega, by omega⟩, by omega, by omega⟩]
 omega
def tkP (g : zaf) (side : Int) (p : zaj) (a k : Nat) : zaj :=
 if (nth g.kinds k).keep = true then ({ p with at_ := p.at_.set a (zaD k (1 - side)) } : zaj).withHand side ((p.hand side).set k (nth (p.hand side) k - 1)) else { p with at_ := p.at_.set a (zaD k (1 - side)) }
def tkL (g : zaf) (side : Int) (p : zaj) (a k : Nat) : List zaj := if nth p.at_ a = 0 ∧ 0 ≤ nth ((tkP g side p a k).hand side) k then [tkP g side p a k] else []
theorem zga {g : zaf} {side : Int} {p : zaj} {x : zcn} (h : x.1 = 6) : zdu g side p x = (List.range g.kinds.length).flatMap (tkL g side p x.2.1.toNat) := by
 unfold zdu
 rw [if_pos h]
 rfl
theorem zrh {g : zaf} (hg : GOk g) {side : Int} (hs : side = 0 ∨ side = 1) {p : zaj} (hp : POk g p) {x : zcn} (hx : zdf g.cells g.kinds.length g.rights x) : ∀ q ∈ zdu g side p x, POk g q ∧ q.side = p.side := by
 obtain ⟨op, a, b⟩ := x
 unfold zdf at hx
 simp only at hx
 have hal := hp.al
 have hws : ∀ (P : zaj) (s : Int) (l : List Int), (P.withHand s l).side = P.side := fun P s l => by unfold zaj.withHand; split <;> rfl
 intro q hq
 by_cases h6 : op = 6
 ·rw [zga h6] at hq
  obtain ⟨k, hk, hq⟩ := List.mem_flatMap.1 hq
  have hk := List.mem_range.1 hk
  have hc := zig hg hk (s := 1 - side) (by omega)
  have h1 : POk g { p with at_ := p.at_.set a.toNat (zaD k (1 - side)) } := hp.setAt _ (by omega)
  have hh := hp.hand side
  have hkl : k < (p.hand side).length := by rw [hh.len]; exact hk
  have hv := hh.v k hkl
  unfold tkL at hq
  simp only at hq
  split at hq
  ·rename_i hcond
   rw [List.mem_singleton] at hq
   subst hq
   have h2 := hcond.2
   unfold tkP at h2 ⊢
   by_cases hkeep : (nth g.kinds k).keep = true
   ·rw [if_pos hkeep] at h2 ⊢
    rw [zg8, zcl, if_pos ⟨rfl, hkl⟩] at h2
    exact ⟨h1.withHand side (hh.set k ⟨h2, by omega⟩ fun _ => hkeep), hws _ _ _⟩
   ·rw [if_neg hkeep]
    exact ⟨h1, rfl⟩
  ·cases hq
 unfold zdu at hq
 rw [if_neg h6] at hq
 by_cases h7 : op = 7
 ·rw [if_pos h7] at hq
  split at hq
  ·simp only [List.mem_singleton] at hq
   subst hq
   have hb := hp.at (i := b.toNat) (by omega)
   exact ⟨(hp.setAt a.toNat hb).setAt b.toNat (by omega), rfl⟩
  ·cases hq
 rw [if_neg h7] at hq
 by_cases h10 : op = 10
 ·rw [if_pos h10] at hq
  split at hq
  ·simp only [List.mem_cons, List.not_mem_nil, or_false] at hq
   rcases hq with rfl | rfl
   ·exact ⟨hp, rfl⟩
   ·have h4 := hg.r4
    obtain ⟨o1, o2⟩ := or_in (r := g.rights.toNat) (by omega) hp.r0 hp.r1 (n := a.toNat) (by omega)
    exact ⟨⟨hp.al, hp.av, hp.h0, hp.h1, o1, o2, hp.s⟩, rfl⟩
  ·cases hq
 rw [if_neg h10] at hq
 simp only [List.mem_singleton] at hq
 subst hq
 exact ⟨hp, rfl⟩
theorem zkB {g : zaf} (hg : GOk g) (side : Int) (p : zaj) (x : zcn) : (zdu g side p x).length ≤ if x.1 = 6 then 6 else if x.1 = 10 then 2 else 1 := by
 have hk := hg.k6
 by_cases h6 : x.1 = 6
 ·rw [if_pos h6, zga h6, List.length_flatMap]
  have := zeO (fun (k : Nat) => (tkL g side p x.2.1.toNat k).length) 1 (List.range g.kinds.length) (fun k _ => by simp only [tkL]; split <;> simp)
  rw [List.length_range] at this
  omega
 unfold zdu
 rw [if_neg h6, if_neg h6]
 by_cases h7 : x.1 = 7
 ·rw [if_pos h7, if_neg (show ¬ x.1 = 10 by omega)]
  split <;> simp
 rw [if_neg h7]
 by_cases h10 : x.1 = 10
 ·rw [if_pos h10, if_pos h10]
  split <;> simp
 rw [if_neg h10, if_neg h10]
 simp
theorem zhu {g : zaf} (hg : GOk g) {side : Int} (hs : side = 0 ∨ side = 1) : ∀ {l : List zcn} {p : zaj}, POk g p → (∀ a ∈ l, zdf g.cells g.kinds.length g.rights a) → ∀ q ∈ zcB g side p l, POk g q ∧ q.side = p.side
 | [], p, hp, _, q, hq => by
  simp only [zcB, List.mem_singleton] at hq
  subst hq
  exact ⟨hp, rfl⟩
 | x :: l, p, hp, hl, q, hq => by
  rw [zcB] at hq
  obtain ⟨r, hr, hq⟩ := List.mem_flatMap.1 hq
  obtain ⟨h1, h2⟩ := zrh hg hs hp (hl x (by simp)) r hr
  obtain ⟨h3, h4⟩ := zhu hg hs h1 (fun a ha => hl a (by simp [ha])) q hq
  exact ⟨h3, h4.trans h2⟩
theorem za4 {α β : Type} (f : α → List β) (b : Nat) : ∀ l : List α, (∀ a ∈ l, (f a).length ≤ b) → (l.flatMap f).length ≤ l.length * b
 | [], _ => by simp
 | a :: l, h => by
  rw [List.flatMap_cons, List.length_append, List.length_cons, Nat.add_mul, Nat.one_mul]
  have h1 := h a (by simp)
  have h2 := za4 f b l fun x hx => h x (by simp [hx])
  omega
theorem zkC {g : zaf} (hg : GOk g) (side : Int) : ∀ (l : List zcn) (p : zaj), (zcB g side p l).length ≤ 6 ^ za0 l 6 * 2 ^ za0 l 10
 | [], p => by simp [zcB, za0]
 | x :: l, p => by
  rw [zcB]
  have h1 := za4 (fun q => zcB g side q l) (6 ^ za0 l 6 * 2 ^ za0 l 10) (zdu g side p x) fun q _ => zkC hg side l q
  have h2 := zkB hg side p x
  have hc : ∀ op, za0 (x :: l) op = za0 l op + if x.1 = op then 1 else 0 := fun op => by
   unfold za0
   rw [List.countP_cons]
   by_cases h : x.1 = op <;> simp [h]
  rw [hc, hc]
  refine Nat.le_trans h1 (Nat.le_trans (Nat.mul_le_mul_right _ h2) ?_)
  by_cases h6 : x.1 = 6
  ·rw [if_pos h6, if_pos h6, if_neg (by omega), Nat.pow_succ, Nat.add_zero, Nat.mul_comm 6, Nat.mul_assoc, Nat.mul_comm _ 6, ← Nat.mul_assoc]
   exact Nat.le_refl _
  ·rw [if_neg h6, if_neg h6, Nat.add_zero]
   by_cases h10 : x.1 = 10
   ·rw [if_pos h10, if_pos h10, Nat.pow_succ, Nat.mul_comm 2, Nat.mul_assoc]
    exact Nat.le_refl _
   ·rw [if_neg h10, if_neg h10, Nat.one_mul, Nat.add_zero]
    exact Nat.le_refl _
theorem zuc {b : zaL} {side : Int} {w : zaZ} {x : Int × Int} : ∀ v ∈ ziS b side w x, za0 v.acts 10 ≤ za0 w.acts 10 + zsm x 10 := by
 intro v hv
 unfold ziS at hv
 unfold zsm
 split at hv
 ·rename_i h17
  split at hv
  ·simp at hv
  ·split at hv
   ·simp only [List.mem_singleton] at hv
    subst hv
    simp only [onP, List.append_nil]
    omega
   ·simp only [List.mem_singleton] at hv
    subst hv
    simp only [onP, zbG, zdN]
    rw [if_neg (by decide)]
    omega
 ·split at hv
  ·obtain ⟨more, e1, e2, e3, e4⟩ := zf8 hv
   rw [List.append_nil] at e1
   rw [e1, zbG, zih e4 (by omega)]
   omega
  ·split at hv
   ·simp only [List.mem_singleton] at hv
    subst hv
    simp only [onP, zbG, zdN]
    omega
   ·simp only [List.mem_singleton] at hv
    subst hv
    simp only [onP, zbG, zdN]
    omega
theorem zlp {b : zaL} {side : Int} : ∀ {prog : List (Int × Int)} {now : List zaZ} {t : Nat}, (∀ w ∈ now, za0 w.acts 10 ≤ t) → ∀ w ∈ prog.foldl (zkt b side) now, za0 w.acts 10 ≤ t + prog.length
 | [], now, t, h, w, hw => by simpa using h w hw
 | x :: prog, now, t, h, w, hw => by
  rw [List.foldl_cons] at hw
  have := zlp (prog := prog) (now := zkt b side now x) (t := t + 1) (fun v hv => by
   obtain ⟨u, hu, hv⟩ := List.mem_flatMap.1 hv
   have h1 := zuc v hv
   have h2 := h u hu
   have h3 : zsm x 10 ≤ 1 := by unfold zsm; split <;> omega
   omega) w hw
  simp only [List.length_cons]
  omega
theorem zlC {g : zaf} (hg : GOk g) {side : Int} {k : zgp} (hk : k ∈ g.kinds) {cell : Int} : ∀ w ∈ zbu g.board side k.progs cell, za0 w.acts 10 ≤ 8 := by
 intro w hw
 obtain ⟨p, hp, hw⟩ := List.mem_flatMap.1 hw
 have ok := (hg.pr k hk p hp).len
 have := zlp (b := g.board) (side := side) (prog := p) (now := [⟨[], cell⟩]) (t := 0) (fun v hv => by
  simp only [List.mem_singleton] at hv
  subst hv
  simp [za0]) w hw
 omega
theorem zf4 {a m n : Nat} (ha : 1 ≤ a) (h : m ≤ n) : a ^ m ≤ a ^ n := Nat.pow_le_pow_right ha h
theorem zjq {g : zaf} (hg : GOk g) {side : Int} {p : zaj} {k c : Nat} (hk : k < g.kinds.length) (hc : (c : Int) < g.cells) : ∀ w ∈ zbu g.board side (nth g.kinds k).progs c, (zcB g side { p with at_ := p.at_.set w.to.toNat 0, side := side } w.acts.reverse).length ≤ 9216 := by
 intro w hw
 have h1 := (zf1 hg (side := side) (zan hk) (cell := (c : Int)) ⟨by omega, hc⟩ w hw).take
 have h2 := zlC hg (side := side) (zan hk) (cell := (c : Int)) w hw
 have hr : ∀ op, za0 w.acts.reverse op = za0 w.acts op := fun op => by unfold za0; exact List.countP_reverse ..
 have h3 := zkC hg side w.acts.reverse { p with at_ := p.at_.set w.to.toNat 0, side := side }
 rw [hr, hr] at h3
 exact Nat.le_trans h3 (Nat.mul_le_mul (zf4 (n := 2) (by omega) h1) (zf4 (n := 8) (by omega) h2))
theorem zv4 {g : zaf} (hg : GOk g) {side : Int} (hs : side = 0 ∨ side = 1) {p : zaj} (hp : POk g p) : ∀ q ∈ zeW g side p, POk g q := by
 intro q hq
 unfold zeW at hq
 obtain ⟨k, hk, hq⟩ := List.mem_flatMap.1 hq
 obtain ⟨c, hc, hq⟩ := List.mem_flatMap.1 hq
 obtain ⟨w, hw, hq⟩ := List.mem_flatMap.1 hq
 have hk := List.mem_range.1 hk
 have hc := List.mem_range.1 hc
 unfold zft at hq
 split at hq
 ·obtain ⟨r, hr, rfl⟩ := List.mem_map.1 hq
  have hr := (List.mem_filter.1 hr).1
  have hpo := zf1 hg (side := side) (zan hk) (cell := (c : Int)) ⟨by omega, by omega⟩ w hw
  have h1 : POk g { p with at_ := p.at_.set w.to.toNat 0, side := side } := by
   have := hp.setAt w.to.toNat (v := 0) (by omega)
   exact ⟨this.al, this.av, this.h0, this.h1, this.r0, this.r1, hs⟩
  obtain ⟨h2, _⟩ := zhu hg hs h1 (l := w.acts.reverse) (fun a ha => hpo.acts a (List.mem_reverse.1 ha)) r hr
  have hcd := zig hg hk hs
  exact h2.setAt c (by omega)
 ·cases hq
theorem zlB {g : zaf} (hg : GOk g) (hs : zbg g) (side : Int) {k : Nat} (hk : k < g.kinds.length) (c : Int) : (zbu g.board side (nth g.kinds k).progs c).length ≤ 72 := by
 have hkm := zan hk
 have c9 := hg.c9
 have c1 := hg.c1
 have := za4 (fun p => zbB g.board side p c) 9 (nth g.kinds k).progs fun p hp => by
  have h := zhY hg.board hg.c1 side p c
  have h2 : g.board.cells.toNat ≤ 9 := by have : g.board.cells = g.cells := rfl; omega
  have h1 := hs _ hkm p hp
  rcases (show zaI p 2 = 0 ∨ zaI p 2 = 1 by omega) with e | e <;> rw [e] at h <;> simp at h <;> omega
 have h8 := hg.pn _ hkm
 unfold zbu
 omega
theorem zhD {g : zaf} (hg : GOk g) (hs : zbg g) {p : zaj} (hp : POk g p) : (zdh g p).length ≤ 35831817 := by
 have c9 := hg.c9
 have c1 := hg.c1
 have k6 := hg.k6
 have hal := hp.al
 have h1 : (zeW g (1 - p.side) p).length ≤ 35831808 := by
  have := za4 (fun (k : Nat) => (List.range g.cells.toNat).flatMap fun (c : Nat) => (zbu g.board (1 - p.side) (nth g.kinds k).progs c).flatMap (zft g (1 - p.side) p k c)) (9 * (72 * 9216)) (List.range g.kinds.length) fun k hk => by
   have hk := List.mem_range.1 hk
   have := za4 (fun (c : Nat) => (zbu g.board (1 - p.side) (nth g.kinds k).progs c).flatMap (zft g (1 - p.side) p k c)) (72 * 9216) (List.range g.cells.toNat) fun c hc => by
    have hc := List.mem_range.1 hc
    have h2 := zlB hg hs (1 - p.side) hk c
    have := za4 (zft g (1 - p.side) p k c) 9216 (zbu g.board (1 - p.side) (nth g.kinds k).progs c) fun w hw => by
     have h3 := zjq hg (side := 1 - p.side) (p := p) hk (show (c : Int) < g.cells by omega) w hw
     unfold zft
     split
     ·rw [List.length_map]
      exact Nat.le_trans (List.length_filter_le _ _) h3
     ·simp
    refine Nat.le_trans this ?_
    omega
   rw [List.length_range] at this
   refine Nat.le_trans this ?_
   omega
  rw [List.length_range] at this
  unfold zeW
  omega
 have h2 : (zgt g (1 - p.side) p).length ≤ 9 := by
  unfold zgt
  rw [List.length_map]
  have := List.length_filter_le (fun c => decide ((zaq (nth p.at_ c)).2 = 1 - p.side) && (nth g.kinds (zaq (nth p.at_ c)).1.toNat).keep) (List.range p.at_.length)
  rw [List.length_range] at this
  omega
 unfold zdh
 rw [List.length_append]
 omega
def SzP (g : zaf) (q : zaj) : Prop := (q.at_.length : Int) = g.cells ∧ q.h0.length = g.kinds.length ∧ q.h1.length = g.kinds.length
theorem zqQ {g : zaf} {p : zaj} (hp : POk g p) (side : Int) (c : Nat) : SzP g (ziF side p c) := by
 have h1 := hp.al
 have h2 := hp.h0.len
 have h3 := hp.h1.len
 unfold ziF SzP zaj.withHand zaj.hand
 simp only
 split <;> simp [List.length_set, h1, h2, h3]
theorem zqF {g : zaf} (hg : GOk g) {p : zaj} (hp : POk g p) : (∀ q ∈ zdh g p, SzP g q) ∧ ∀ q ∈ zdi g p, SzP g q := by
 have hs := hp.s
 have hA : ∀ q ∈ zeW g (1 - p.side) p, SzP g q := fun q hq => by
  have := zv4 hg (side := 1 - p.side) (by omega) hp q hq
  exact ⟨this.al, this.h0.len, this.h1.len⟩
 refine ⟨fun q hq => ?_, fun q hq => ?_⟩
 ·rcases List.mem_append.1 hq with h | h
  ·exact hA q h
  ·obtain ⟨c, _, rfl⟩ := List.mem_map.1 h
   exact zqQ hp _ _
 ·rcases List.mem_append.1 hq with h | h
  ·exact hA q h
  ·obtain ⟨c, _, rfl⟩ := List.mem_map.1 h
   exact zqQ hp _ _
def zqy (g : zaf) (p : zaj) (l : List zaj) (i : Nat) : List zaj := (l.take i).filter fun q => zeH g q && decide (p ∈ zaH g q)
theorem znn (g : zaf) (p : zaj) (l : List zaj) : zqy g p l 0 = [] := by simp [zqy]
theorem znm {g : zaf} {p : zaj} {l : List zaj} {i : Nat} (hi : i < l.length) : zqy g p l (i + 1) = if zeH g (nth l i) = true ∧ p ∈ zaH g (nth l i) then zqy g p l i ++ [nth l i] else zqy g p l i := by
 unfold zqy
 rw [List.take_add_one, List.getElem?_eq_getElem hi, ← zaJ _ _ hi, Option.toList_some, List.filter_append]
 by_cases h : zeH g (nth l i) = true ∧ p ∈ zaH g (nth l i)
 ·rw [if_pos h]
  simp [h.1, h.2]
 ·rw [if_neg h]
  have : (zeH g (nth l i) && decide (p ∈ zaH g (nth l i))) = false := by
   rw [Bool.eq_false_iff]
   intro h2
   rw [Bool.and_eq_true, decide_eq_true_eq] at h2
   exact h h2
  simp [this]
theorem zvV (g : zaf) (p : zaj) : zqy g p (zbk zbw (zdh g p)) (zbk zbw (zdh g p)).length = zaG g p := by
 unfold zqy zaG
 rw [List.take_length]
theorem zqz (g : zaf) (p : zaj) (l : List zaj) (i : Nat) : (zqy g p l i).length ≤ l.length := by
 unfold zqy
 have h1 := List.length_filter_le (fun q => zeH g q && decide (p ∈ zaH g q)) (l.take i)
 rw [List.length_take] at h1
 omega
theorem zns {g : zaf} {n : Nat} {l : List zaj} {q : zaj} (hq : q ∈ l) (h : 4000 < (zaG g q).length) : zb2 g (n + 1) l = ([], 2) := by
 rw [zb2, if_neg]
 intro h2
 have := of_decide_eq_true (List.all_eq_true.1 h2 q hq)
 omega
theorem zqG {g : zaf} {n : Nat} {l : List zaj} (h : ∀ q ∈ l, (zaG g q).length ≤ 4000) : zb2 g (n + 1) l = if 4000 < (zbk zbw (l.flatMap (zaG g))).length then ([], 2) else zb2 g n (zbk zbw (l.flatMap (zaG g))) := by
 rw [zb2, if_pos (List.all_eq_true.2 fun q hq => decide_eq_true (h q hq))]
def zuQ (g : zaf) (l : List zaj) (k : Nat) : List zaj := (l.take k).flatMap (zaG g)
theorem zon (g : zaf) (l : List zaj) : zuQ g l 0 = [] := rfl
theorem zom (g : zaf) {l : List zaj} {k : Nat} (hk : k < l.length) : zuQ g l (k + 1) = zuQ g l k ++ zaG g (nth l k) := by
 unfold zuQ
 rw [List.take_add_one, List.getElem?_eq_getElem hk, ← zaJ _ _ hk, Option.toList_some, List.flatMap_append]
 simp
theorem zqW (g : zaf) (l : List zaj) : zuQ g l l.length = l.flatMap (zaG g) := by
 unfold zuQ
 rw [List.take_length]
theorem zqX {g : zaf} {l : List zaj} {k : Nat} (h : ∀ j, j < k → j < l.length → (zaG g (nth l j)).length ≤ 4000) : (zuQ g l k).length ≤ l.length * 4000 := by
 unfold zuQ
 have := za4 (zaG g) 4000 (l.take k) fun q hq => by
  obtain ⟨j, hj, rfl⟩ := ze5 hq
  rw [List.length_take] at hj
  have e : nth (l.take k) j = nth l j := by
   unfold nth
   rw [List.getD_eq_getElem?_getD, List.getD_eq_getElem?_getD, List.getElem?_take_of_lt (by omega)]
  rw [e]
  exact h j (by omega) (by omega)
 rw [List.length_take] at this
 exact Nat.le_trans this (Nat.mul_le_mul_right _ (Nat.min_le_right _ _))
theorem zuR {g : zaf} (hg : GOk g) {l : List zaj} {k : Nat} : ∀ q ∈ zuQ g l k, POk g q := fun q hq => by
 obtain ⟨r, _, hq⟩ := List.mem_flatMap.1 hq
 exact zdm hg hq
theorem zqx {g : zaf} {p : zaj} (h : (zaG g p).length ≤ 4000) : zbC g p = (zaG g p, 0) := by
 unfold zbC
 rw [if_neg (by omega)]
theorem znl {g : zaf} {p : zaj} (h : 4000 < (zaG g p).length) : zbC g p = ([], 2) := by
 unfold zbC
 rw [if_pos h]
def tkF (g : zaf) (side : Int) (p : zaj) (a i : Nat) : List zaj := ((List.range g.kinds.length).drop i).flatMap (tkL g side p a)
theorem zwY {g : zaf} (side : Int) (p : zaj) (a : Nat) {i : Nat} (hi : i < g.kinds.length) : tkF g side p a i = tkL g side p a i ++ tkF g side p a (i + 1) := by
 unfold tkF
 have e : (List.range g.kinds.length).drop i = i :: (List.range g.kinds.length).drop (i + 1) := by
  rw [List.drop_eq_getElem_cons (by simpa using hi)]; simp
 rw [e, List.flatMap_cons]
theorem zyt (g : zaf) (side : Int) (p : zaj) (a : Nat) : tkF g side p a g.kinds.length = [] := by
 unfold tkF
 rw [List.drop_eq_nil_of_le (by simp)]
 rfl
end Go.Av
end
section
/- Our library: ranges zd7 functions, and iterators: equations and steps. -/
namespace Go.Av
open Go
section
variable {P : Program} {n0 : Nat} {Q : zbX} {e : Env} {h : zav} {n : Nat} {ops rest : List Oper}
def zfi (P : Program) (n0 : Nat) (ps : List Tmp) (a b : Code) (Q : zbX) (v : AV) (e : Env) (h : zav) (n : Nat) : Prop :=
 (∃ f caps caps' more rows h', v = .fn (.func f) [] caps ∧ Frz h h' ∧ zai h h' n caps caps' ∧ (∀ c ∈ caps', Bel 0 c) ∧ zm4 P f caps' more rows ∧
  (∀ xs ∈ rows, xs.length = ps.length) ∧ Fgt n0 (zbr n0 more ps (fun n1 => awp P n1 a) (fun n1 => awp P n1 b) Q rows) e h' n) ∨
 (∃ f caps caps' o gn sz rs rs' more rows h', v = .fn (.func f) [] caps ∧ Frz h h' ∧ h' o = some (.rows true gn sz rs) ∧ zae h h' n rs rs' ∧ (∀ r ∈ rs', ∀ c ∈ r, Bel 0 c) ∧
  zgo h h' n o caps caps' ∧ zoR P f caps' [(0, .rows true gn sz rs')] 1 more rows ∧
  (∀ xs ∈ rows, xs.length = ps.length) ∧ Fgt n0 (zbr n0 more ps (fun n1 => awp P n1 a) (fun n1 => awp P n1 b) Q rows) e (upd h' o none) n)
@[congr] theorem zw8 {ps : List Tmp} {a b : Code} {v v' : AV} (hv : v = v') : zfi P n0 ps a b Q v e h n = zfi P n0 ps a b Q v' e h n := by subst hv; rfl
theorem zfi.mk {ps : List Tmp} {a b : Code} {f : FuncId} {caps : List AV} (caps' : List AV) (h' : zav) {more : Nat} {rows : List (List AV)} (C : zm4 P f caps' more rows) (hfz : Frz h h') (hle : zai h h' n caps caps') (hb : ∀ c ∈ caps', Bel 0 c)
  (hlen : ∀ xs ∈ rows, xs.length = ps.length) (hk : Fgt n0 (zbr n0 more ps (fun n1 => awp P n1 a) (fun n1 => awp P n1 b) Q rows) e h' n) : zfi P n0 ps a b Q (.fn (.func f) [] caps) e h n :=
 .inl ⟨f, caps, caps', more, rows, h', rfl, hfz, hle, hb, C, hlen, hk⟩
theorem zfi.give {ps : List Tmp} {a b : Code} {f : FuncId} {caps : List AV} (caps' : List AV) (h' : zav) (o : Nat) {gn sz : Nat} {rs : List (List AV)} (rs' : List (List AV)) {more : Nat} {rows : List (List AV)}
  (C : zoR P f caps' [(0, .rows true gn sz rs')] 1 more rows) (hfz : Frz h h') (ho : h' o = some (.rows true gn sz rs)) (hr : zae h h' n rs rs') (hbr : ∀ r ∈ rs', ∀ c ∈ r, Bel 0 c) (hg : zgo h h' n o caps caps')
  (hlen : ∀ xs ∈ rows, xs.length = ps.length) (hk : Fgt n0 (zbr n0 more ps (fun n1 => awp P n1 a) (fun n1 => awp P n1 b) Q rows) e (upd h' o none) n) : zfi P n0 ps a b Q (.fn (.func f) [] caps) e h n :=
 .inr ⟨f, caps, caps', o, gn, sz, rs, rs', more, rows, h', rfl, hfz, ho, hr, hbr, hg, C, hlen, hk⟩
theorem zy4 {ps : List Tmp} {a b : Code} {more : Nat} {xs : List AV} {rs : List (List AV)} (hn : n0 ≤ n)
  (hk : awp P n a (zvJ (awp P n b (zqm (Fgt n0 (zbr n0 more ps (fun n1 => awp P n1 a) (fun n1 => awp P n1 b) Q rs)) Q e))) (zgF ps xs e) h n) :
  zbr n0 more ps (fun n1 => awp P n1 a) (fun n1 => awp P n1 b) Q (xs :: rs) e h n := ⟨hn, hk⟩
theorem Fgt.to {K : Env → zav → Nat → Prop} {E : List (Nat × AV)} {HH : List (Nat × zbz)} {n' : Nat} (hk : K (mkE E) (mkH HH) n') (hw : Wk e h n E HH n') (hn : n0 ≤ n') : Fgt n0 K e h n := .inr ⟨E, HH, n', hw, hn, hk⟩
theorem zy1 {α : Type} (S : α → List (Nat × AV) × List (Nat × zbz) × Nat) (inv : List (List AV) → α → Prop) {ps : List Tmp} {A B : Nat → zbX → Env → zav → Nat → Prop} {more : Nat}
  (h0 : ∀ d, inv [] d → more = 0 ∧ Q .normal (mkE (S d).1) (mkH (S d).2.1) (S d).2.2)
  (h1 : ∀ xs rs d, inv (xs :: rs) d → (∀ d', inv rs d' → zbr n0 more ps A B Q rs (mkE (S d').1) (mkH (S d').2.1) (S d').2.2) → zbr n0 more ps A B Q (xs :: rs) (mkE (S d).1) (mkH (S d).2.1) (S d).2.2) :
  ∀ rows d, inv rows d → zbr n0 more ps A B Q rows (mkE (S d).1) (mkH (S d).2.1) (S d).2.2
 | [], d, hi => h0 d hi
 | xs :: rs, d, hi => h1 xs rs d hi fun d' hi' => zy1 S inv h0 h1 rs d' hi'
theorem zu5 {xs : List AV} : zgF [] xs e = e := by simp [zgF]
theorem zrD.mk {dst : Option Tmp} {l more : Nat} {args xs : List AV} {rs : List (List AV)} (h' : zav) (hg : e GH = zbh l more (xs :: rs)) (hfz : Frz h h') (hle : zai h h' n args xs) (hb : ∀ c ∈ xs, Bel 0 c)
  (hT : zdw P ops Q rest (put (upd e GH (zbh l more rs)) dst (.v (.bool true))) h' n) (hF : zdw P ops Q rest (put (upd e GH (zbh l 2 [])) dst (.v (.bool false))) h' n) : zrD P ops Q rest dst l args e h n :=
 ⟨l, more, xs :: rs, rfl, hg, h', hfz, hle, hb, hT, hF⟩
theorem zrD.exh {dst : Option Tmp} {l : Nat} {args : List AV} (hg : e GH = zbh l 1 []) : zrD P ops Q rest dst l args e h n := ⟨l, 1, [], rfl, hg, rfl⟩
theorem aGC.yld {dst : Option Tmp} {l more : Nat} {args xs : List AV} {rs : List (List AV)} (h' : zav) (hg : e GH = zbh l more (xs :: rs)) (hfz : Frz h h') (hle : zai h h' n args xs) (hb : ∀ c ∈ xs, Bel 0 c)
  (hT : zdw P ops Q rest (put (upd e GH (zbh l more rs)) dst (.gd true (.v (.bool true)))) h' n) (hF : zdw P ops Q rest (put (upd e GH (zbh l 2 [])) dst (.gd true (.v (.bool false)))) h' n) :
  aGC P ops Q rest dst true (.fn (.yield l) [] []) args e h n := .inr (.inr ⟨rfl, l, more, xs :: rs, rfl, hg, h', hfz, hle, hb, hT, hF⟩)
theorem aGC.exh {dst : Option Tmp} {l : Nat} {args : List AV} (hg : e GH = zbh l 1 []) : aGC P ops Q rest dst true (.fn (.yield l) [] []) args e h n := .inr (.inr ⟨rfl, l, 1, [], rfl, hg, rfl⟩)
theorem zm0 {h h' : zav} {o : Nat} : zgo h h' n o [] [] = True := eq_true .nil
theorem zm1 {h h' : zav} {o g sz i off : Nat} {xs ys : List AV} : zgo h h' n o (.ref o g sz i off :: xs) (.ref 0 g sz i off :: ys) = zgo h h' n o xs ys := by
 refine propext ⟨fun hg => ?_, .ref⟩
 cases hg with
 | ref t => exact t
 | le hx hb t => cases hb with | ref hb => exact absurd hb (Nat.not_lt_zero _)
theorem zql {h h' : zav} {o : Nat} {x : AV} {cells xs ys : List AV} : zgo h h' n o (x :: xs) (.fp cells :: ys) = (LeV h h' n x (.fp cells) ∧ (∀ c ∈ cells, Bel 0 c) ∧ zgo h h' n o xs ys) := by
 refine propext ⟨fun hg => ?_, fun ⟨h1, h2, h3⟩ => .le h1 (.fp h2) h3⟩
 cases hg with
 | le hx hb t => cases hb with | fp hb => exact ⟨hx, hb, t⟩
attribute [go_sem] zm0 zm1 zql
attribute [go_sem] zu5 zo8
end
end Go.Av
end
section
open Go Go.Proofs
namespace Go.Av
def zcm (b : zaL) (side d : Int) : Nat → Int → List Int
 | 0, _ => []
 | k + 1, x => if 0 ≤ x then x :: zcm b side d k (toB b side d x) else []
def zbp (b : zaL) (side d : Int) : Nat → Int → Nat
 | 0, x => if 0 ≤ x then 1 else 0
 | k + 1, x => if 0 ≤ x then zbp b side d k (toB b side d x) else 0
theorem zks {b : zaL} {side d : Int} : ∀ {k : Nat} {x : Int}, zbp b side d k x ≠ 2
 | 0, x => by unfold zbp; split <;> omega
 | k + 1, x => by unfold zbp; split; exact zks; omega
theorem zsY (b : zaL) (hb : za2 b) (side d c : Int) (k : Nat) : zm4 Tryz.prog 291 [.fp (zde b), .fp [.v (.int .i64 side)], .fp [.v (.int .i64 d)], .fp [.v (.int .i64 c)]]
  (zbp b side d k (toB b side d c)) ((zcm b side d k (toB b side d c)).map zb3) := by
 refine zy3 (by kernel_rfl) Tryz.func291 rfl rfl (Nat.le_of_ble_eq_true rfl) (by kernel_rfl) (fun l => ?_) (hm2 := zks)
 have hbl : ∀ n, (∀ c' ∈ zde b, Bel n c') = True := fun n => by simp [go_sem]
 have hel : (zde b).length = 3 := rfl
 have hT : ∀ x, zaC Tryz.prog 254 [.agg (zde b), .v (.int .i64 side), .v (.int .i64 d), .v (.int .i64 x)] (.v (.int .i64 (toB b side d x))) := fun x => ziP b hb side d x
 have hg : ∀ (n k : Nat) (x : Int), Bel n (zbh l (zbp b side d k x) ((zcm b side d k x).map zb3)) := fun n k x => by
  simp only [zbh, zqi, zl4, List.forall_mem_cons, zvG, zcN]
  simp [go_sem]
 obtain ⟨eb, heb⟩ : ∃ eb, eb = zde b := ⟨_, rfl⟩
 rw [← heb] at hbl hel hT ⊢
 have hte : eb.take 3 = eb := List.take_of_length_le (by omega)
 repeat first|with_reducible refine wV fun _=>?_|simp [go_sem, hel, GH, hte]
 refine zyJ (hT c) (by simp [go_sem, hbl]) ?_
 repeat first|with_reducible refine wV fun _=>?_|simp [go_sem, hel, GH, hte]
 refine zyI (zyN (α := Nat × Int) (fun a => ⟨[(0, .fn (.yield l) [] []), (1, .fp eb), (2, .fp [.v (.int .i64 side)]), (3, .fp [.v (.int .i64 d)]), (6, .v (.int .i64 a.2)), (1000000007, zbh l (zbp b side d a.1 a.2) ((zcm b side d a.1 a.2).map zb3))], [], 0⟩)
  (fun f a => f = a.1 ∧ zbp b side d a.1 a.2 = zbp b side d k (toB b side d c)) ?_ k (k, toB b side d c) ?_) ?_ ?_
 ·rintro f ⟨k', x⟩ ⟨i1, i2⟩ hrec
  simp only at i1 i2
  subst i1
  repeat first|with_reducible refine wV fun _=>?_|simp [go_sem, hel, GH, hte]
  by_cases hx : 0 ≤ x
  ·simp only [hx, decide_true]
   cases f with
   | zero => exact aGC.exh (by simp [upd, GH, zbp, zcm, hx])
   | succ f =>
    refine aGC.yld (more := zbp b side d f (toB b side d x)) (xs := [.v (.int .i64 x)]) (rs := (zcm b side d f (toB b side d x)).map zb3) noH (by simp [upd, GH, zbp, zcm, hx, zb3]) (.refl _) (.refl _ _ _ _) (by simp [go_sem]) ?_ ?_
    ·repeat first|with_reducible refine wV fun _=>?_|simp [go_sem, hel, GH, hte]
     refine zyJ (hT x) (by simp [go_sem, hbl]) ?_
     repeat first|with_reducible refine wV fun _=>?_|simp [go_sem, hel, GH, hte]
     rw [zbp, if_pos hx] at i2
     refine zyI (hrec f (by omega) (f, toB b side d x) ⟨rfl, i2⟩) ?_ (by simp)
     simp [go_sem, zah, hbl, hg, GH]
    ·repeat first|with_reducible refine wV fun _=>?_|simp [go_sem, hel, GH, hte]
  ·have hm : zbp b side d f x = 0 := by cases f <;> simp [zbp, hx]
   have hr : zcm b side d f x = [] := by cases f <;> simp [zcm, hx]
   simp only [hx, decide_false]
   refine aGC.skip (.v (.bool false)) ?_
   repeat first|with_reducible refine wV fun _=>?_|simp [go_sem, hel, GH, hte]
   rw [← i2, hm, hr]
   exact .inl ⟨rfl, rfl⟩
 ·exact ⟨rfl, rfl⟩
 ·simp [go_sem, zah, hbl, hg, GH]
 ·simp
def zoD (n : Nat) : AV := .fn (.func 291) [] [.ref n 0 3 0 0, .ref (n + 1) 0 1 0 0, .ref (n + 2) 0 1 0 0, .ref (n + 3) 0 1 0 0]
def zoC (b : zaL) (side d c : Int) (n : Nat) : List (Nat × zbz) := [(n, .rows true 0 3 [zde b]), (n + 1, .rows true 0 1 [[.v (.int .i64 side)]]), (n + 2, .rows true 0 1 [[.v (.int .i64 d)]]), (n + 3, .rows true 0 1 [[.v (.int .i64 c)]])]
theorem zsZ (b : zaL) (side d c : Int) : zgf Tryz.prog 282 [.agg (zde b), .v (.int .i64 side), .v (.int .i64 d), .v (.int .i64 c)] zoD (zoC b side d c) 4 := by
 refine ⟨?_, fun n => ⟨by simp [go_sem, zoD], by simp [go_sem, zoC]⟩⟩
 refine zyL (by kernel_rfl) Tryz.func282 rfl rfl (Nat.le_of_ble_eq_true rfl) (by kernel_rfl) ?_
 repeat first|with_reducible refine wV fun _=>?_|simp [go_sem, zoD, zoC]
 simp [go_sem, zah]
theorem zlc (b : zaL) (hb : za2 b) (side d c : Int) : zaC Tryz.prog 255 [.agg (zde b), .v (.int .i64 side), .v (.int .i64 d), .v (.int .i64 c)] (zas (zfH b side d c)) := by
 refine pF Tryz.func255 ?_
 have hbl : ∀ n, (∀ c' ∈ zde b, Bel n c') = True := fun n => by simp [go_sem]
 have hel : (zde b).length = 3 := rfl
 have hS : zgf Tryz.prog 282 [.agg (zde b), .v (.int .i64 side), .v (.int .i64 d), .v (.int .i64 c)] (fun n => zoD n) (fun n => zoC b side d c n) 4 := zsZ b side d c
 have hQ := fun k => zsY b hb side d c k
 simp only [zoD, zoC] at hS
 have hte : (zde b).take 3 = zde b := rfl
 obtain ⟨eb, heb⟩ : ∃ eb, eb = zde b := ⟨_, rfl⟩
 rw [← heb] at hbl hel hS hQ hte ⊢
 have hc1 := hb.c1
 have hc0 := hb.c0
 repeat first|with_reducible refine wV fun _=>?_|simp [go_sem, hel, hte, GH]
 refine zyO hS (by simp [go_sem, hbl]) ?_
 repeat first|with_reducible refine wV fun _=>?_|simp [go_sem, hel, hte, GH]
 refine zfi.mk [.fp eb, .fp [.v (.int .i64 side)], .fp [.v (.int .i64 d)], .fp [.v (.int .i64 c)]] (zaK _ [3, 4, 5, 6]) (hQ (b.cells.toNat + 1)) (zc5 _ _) ?_ (by simp [go_sem, hbl]) (by simp [zb3]) ?_
 ·refine zai.cons (.frzP rfl ?_ ?_ ?_ ?_) (zai.cons (.frzP rfl ?_ ?_ ?_ ?_) (zai.cons (.frzP rfl ?_ ?_ ?_ ?_) (zai.cons (.frzP rfl ?_ ?_ ?_ ?_) .nil))) <;> first | exact zai.refl _ _ _ _ | simp [zaK, zaR, upd]
 refine Fgt.to (zy1 (α := Nat × Int × List Int) (fun a => ([(7, .ref 1 0 1 0 0), (9, .ref 2 0 1 0 0)], [(1, .rows true 0 1 [[.v (.int .i64 c)]]), (2, .rows true 0 1 [[.sl 7 a.2.2.length 1 0 a.2.2.length]]), (7, .rows true a.2.2.length 1 (a.2.2.map zb3))], 8))
  (fun rows a => rows = (zcm b side d a.1 a.2.1).map zb3 ∧ zbp b side d a.1 a.2.1 = zbp b side d (b.cells.toNat + 1) (toB b side d c) ∧ a.1 + a.2.2.length = b.cells.toNat + 1 ∧ a.2.1 < b.cells ∧ a.2.2.Nodup ∧
   (∀ y ∈ a.2.2, 0 ≤ y ∧ y < b.cells) ∧ zfH b side d c = zd3 b side d c a.1 a.2.1 a.2.2) ?_ ?_ _ (b.cells.toNat + 1, toB b side d c, []) ?_) ?_ ?_
 ·rintro ⟨f, x, seen⟩ ⟨i0, i1, i2, i3, i4, i5, i6⟩
  simp only at i0 i1 i2 i3 i4 i5 i6
  have hsl : seen.length ≤ b.cells.toNat := zf3 _ _ i4 (fun y hy => by have := i5 y hy; omega)
  obtain ⟨f, rfl⟩ : ∃ f', f = f' + 1 := ⟨f - 1, by omega⟩
  have hx : ¬ 0 ≤ x := fun hx => by simp [zcm, hx] at i0
  rw [zbp, if_neg hx] at i1
  rw [zd3, if_neg (fun h => hx h.1)] at i6
  refine ⟨i1.symm, ?_⟩
  rw [i6]
  repeat first|with_reducible refine wV fun _=>?_|simp [go_sem, hel]
  exact frX
 ·rintro xs rs ⟨f, x, seen⟩ ⟨i0, i1, i2, i3, i4, i5, i6⟩ hrec
  simp only at i0 i1 i2 i3 i4 i5 i6
  have hsl : seen.length ≤ b.cells.toNat := zf3 _ _ i4 (fun y hy => by have := i5 y hy; omega)
  cases f with
  | zero => simp [zcm] at i0
  | succ f =>
  have hx : 0 ≤ x := by
   by_cases hx : 0 ≤ x
   ·exact hx
   ·simp [zcm, hx] at i0
  rw [zcm, if_pos hx] at i0
  simp only [List.map_cons, List.cons.injEq] at i0
  obtain ⟨rfl, rfl⟩ := i0
  rw [zbp, if_pos hx] at i1
  rw [zd3] at i6
  refine zy4 (Nat.zero_le _) ?_
  repeat first|with_reducible refine wV fun _=>?_|simp [go_sem, hel, GH, zb3]
  refine zzl [zas seen, .v (.int .i64 x)] (.v (.bool (decide (x ∈ seen)))) (fun _ => zl9 seen x (by omega)) (.v _) ?_ (by simp [go_sem]) ?_
  ·refine zai.cons ?_ (zai.cons (.refl _) zai.nil)
   refine LeV.frz rfl ?_ ?_ (zyT ?_) <;> simp [noH, List.take_of_length_le]
  repeat first|with_reducible refine wV fun _=>?_|simp [go_sem, hel, GH]
  refine zyK (fun hc => ?_) (fun hc => ?_) <;> simp at hc
  ·rw [if_neg (by rintro ⟨h1, h2, h3⟩; rcases hc with h | h <;> contradiction)] at i6
   rw [i6]
   repeat first|with_reducible refine wV fun _=>?_|simp [go_sem, hel, GH]
   exact frX
  ·rw [if_pos ⟨hx, by simpa using hc⟩] at i6
   repeat first|with_reducible refine wV fun _=>?_|simp [go_sem, hel, GH]
   refine Fgt.to (hrec (f, toB b side d x, seen ++ [x]) ⟨rfl, i1, by simp only [List.length_append, List.length_singleton]; omega, zfQ hb _ _ _, ?_, ?_, i6⟩) ?_ (by simp)
   ·refine List.nodup_append.2 ⟨i4, by simp, ?_⟩
    intro y hy z hz
    simp at hz
    subst hz
    rintro rfl
    exact hc.2 hy
   ·intro y hy
    rcases List.mem_append.1 hy with h | h
    ·exact i5 y h
    ·simp at h; omega
   ·simp [go_sem, zah, GH] <;> (first|done|exact blX)
 ·exact ⟨rfl, rfl, by simp, zfQ hb _ _ _, by simp, by simp, rfl⟩
 ·simp [go_sem, zah]
 ·simp
theorem zfE (c : Int) : zaC Tryz.prog 138 [.v (.int .i64 c)] (.tup [.v (.int .i64 (zaq c).1), .v (.int .i64 (zaq c).2)]) := by
 refine pF Tryz.func138 ?_
 unfold zaq
 by_cases h1 : c < 1
 ·rw [if_neg (by omega)]
  repeat first|with_reducible refine wV fun _=>?_|simp [go_sem, h1]
 ·by_cases h2 : 12 < c
  ·rw [if_neg (by omega)]
   repeat first|with_reducible refine wV fun _=>?_|simp [go_sem, h1, h2]
  ·rw [if_pos (by omega)]
   have e1 : (c - 1).tdiv 2 = (c - 1) / 2 := Int.tdiv_eq_ediv_of_nonneg (by omega)
   have e2 : (c - 1).tmod 2 = (c - 1) % 2 := Int.tmod_eq_emod_of_nonneg (by omega)
   have b1 : 0 ≤ (c - 1).tdiv 2 ∧ (c - 1).tdiv 2 ≤ 12 := by omega
   have b2 : 0 ≤ (c - 1).tmod 2 ∧ (c - 1).tmod 2 ≤ 12 := by omega
   clear e1 e2
   repeat first|with_reducible refine wV fun _=>?_|simp [go_sem, h1, h2]
theorem zdO (k s : Int) : zaC Tryz.prog 122 [.v (.int .i64 k), .v (.int .i64 s)] (.v (.int .i64 (zaD k s))) := by
 refine pF Tryz.func122 ?_
 unfold zaD
 by_cases h1 : k < 0
 ·rw [if_neg (by omega)]
  repeat first|with_reducible refine wV fun _=>?_|simp [go_sem, h1]
 by_cases h2 : 6 ≤ k
 ·rw [if_neg (by omega)]
  repeat first|with_reducible refine wV fun _=>?_|simp [go_sem, h1, h2]
 by_cases h3 : s < 0
 ·rw [if_neg (by omega)]
  repeat first|with_reducible refine wV fun _=>?_|simp [go_sem, h1, h2, h3]
 by_cases h4 : 1 < s
 ·rw [if_neg (by omega)]
  repeat first|with_reducible refine wV fun _=>?_|simp [go_sem, h1, h2, h3, h4]
 ·rw [if_pos (by omega), show 2 * k + 1 + s = 1 + 2 * k + s by omega]
  repeat first|with_reducible refine wV fun _=>?_|simp [go_sem, h1, h2, h3, h4]
theorem zlz (x : Int) : zaC Tryz.prog 155 [.v (.int .i64 x)] (.v (.bool false)) := by
 refine pF Tryz.func155 ?_
 repeat first|with_reducible refine wV fun _=>?_|simp [go_sem]
theorem zdI (a b : Int) : zaC Tryz.prog 96 [.v (.int .i64 a), .v (.int .i64 b)] (.v (.int .i64 (zba a b))) := by
 refine pF Tryz.func96 ?_
 repeat first|with_reducible refine wV fun _=>?_|simp [go_sem]
 refine zyJ (zlz a) (by simp [go_sem]) ?_
 repeat first|with_reducible refine wV fun _=>?_|simp [go_sem]
 refine zyJ (zlz b) (by simp [go_sem]) ?_
 unfold zba
 by_cases h1 : a < b
 ·rw [if_pos h1]
  repeat first|with_reducible refine wV fun _=>?_|simp [go_sem, h1]
 ·by_cases h2 : b < a
  ·rw [if_neg h1, if_pos h2]
   repeat first|with_reducible refine wV fun _=>?_|simp [go_sem, h1, h2]
  ·rw [if_neg h1, if_neg h2]
   repeat first|with_reducible refine wV fun _=>?_|simp [go_sem, h1, h2]
def orI : List Int → Int
 | [] => 0
 | x :: l => if x = 0 then orI l else x
theorem zqE (l : List Int) (hl : zeR l) : zaC Tryz.prog 94 [zas l] (.v (.int .i64 (orI l))) := by
 refine pF Tryz.func94 ?_
 unfold zeR at hl
 repeat first|with_reducible refine wV fun _=>?_|simp [go_sem]
 refine zyI (zyN (α := Nat) (fun j => ⟨[(3, .v (.int .i64 0)), (6, zas l), (7, .v (.int .i64 l.length)), (8, .v (.int .i64 j))], [], 0⟩)
  (fun d j => j + d = l.length ∧ orI l = orI (l.drop j)) ?_ l.length 0 ?_) ?_ ?_
 ·rintro d j ⟨i1, i2⟩ hrec
  repeat first|with_reducible refine wV fun _=>?_|simp [go_sem]
  refine zyK (fun hj => ?_) (fun hj => ?_) <;> simp at hj
  ·rw [zfy hj, orI] at i2
   repeat first|with_reducible refine wV fun _=>?_|simp [go_sem, hj]
   by_cases h0 : nth l j = 0
   ·rw [if_pos h0] at i2
    repeat first|with_reducible refine wV fun _=>?_|simp [go_sem, h0]
    refine zyI (hrec (d - 1) (by omega) (j + 1) ⟨by omega, i2⟩) ?_ (by simp)
    simp [go_sem, zah]
   ·rw [if_neg h0] at i2
    rw [i2]
    repeat first|with_reducible refine wV fun _=>?_|simp [go_sem, h0]
  ·rw [List.drop_eq_nil_of_le hj, orI] at i2
   rw [i2]
   repeat first|with_reducible refine wV fun _=>?_|simp [go_sem]
 ·simp
 ·simp [go_sem, zah]
 ·simp
theorem zfc (a b : List Int) (ha : zeR a) (hb : zeR b) : zaC Tryz.prog 95 [zas a, zas b] (.v (.int .i64 (zey a b))) := by
 refine pF Tryz.func95 ?_
 unfold zeR at ha hb
 repeat first|with_reducible refine wV fun _=>?_|simp [go_sem]
 refine zyI (zyN (α := Nat) (fun j => ⟨[(0, zas a), (1, zas b), (9, zas a), (10, .v (.int .i64 a.length)), (11, .v (.int .i64 j))], [], 0⟩)
  (fun d j => j + d = a.length ∧ j ≤ b.length ∧ zey a b = zey (a.drop j) (b.drop j)) ?_ a.length 0 ?_) ?_ ?_
 ·rintro d j ⟨i1, i2, i3⟩ hrec
  repeat first|with_reducible refine wV fun _=>?_|simp [go_sem]
  refine zyK (fun hj => ?_) (fun hj => ?_) <;> simp at hj
  ·rw [zfy hj] at i3
   repeat first|with_reducible refine wV fun _=>?_|simp [go_sem, hj]
   by_cases hk : j < b.length
   ·rw [zfy hk, zey] at i3
    have hk' : ¬ b.length ≤ j := by omega
    repeat first|with_reducible refine wV fun _=>?_|simp [go_sem, hj, hk, hk']
    refine zyJ (zdI _ _) (by simp [go_sem]) ?_
    by_cases he : nth a j = nth b j
    ·rw [if_pos he] at i3
     have hn : zba (nth a j) (nth b j) = 0 := by simp [zba, he]
     rw [hn]
     repeat first|with_reducible refine wV fun _=>?_|simp [go_sem]
     refine zyI (hrec (d - 1) (by omega) (j + 1) ⟨by omega, by omega, i3⟩) ?_ (by simp)
     simp [go_sem, zah]
    ·rw [if_neg he] at i3
     have hn : zba (nth a j) (nth b j) ≠ 0 := by unfold zba; split <;> (try split) <;> omega
     rw [i3]
     repeat first|with_reducible refine wV fun _=>?_|simp [go_sem, hn]
   ·have hk' : b.length ≤ j := by omega
    rw [List.drop_eq_nil_of_le hk', zgh] at i3
    have : zey a b = 1 := by rw [i3]; unfold zba; rw [if_neg (by simp only [List.length_cons]; omega), if_pos (by simp only [List.length_cons]; omega)]
    rw [this]
    repeat first|with_reducible refine wV fun _=>?_|simp [go_sem, hj, hk, hk']
  ·have hja : j = a.length := by omega
   subst hja
   rw [List.drop_eq_nil_of_le (Nat.le_refl _), zg0] at i3
   rw [i3]
   unfold zba
   by_cases hb' : a.length < b.length
   ·rw [if_pos (by simp; omega)]
    repeat first|with_reducible refine wV fun _=>?_|simp [go_sem, hb']
   ·rw [if_neg (by simp; omega), if_neg (by omega)]
    repeat first|with_reducible refine wV fun _=>?_|simp [go_sem, hb']
 ·simp
 ·simp [go_sem, zah]
 ·simp
theorem zxV (p q : zaj) : orI [zey p.at_ q.at_, zey p.h0 q.h0, zey p.h1 q.h1, zba p.rights q.rights, zba p.side q.side] = zbw p q := by
 unfold zbw
 simp only [orI]
 repeat' split
 all_goals first | rfl | omega
theorem zbI (p q : zaj) (hp : zaW p) (hq : zaW q) : zaC Tryz.prog 42 [.agg (zad p), .agg (zad q)] (.v (.int .i64 (zbw p q))) := by
 refine pF Tryz.func42 ?_
 obtain ⟨p1, p2, p3⟩ := hp
 obtain ⟨q1, q2, q3⟩ := hq
 rw [← zxV]
 have c1 := zfc _ _ p1 q1
 have c2 := zfc _ _ p2 q2
 have c3 := zfc _ _ p3 q3
 have c4 := zdI p.rights q.rights
 have c5 := zdI p.side q.side
 generalize zey p.at_ q.at_ = x1 at *
 generalize zey p.h0 q.h0 = x2 at *
 generalize zey p.h1 q.h1 = x3 at *
 generalize zba p.rights q.rights = x4 at *
 generalize zba p.side q.side = x5 at *
 repeat first|with_reducible refine wV fun _=>?_|simp [go_sem]
 refine zyM c1 (by simp [go_sem]) ?_
 repeat first|with_reducible refine wV fun _=>?_|simp [go_sem]
 refine zyM c2 (by simp [go_sem]) ?_
 repeat first|with_reducible refine wV fun _=>?_|simp [go_sem]
 refine zyM c3 (by simp [go_sem]) ?_
 repeat first|with_reducible refine wV fun _=>?_|simp [go_sem]
 refine zyM c4 (by simp [go_sem]) ?_
 repeat first|with_reducible refine wV fun _=>?_|simp [go_sem]
 refine zyM c5 (by simp [go_sem]) ?_
 repeat first|with_reducible refine wV fun _=>?_|simp [go_sem]
 refine zay.frz [zas [x1, x2, x3, x4, x5]] _ [31] [(31, some (.rows false 0 1 ([x1, x2, x3, x4, x5].map zb3)))] (zqE _ (by unfold zeR; simp)) ?_ ?_ (by simp [go_sem]) ?_
 ·intro p hp
  simp only [List.mem_singleton] at hp
  subst hp
  exact ⟨by simp, 0, 1, _, rfl, by simp [upd, go_sem]⟩
 ·intro h₁ hS
  have h7 := hS 31 (by simp)
  simp [go_sem] at h7
  exact .cons (zam h7.symm (by simp) (by simp [zao, upd]) (by simp [go_sem])) .nil
 ·repeat first|with_reducible refine wV fun _=>?_|simp [go_sem]
end Go.Av
end
section
/- Contracts, runs of the program: own, man, provided, and the steps. -/
open Go Go.Proofs
namespace Go.Av
def zq2 (n : Nat) (s : StD) : AV := .agg [.sl (n + 2) 1 1 0 s.p.at_.length, .sl (n + 81) 1 1 0 s.p.h0.length, .sl (n + 161) 1 1 0 s.p.h1.length, .v (.int .i64 s.p.rights), .v (.int .i64 s.p.side), .v (.int .i64 s.kind), .v (.int .i64 s.cursor), .v (.bool s.took)]
def zos (n : Nat) (s : StD) : List (Nat × zbz) := [(n + 2, .rows true 1 1 (s.p.at_.map zb3)), (n + 81, .rows true 1 1 (s.p.h0.map zb3)), (n + 161, .rows true 1 1 (s.p.h1.map zb3))]
attribute [go_sem] zq2 zos
theorem zhh (s : StD) (ha : zaW s.p) : zgf Tryz.prog 121 [.agg (zal s)] (fun n => zq2 n s) (fun n => zos n s) 241 := by
 refine ⟨zyL (by kernel_rfl) Tryz.func121 rfl rfl (Nat.le_of_ble_eq_true rfl) (by kernel_rfl) ?_, fun n => ⟨by simp [go_sem], by simp [go_sem]⟩⟩
 obtain ⟨a1, a2, a3⟩ := ha
 have h1 := zdM s.p.at_ a1
 have h2 := zdM s.p.h0 a2
 have h3 := zdM s.p.h1 a3
 repeat first|with_reducible refine wV fun _=>?_|simp [go_sem]
 refine zyO h1 (by simp [go_sem]) ?_
 repeat first|with_reducible refine wV fun _=>?_|simp [go_sem]
 refine zy9 81 (by rfl) (h2) (by decide) (by simp [go_sem]) (by simp [go_sem]) (fun _ => zai.refl _ _ _ _) (by simp [go_sem]) (by simp [go_sem]) ?_
 repeat first|with_reducible refine wV fun _=>?_|simp [go_sem]
 refine zy9 161 (by rfl) (h3) (by decide) (by simp [go_sem]) (by simp [go_sem]) (fun _ => zai.refl _ _ _ _) (by simp [go_sem]) (by simp [go_sem]) ?_
 ((repeat (first|with_reducible (first|refine wL fun _=>?_|refine wD fun _=>?_|refine wZ ?_)|simp [go_sem])); refine zzb (by kernel_rfl) ?_)
 repeat first|with_reducible refine wV fun _=>?_|simp [go_sem]
 simp [go_sem, zah]
theorem zmG (s : StD) (hc : s.cursor.toNat < s.p.at_.length) (h0 : 0 ≤ s.cursor) : zaC Tryz.prog 266 [.agg (zal s)] (.tup [.v (.int .i64 (zaq (nth s.p.at_ s.cursor.toNat)).1), .v (.int .i64 (zaq (nth s.p.at_ s.cursor.toNat)).2)]) := by
 refine pF Tryz.func266 ?_
 have hO := zfE (nth s.p.at_ s.cursor.toNat)
 generalize zaq (nth s.p.at_ s.cursor.toNat) = m at *
 repeat first|with_reducible refine wV fun _=>?_|simp [go_sem, hc]
 refine zyJ hO (by simp [go_sem]) ?_
 repeat first|with_reducible refine wV fun _=>?_|simp [go_sem]
theorem zcw (s : StD) (b : Bool) : zaC Tryz.prog 265 [.agg (zal s), .v (.bool b)] (zaO (zcQ s b)) := by
 refine pF Tryz.func265 ?_
 cases b
 ·repeat first|with_reducible refine wV fun _=>?_|simp [go_sem, zcQ]
 ·repeat first|with_reducible refine wV fun _=>?_|simp [go_sem, zcQ]
  exact frX
abbrev zkL (f : FuncId) (g : zaf) (s : StD) (n : Int) (r : List StD) : Prop := zaC Tryz.prog f [.agg (zal s), .agg (zab g), .v (.int .i64 n)] (zaO r)
section
variable (g : zaf) (hg : GOk g) (s : StD) (hs : zfn g s) (n : Int)
theorem zvv (hg : GOk g) : zkL 208 g s n (zcQ { s with cursor := toB g.board s.p.side n s.cursor } (decide (0 ≤ toB g.board s.p.side n s.cursor))) := by
 refine pF Tryz.func208 ?_
 have hT := ziP g.board hg.board s.p.side n s.cursor
 have hP := zcw { s with cursor := toB g.board s.p.side n s.cursor }
 repeat first|with_reducible refine wV fun _=>?_|simp [go_sem]
 refine zyJ hT (by simp [go_sem]) ?_
 repeat first|with_reducible refine wV fun _=>?_|simp [go_sem]
 refine zyJ (hP _) (by simp [go_sem]) ?_
 repeat first|with_reducible refine wV fun _=>?_|simp [go_sem]
theorem zsS (hg : GOk g) (hs : zfn g s) : zkL 209 g s n (zkn g.board s n) := by
 refine pF Tryz.func209 ?_
 have hL := zlc g.board hg.board s.p.side n s.cursor
 have hlm := zeF hg.board (side := s.p.side) (d := n) (c := s.cursor)
 have hll := zjT (b := g.board) (side := s.p.side) (d := n) (c := s.cursor)
 have c9 := hg.c9
 have c1 := hg.c1
 have hal := hs.p.al
 rw [show g.board.cells = g.cells from rfl] at hlm hll
 unfold zkn
 generalize zfH g.board s.p.side n s.cursor = line at *
 generalize hR : zbN s line = R
 repeat first|with_reducible refine wV fun _=>?_|simp [go_sem]
 refine zyJ hL (by simp [go_sem]) ?_
 repeat first|with_reducible refine wV fun _=>?_|simp [go_sem]
 refine zyI (zyN (α := Nat × List StD) (fun a => ⟨[(3, .ref 0 0 8 0 0), (7, .sl 2 a.2.length 8 0 a.2.length), (19, zas line), (20, .v (.int .i64 line.length)), (21, .v (.int .i64 a.1))], [(0, .rows true 0 8 [zal s]), (2, .rows true a.2.length 8 (a.2.map zal))], 3⟩)
  (fun d a => a.1 + d = line.length ∧ a.2.length = a.1 ∧ R = a.2 ++ zbN s (line.drop a.1)) ?_ line.length (0, []) ?_) ?_ ?_
 ·rintro d ⟨i, out⟩ ⟨i1, i2, i3⟩ hrec
  simp only at i1 i2 i3
  repeat first|with_reducible refine wV fun _=>?_|simp [go_sem]
  refine zyK (fun hi => ?_) (fun hi => ?_) <;> simp at hi
  ·have hli := hlm _ (zan hi)
   have hlt : (nth line i).toNat < s.p.at_.length := by omega
   rw [zaM hi, zbN] at i3
   repeat first|with_reducible refine wV fun _=>?_|simp [go_sem, hi, hlt]
   refine zyK (fun hz => ?_) (fun hz => ?_) <;> simp at hz
   ·rw [if_neg (by simpa using hz)] at i3
    repeat first|with_reducible refine wV fun _=>?_|simp [go_sem]
    rw [i3]
    exact frX
   ·rw [if_pos (by simpa using hz)] at i3
    repeat first|with_reducible refine wV fun _=>?_|simp [go_sem]
    refine zyI (hrec (d - 1) (by omega) (i + 1, out ++ [{ s with cursor := nth line i }]) ⟨by simp only; omega, by simp; omega, by simpa using i3⟩) ?_ (by simp)
    simp [go_sem, zah]
  ·rw [List.drop_eq_nil_of_le hi, zbN] at i3
   repeat first|with_reducible refine wV fun _=>?_|simp [go_sem]
   rw [i3]
   exact frX
 ·simp [hR]
 ·simp [go_sem, zah]
 ·simp
theorem zod (hg : GOk g) (hs : zfn g s) : s.cursor.toNat < s.p.at_.length ∧ 0 ≤ s.cursor ∧ (nth s.p.at_ s.cursor.toNat = 0 ∧ zaq (nth s.p.at_ s.cursor.toNat) = (-1, -1) ∨ nth s.p.at_ s.cursor.toNat ≠ 0 ∧ 0 ≤ (zaq (nth s.p.at_ s.cursor.toNat)).1 ∧ (zaq (nth s.p.at_ s.cursor.toNat)).1 < g.kinds.length ∧
  ((zaq (nth s.p.at_ s.cursor.toNat)).2 = 0 ∨ (zaq (nth s.p.at_ s.cursor.toNat)).2 = 1)) ∧ (s.p.side = 0 ∨ s.p.side = 1) := by
 have hal := hs.p.al
 have hc0 := hs.c0
 have hc1 := hs.c1
 have hcur : s.cursor.toNat < s.p.at_.length := by omega
 have hat := hs.p.at (i := s.cursor.toNat) (by omega)
 have hman := zaS hat.1 hat.2 hg.k6
 refine ⟨hcur, hc0, ?_, hs.p.s⟩
 rcases hman with ⟨h1, h2⟩ | ⟨h1, h2, h3, h4, _⟩
 ·exact .inl ⟨h1, h2⟩
 ·exact .inr ⟨h1, h2, h3, h4⟩
theorem zr8 (hg : GOk g) (hs : zfn g s) : zkL 210 g s n (zcQ s (decide ((zaq (nth s.p.at_ s.cursor.toNat)).1 < 0))) := by
 refine pF Tryz.func210 ?_
 obtain ⟨hcur, h0, hm, hsd⟩ := zod g s hg hs
 have e : decide ((zaq (nth s.p.at_ s.cursor.toNat)).1 < 0) = decide (nth s.p.at_ s.cursor.toNat = 0) := by
  rcases hm with ⟨h1, h2⟩ | ⟨h1, h2, _, _⟩
  ·rw [h2]; simp [h1]
  ·simp; omega
 rw [e]
 have hP := zcw s
 repeat first|with_reducible refine wV fun _=>?_|simp [go_sem, hcur]
 refine zyM (hP _) (by simp [go_sem]) ?_
 repeat first|with_reducible refine wV fun _=>?_|simp [go_sem]
theorem zsa (hg : GOk g) (hs : zfn g s) : zkL 211 g s n (zcQ s (decide (0 ≤ (zaq (nth s.p.at_ s.cursor.toNat)).1 ∧ (zaq (nth s.p.at_ s.cursor.toNat)).2 ≠ s.p.side))) := by
 refine pF Tryz.func211 ?_
 obtain ⟨hcur, h0, hm, hsd⟩ := zod g s hg hs
 have hO := zmG s hcur h0
 have hP := zcw s
 have e : decide (0 ≤ (zaq (nth s.p.at_ s.cursor.toNat)).1 ∧ (zaq (nth s.p.at_ s.cursor.toNat)).2 ≠ s.p.side) = decide ((zaq (nth s.p.at_ s.cursor.toNat)).2 = 1 - s.p.side) := by
  rcases hm with ⟨h1, h2⟩ | ⟨h1, h2, _, _⟩
  ·rw [h2]; simp; omega
  ·simp only [decide_eq_decide]; omega
 rw [e]
 generalize zaq (nth s.p.at_ s.cursor.toNat) = m at *
 repeat first|with_reducible refine wV fun _=>?_|simp [go_sem]
 refine zyJ hO (by simp [go_sem]) ?_
 repeat first|with_reducible refine wV fun _=>?_|simp [go_sem]
 refine zyJ (hP _) (by simp [go_sem]) ?_
 repeat first|with_reducible refine wV fun _=>?_|simp [go_sem]
theorem zpz (hg : GOk g) (hs : zfn g s) : zkL 212 g s n (zcQ s (decide (0 ≤ (zaq (nth s.p.at_ s.cursor.toNat)).1 ∧ (zaq (nth s.p.at_ s.cursor.toNat)).2 = s.p.side))) := by
 refine pF Tryz.func212 ?_
 obtain ⟨hcur, h0, hm, hsd⟩ := zod g s hg hs
 have hO := zmG s hcur h0
 have hP := zcw s
 have e : decide (0 ≤ (zaq (nth s.p.at_ s.cursor.toNat)).1 ∧ (zaq (nth s.p.at_ s.cursor.toNat)).2 = s.p.side) = decide ((zaq (nth s.p.at_ s.cursor.toNat)).2 = s.p.side) := by
  rcases hm with ⟨h1, h2⟩ | ⟨h1, h2, _, _⟩
  ·rw [h2]; simp; omega
  ·simp only [decide_eq_decide]; omega
 rw [e]
 generalize zaq (nth s.p.at_ s.cursor.toNat) = m at *
 repeat first|with_reducible refine wV fun _=>?_|simp [go_sem]
 refine zyJ hO (by simp [go_sem]) ?_
 repeat first|with_reducible refine wV fun _=>?_|simp [go_sem]
 refine zyJ (hP _) (by simp [go_sem]) ?_
 repeat first|with_reducible refine wV fun _=>?_|simp [go_sem]
theorem zvl (hg : GOk g) (hs : zfn g s) : zkL 213 g s n (zmS g s) := by
 refine pF Tryz.func213 ?_
 obtain ⟨hcur, h0, hm, hsd⟩ := zod g s hg hs
 have hO := zmG s hcur h0
 have hP := zcw
 have hcp := zhh s (hs.p.fits hg)
 unfold zmS
 generalize hme : zaq (nth s.p.at_ s.cursor.toNat) = m at *
 obtain ⟨mk, ms⟩ := m
 simp only [Prod.mk.injEq] at hm
 repeat first|with_reducible refine wV fun _=>?_|simp [go_sem]
 refine zyJ hO (by simp [go_sem]) ?_
 repeat first|with_reducible refine wV fun _=>?_|simp [go_sem]
 refine zyK (fun hc => ?_) (fun hc => ?_) <;> simp at hc
 ·rw [if_pos (by omega)]
  repeat first|with_reducible refine wV fun _=>?_|simp [go_sem]
 ·rw [if_neg (by omega)]
  repeat first|with_reducible refine wV fun _=>?_|simp [go_sem]
  refine zyO hcp (by simp [go_sem]) ?_
  have hmk : mk.toNat < g.kinds.length := by omega
  have hmk' : 0 ≤ mk := by omega
  repeat first|with_reducible refine wV fun _=>?_|simp [go_sem, hcur, hmk]
  refine zyK (fun hk => ?_) (fun hk => ?_)
  ·rw [if_neg (by simpa using hk)]
   repeat first|with_reducible refine wV fun _=>?_|simp [go_sem, clr]
   (first|done|exact dpX)
  ·rw [if_pos (by simpa using hk)]
   have hl0 := hs.p.h0.len
   have hl1 := hs.p.h1.len
   rcases hsd with hsd | hsd
   ·have hmk0 : mk.toNat < s.p.h0.length := by omega
    have hv := hs.p.h0.v _ hmk0
    obtain ⟨u, hu⟩ : ∃ u : StD, u = { s with p := (clr s.p s.cursor).withHand s.p.side ((s.p.hand s.p.side).set mk.toNat (nth (s.p.hand s.p.side) mk.toNat + 1)), took := true } := ⟨_, rfl⟩
    have hres : (if 8 < nth (s.p.hand s.p.side) mk.toNat + 1 then [] else [u]) = zcQ u (decide (nth s.p.h0 mk.toNat + 1 ≤ 8)) := by
     have : s.p.hand s.p.side = s.p.h0 := by simp [zaj.hand, hsd]
     rw [this]
     unfold zcQ
     by_cases h8 : 8 < nth s.p.h0 mk.toNat + 1
     ·rw [if_pos h8, if_neg (by simp; omega)]
     ·rw [if_neg h8, if_pos (by simp; omega)]
    rw [← hu, hres]
    have hue : zal u = [.lst 1 ((s.p.at_.map zb3).set s.cursor.toNat [.v (.int .i64 0)]), .lst 1 ((s.p.h0.map zb3).set mk.toNat [.v (.int .i64 (nth s.p.h0 mk.toNat + 1))]), .lst 1 (s.p.h1.map zb3), .v (.int .i64 s.p.rights), .v (.int .i64 s.p.side), .v (.int .i64 s.kind), .v (.int .i64 s.cursor), .v (.bool true)] := by
     rw [hu]; simp [zal, zaj.withHand, zaj.hand, clr, hsd, zas, zb3, List.map_set]
    have hP' := hP u
    rw [hue, hsd] at hP'
    (repeat (first|with_reducible (first|refine wL fun _=>?_|refine wD fun _=>?_|refine wE ?_)|simp [go_sem, hsd, hmk0, hcur]))
    refine zoK.frz (zaK _ [4, 83, 163]) (zc5 _ _) ?_
    repeat first|with_reducible refine wV fun _=>?_|simp [go_sem, hsd, hmk0, hcur, zaK, zaR]
    refine zay.frz _ _ [4, 83, 163] [] (hP' (decide (nth s.p.h0 mk.toNat + 1 ≤ 8))) (by simp) ?_ (by simp [go_sem]) ?_
    ·intro h₁ hS
     have e4 := hS 4 (by simp)
     have e5 := hS 83 (by simp)
     have e6 := hS 163 (by simp)
     simp [upd, zaK, zaR] at e4 e5 e6
     refine .cons (.agg (.cons (zam e4.symm (by simp) (by simp [zao, ← e4]) (by simp; exact List.take_of_length_le (by simp))) (.cons (zam e5.symm (by simp) (by simp [zao, ← e5]) (by simp; exact List.take_of_length_le (by simp))) (.cons (zam e6.symm (by simp) (by simp [zao, ← e6]) (by simp; exact List.take_of_length_le (by simp))) (.refl _ _ _ _))))) (.refl _ _ _ _)
    ·repeat first|with_reducible refine wV fun _=>?_|simp [go_sem]
   ·have hmk0 : mk.toNat < s.p.h1.length := by omega
    have hv := hs.p.h1.v _ hmk0
    obtain ⟨u, hu⟩ : ∃ u : StD, u = { s with p := (clr s.p s.cursor).withHand s.p.side ((s.p.hand s.p.side).set mk.toNat (nth (s.p.hand s.p.side) mk.toNat + 1)), took := true } := ⟨_, rfl⟩
    have hres : (if 8 < nth (s.p.hand s.p.side) mk.toNat + 1 then [] else [u]) = zcQ u (decide (nth s.p.h1 mk.toNat + 1 ≤ 8)) := by
     have : s.p.hand s.p.side = s.p.h1 := by simp [zaj.hand, hsd]
     rw [this]
     unfold zcQ
     by_cases h8 : 8 < nth s.p.h1 mk.toNat + 1
     ·rw [if_pos h8, if_neg (by simp; omega)]
     ·rw [if_neg h8, if_pos (by simp; omega)]
    rw [← hu, hres]
    have hue : zal u = [.lst 1 ((s.p.at_.map zb3).set s.cursor.toNat [.v (.int .i64 0)]), .lst 1 (s.p.h0.map zb3), .lst 1 ((s.p.h1.map zb3).set mk.toNat [.v (.int .i64 (nth s.p.h1 mk.toNat + 1))]), .v (.int .i64 s.p.rights), .v (.int .i64 s.p.side), .v (.int .i64 s.kind), .v (.int .i64 s.cursor), .v (.bool true)] := by
     rw [hu]; simp [zal, zaj.withHand, zaj.hand, clr, hsd, zas, zb3, List.map_set]
    have hP' := hP u
    rw [hue, hsd] at hP'
    (repeat (first|with_reducible (first|refine wL fun _=>?_|refine wD fun _=>?_|refine wE ?_)|simp [go_sem, hsd, hmk0, hcur]))
    refine zoK.frz (zaK _ [4, 83, 163]) (zc5 _ _) ?_
    repeat first|with_reducible refine wV fun _=>?_|simp [go_sem, hsd, hmk0, hcur, zaK, zaR]
    refine zay.frz _ _ [4, 83, 163] [] (hP' (decide (nth s.p.h1 mk.toNat + 1 ≤ 8))) (by simp) ?_ (by simp [go_sem]) ?_
    ·intro h₁ hS
     have e4 := hS 4 (by simp)
     have e5 := hS 83 (by simp)
     have e6 := hS 163 (by simp)
     simp [upd, zaK, zaR] at e4 e5 e6
     refine .cons (.agg (.cons (zam e4.symm (by simp) (by simp [zao, ← e4]) (by simp; exact List.take_of_length_le (by simp))) (.cons (zam e5.symm (by simp) (by simp [zao, ← e5]) (by simp; exact List.take_of_length_le (by simp))) (.cons (zam e6.symm (by simp) (by simp [zao, ← e6]) (by simp; exact List.take_of_length_le (by simp))) (.refl _ _ _ _))))) (.refl _ _ _ _)
    ·repeat first|with_reducible refine wV fun _=>?_|simp [go_sem]
theorem zu4 (hg : GOk g) (hs : zfn g s) : zkL 214 g s n (zmN g s n) := by
 refine pF Tryz.func214 ?_
 have hT := ziP g.board hg.board s.p.side n s.cursor
 have hal := hs.p.al
 have hc0 := hs.c0
 have hc1 := hs.c1
 have hcur : s.cursor.toNat < s.p.at_.length := by omega
 have hcp := zhh s (hs.p.fits hg)
 have hto := zfQ hg.board s.p.side n s.cursor
 rw [show g.board.cells = g.cells from rfl] at hto
 unfold zmN
 generalize toB g.board s.p.side n s.cursor = to at *
 repeat first|with_reducible refine wV fun _=>?_|simp [go_sem]
 refine zyJ hT (by simp [go_sem]) ?_
 by_cases ht : to < 0
 ·rw [if_pos (.inr (.inl ht))]
  have ht0 : to.toNat = 0 := by omega
  have h0l : 0 < s.p.at_.length := by omega
  repeat first|with_reducible refine wV fun _=>?_|simp [go_sem, hcur, ht, ht0, h0l]
 ·have htl : to.toNat < s.p.at_.length := by omega
  have ht' : 0 ≤ to := by omega
  repeat first|with_reducible refine wV fun _=>?_|simp [go_sem, hcur, ht, htl]
  refine zyK (fun hc => ?_) (fun hc => ?_) <;> simp at hc
  ·rw [if_pos (by by_cases h : nth s.p.at_ s.cursor.toNat = 0; exact .inl h; exact .inr (hc.resolve_left h))]
   repeat first|with_reducible refine wV fun _=>?_|simp [go_sem]
  ·rw [if_neg (by rintro (h | h); exact hc.1 h; exact h hc.2)]
   repeat first|with_reducible refine wV fun _=>?_|simp [go_sem, hcur]
   refine zyO hcp (by simp [go_sem]) ?_
   repeat first|with_reducible refine wV fun _=>?_|simp [go_sem, hcur, htl]
   (first|done|exact dpX)
theorem zpi : zkL 215 g s n [{ s with kind := n }] := by
 refine pF Tryz.func215 ?_
 repeat first|with_reducible refine wV fun _=>?_|simp [go_sem]
 exact frX
theorem zuN (h0 : 0 ≤ n) (h4 : n < 64) : zkL 216 g s n (zcQ s (decide (zhA .i64 (s.p.rights.fdiv (2 ^ n.toNat)) 1 = 1))) := by
 refine pF Tryz.func216 ?_
 have hP := zcw s
 repeat first|with_reducible refine wV fun _=>?_|simp [go_sem]
 refine zyM (hP _) (by simp [go_sem]) ?_
 repeat first|with_reducible refine wV fun _=>?_|simp [go_sem]
theorem zuz (h0 : 0 ≤ n) (h4 : n ≤ 4) : zkL 217 g s n [{ s with p := { s.p with rights := zbt .i64 s.p.rights (2 ^ n.toNat) } }] := by
 refine pF Tryz.func217 ?_
 have hpn := zi0 h0 h4
 repeat first|with_reducible refine wV fun _=>?_|simp [go_sem]
 exact frX
end
end Go.Av
end
section
open Go Go.Proofs
namespace Go.Av
theorem zvh (g : zaf) (hg : GOk g) (s : StD) (hs : zfn g s) (x : Int × Int) (hx : zex g.next.length g.kinds.length g.rights x) :
  zaC Tryz.prog 172 [.agg (zab g), .agg (zal s), .agg (zau x)] (zaO (zbV g s x)) := by
 refine pF Tryz.func172 ?_
 have r4 := hg.r4
 obtain ⟨op, n⟩ := x
 obtain ⟨xo, xd, xz, xk, xr⟩ := hx
 simp only at xo xd xz xk xr
 rcases (show op = 1 ∨ op = 2 ∨ op = 3 ∨ op = 4 ∨ op = 5 ∨ op = 6 ∨ op = 7 ∨ op = 8 ∨ op = 9 ∨ op = 10 by omega) with rfl | rfl | rfl | rfl | rfl | rfl | rfl | rfl | rfl | rfl
 ·have hS := zvv g s n hg
  repeat first|with_reducible refine wV fun _=>?_|simp [go_sem]
  refine zyM hS (by simp [go_sem]) ?_
  repeat first|with_reducible refine wV fun _=>?_|simp [go_sem]
  exact zyW (by simp [zbV, zaO, zal, zas])
 ·have hS := zsS g s n hg hs
  repeat first|with_reducible refine wV fun _=>?_|simp [go_sem]
  refine zyM hS (by simp [go_sem]) ?_
  repeat first|with_reducible refine wV fun _=>?_|simp [go_sem]
  exact zyW (by simp [zbV, zaO, zal, zas])
 ·have hS := zr8 g s n hg hs
  repeat first|with_reducible refine wV fun _=>?_|simp [go_sem]
  refine zyM hS (by simp [go_sem]) ?_
  repeat first|with_reducible refine wV fun _=>?_|simp [go_sem]
  exact zyW (by simp [zbV, zaO, zal, zas])
 ·have hS := zsa g s n hg hs
  repeat first|with_reducible refine wV fun _=>?_|simp [go_sem]
  refine zyM hS (by simp [go_sem]) ?_
  repeat first|with_reducible refine wV fun _=>?_|simp [go_sem]
  exact zyW (by simp [zbV, zaO, zal, zas])
 ·have hS := zpz g s n hg hs
  repeat first|with_reducible refine wV fun _=>?_|simp [go_sem]
  refine zyM hS (by simp [go_sem]) ?_
  repeat first|with_reducible refine wV fun _=>?_|simp [go_sem]
  exact zyW (by simp [zbV, zaO, zal, zas])
 ·have hS := zvl g s n hg hs
  repeat first|with_reducible refine wV fun _=>?_|simp [go_sem]
  refine zyM hS (by simp [go_sem]) ?_
  repeat first|with_reducible refine wV fun _=>?_|simp [go_sem]
  exact zyW (by simp [zbV, zaO, zal, zas])
 ·have hS := zu4 g s n hg hs
  repeat first|with_reducible refine wV fun _=>?_|simp [go_sem]
  refine zyM hS (by simp [go_sem]) ?_
  repeat first|with_reducible refine wV fun _=>?_|simp [go_sem]
  exact zyW (by simp [zbV, zaO, zal, zas])
 ·have hS := zpi g s n
  repeat first|with_reducible refine wV fun _=>?_|simp [go_sem]
  refine zyM hS (by simp [go_sem]) ?_
  repeat first|with_reducible refine wV fun _=>?_|simp [go_sem]
  exact zyW (by simp [zbV, zaO, zal, zas])
 ·have hn := xr (by omega)
  have hS := zuN g s n hn.1 (by omega)
  repeat first|with_reducible refine wV fun _=>?_|simp [go_sem]
  refine zyM hS (by simp [go_sem]) ?_
  repeat first|with_reducible refine wV fun _=>?_|simp [go_sem]
  exact zyW (by simp [zbV, zaO, zal, zas])
 ·have hn := xr (by omega)
  have hS := zuz g s n hn.1 (by omega)
  repeat first|with_reducible refine wV fun _=>?_|simp [go_sem]
  refine zyM hS (by simp [go_sem]) ?_
  repeat first|with_reducible refine wV fun _=>?_|simp [go_sem]
  exact zyW (by simp [zbV, zaO, zal, zas])
end Go.Av
end
section
namespace Go.Av
open Go
theorem zaa.clear {P : Program} {f : FuncId} {args : List AV} {h : zav} {n : Nat} {K : zc0}
  (hc : zaa P f args h n (fun r h' n' => ∃ o mt g sz rs, sz ≠ 2 ∧ h' o = some (.rows mt g sz rs) ∧ K r (upd h' o (some (.rows mt g sz []))) n')) : zaa P f args h n K := by
 refine ⟨hc.1, fun M0 φ w vs hH hargs => (hc.2 M0 φ w vs hH hargs).mono ?_⟩
 rintro e w' ⟨v, φ', r, h', n', rfl, ⟨o, mt, g, sz, rs, hsz, ho, hK⟩, hH', hx, st⟩
 have hmut : Mut φ' (upd h' o (some (.rows mt g sz []))) = Mut φ' h' := by
  funext k
  refine propext ⟨?_, ?_⟩
  ·rintro ⟨o1, g1, sz1, rs1, g', a, bs, h1, h2, h3⟩
   by_cases he : o1 = o
   ·subst he
    rw [zaB] at h1
    simp only [Option.some.injEq, zbz.rows.injEq] at h1
    obtain ⟨rfl, rfl, rfl, _⟩ := h1
    exact ⟨o1, g, sz, rs, g', a, bs, ho, h2, h3⟩
   ·rw [zbm _ _ he] at h1
    exact ⟨o1, g1, sz1, rs1, g', a, bs, h1, h2, h3⟩
  ·rintro ⟨o1, g1, sz1, rs1, g', a, bs, h1, h2, h3⟩
   by_cases he : o1 = o
   ·subst he
    rw [ho] at h1
    simp only [Option.some.injEq, zbz.rows.injEq] at h1
    obtain ⟨rfl, rfl, rfl, _⟩ := h1
    exact ⟨o1, g, sz, [], g', a, bs, by rw [zaB], h2, h3⟩
   ·exact ⟨o1, g1, sz1, rs1, g', a, bs, by rw [zbm _ _ he]; exact h1, h2, h3⟩
 have hold : ∀ o1 mt1 g1 sz1 rs1, upd h' o (some (.rows mt g sz [])) o1 = some (.rows mt1 g1 sz1 rs1) → ∃ rs2, h' o1 = some (.rows mt1 g1 sz1 rs2) ∧ (rs1 = rs2 ∨ rs1 = []) := by
  intro o1 mt1 g1 sz1 rs1 h1
  by_cases he : o1 = o
  ·subst he
   rw [zaB] at h1
   simp only [Option.some.injEq, zbz.rows.injEq] at h1
   obtain ⟨rfl, rfl, rfl, rfl⟩ := h1
   exact ⟨rs, ho, .inr rfl⟩
  ·rw [zbm _ _ he] at h1
   exact ⟨rs1, h1, .inl rfl⟩
 refine ⟨v, φ', r, _, n', rfl, hK, ⟨hH'.m0, hH'.fresh, fun o1 mt1 g1 sz1 rs1 h1 => ?_, fun o1 o2 mt1 g1 sz1 rs1 mt2 g2 sz2 rs2 a a' b b' h1 h2 => ?_, by rw [hmut]; exact hH'.glob⟩, by rw [hmut]; exact hx, st.le, by rw [hmut]; exact st.or, st.fr, by rw [hmut]; exact st.mutd⟩
 ·obtain ⟨rs2, h2, h3⟩ := hold _ _ _ _ _ h1
  obtain ⟨A, hA, hobj⟩ := hH'.obj _ _ _ _ _ h2
  rcases h3 with rfl | rfl
  ·rw [hmut]; exact ⟨A, hA, hobj⟩
  ·by_cases he : o1 = o
   ·subst he
    rw [ho] at h2
    simp only [Option.some.injEq, zbz.rows.injEq] at h2
    obtain ⟨rfl, rfl, rfl, rfl⟩ := h2
    refine ⟨A, hA, hobj.imp (fun h => ⟨h.1, rfl⟩) ?_⟩
    rintro ⟨a, bs, e1, e3, ⟨C, T, e2, e4, e5, e6, e7, e8, e9⟩ | ⟨es, clk, e2, e4, e5, e6, e9⟩⟩
    ·exact ⟨a, bs, e1, e3, .inl ⟨C, T, e2, e4, e5, by simp, by simp; omega, by simp, by simpa using zaN.nil⟩⟩
    ·exact absurd e6.1 hsz
   ·rw [zbm _ _ he] at h1
    rw [h1] at h2
    simp only [Option.some.injEq, zbz.rows.injEq] at h2
    obtain ⟨_, _, _, rfl⟩ := h2
    rw [hmut]; exact ⟨A, hA, hobj⟩
 ·obtain ⟨rs3, h3, _⟩ := hold _ _ _ _ _ h1
  obtain ⟨rs4, h4, _⟩ := hold _ _ _ _ _ h2
  exact hH'.inj _ _ _ _ _ _ _ _ _ _ _ _ _ _ h3 h4
end Go.Av
end
section
open Go Go.Proofs
namespace Go.Av
theorem zrp (m : Int) (h0 : 0 ≤ m) (h1 : m ≤ 17179869184) : zgf Tryz.prog 262 [zyQ, .v (.int .i64 m)] (fun n => .sl n 0 1 0 0) (fun n => [(n, .rows true 0 1 [])]) 1 := by
 refine ⟨?_, fun n => ⟨by simp [go_sem], by simp [go_sem]⟩⟩
 by_cases hm : m = 0
 ·subst hm
  refine zyL (by kernel_rfl) Tryz.func262 rfl rfl (Nat.le_of_ble_eq_true rfl) (by kernel_rfl) ?_
  repeat first|with_reducible refine wV fun _=>?_|simp [go_sem]
  simp [go_sem, zah]
 ·refine zaa.clear ?_
  refine zyL (by kernel_rfl) Tryz.func262 rfl rfl (Nat.le_of_ble_eq_true rfl) (by kernel_rfl) ?_
  repeat first|with_reducible refine wV fun _=>?_|simp [go_sem]
  (refine zyK (fun hF => by first | omega | (simp at hF; omega)) (fun hF => ?_); clear hF)
  repeat first|with_reducible refine wV fun _=>?_|simp [go_sem]
  (refine zyK (fun hT => ?_) (fun hT => by first | omega | (simp at hT; omega)); clear hT)
  repeat first|with_reducible refine wV fun _=>?_|simp [go_sem]
  refine ⟨0, 0, 1, by decide, ⟨rfl, rfl, rfl⟩, ?_⟩
  simp [go_sem, zah]
theorem zmZ (a b c d : List Int) (ha : a.length ≤ 1000) (hb : b.length ≤ 1000) (hc : c.length ≤ 1000) (hd : d.length ≤ 1000) : zaC Tryz.prog 205 [.lst 1 [[zas a], [zas b], [zas c], [zas d]]] (zas (a ++ b ++ c ++ d)) := by
 refine pF Tryz.func205 ?_
 repeat first|with_reducible refine wV fun _=>?_|simp [go_sem]
 refine zyR ?_
 repeat first|with_reducible refine wV fun _=>?_|simp [go_sem]
 (refine zyK (fun hF => by first | omega | (simp at hF; omega)) (fun hF => ?_); clear hF)
 repeat first|with_reducible refine wV fun _=>?_|simp [go_sem]
 refine zyR ?_
 repeat first|with_reducible refine wV fun _=>?_|simp [go_sem]
 (refine zyK (fun hF => by first | omega | (simp at hF; omega)) (fun hF => ?_); clear hF)
 repeat first|with_reducible refine wV fun _=>?_|simp [go_sem]
 refine zyR ?_
 repeat first|with_reducible refine wV fun _=>?_|simp [go_sem]
 (refine zyK (fun hF => by first | omega | (simp at hF; omega)) (fun hF => ?_); clear hF)
 repeat first|with_reducible refine wV fun _=>?_|simp [go_sem]
 refine zyR ?_
 repeat first|with_reducible refine wV fun _=>?_|simp [go_sem]
 (refine zyK (fun hF => by first | omega | (simp at hF; omega)) (fun hF => ?_); clear hF)
 repeat first|with_reducible refine wV fun _=>?_|simp [go_sem]
 refine zyR ?_
 repeat first|with_reducible refine wV fun _=>?_|simp [go_sem]
 refine zyO (zrp _ (by omega) (by omega)) (by simp [go_sem]) ?_
 repeat first|with_reducible refine wV fun _=>?_|simp [go_sem]
 refine zyR ?_
 repeat first|with_reducible refine wV fun _=>?_|simp [go_sem]
 refine zyR ?_
 repeat first|with_reducible refine wV fun _=>?_|simp [go_sem]
 refine zyR ?_
 repeat first|with_reducible refine wV fun _=>?_|simp [go_sem]
 refine zyR ?_
 repeat first|with_reducible refine wV fun _=>?_|simp [go_sem]
 refine zyR ?_
 repeat first|with_reducible refine wV fun _=>?_|simp [go_sem]
 exact frX

theorem zno : ∀ l : List Int, zen (l.map znC) = some l
 | [] => rfl
 | n :: l => by rw [List.map_cons, znC, zen, zno l]; rfl
def zqu (p : zaj) : List Int := p.at_ ++ p.h0 ++ p.h1 ++ [p.rights, p.side]
def zyb (p : zaj) : ByteArray := zeM (zqu p)
theorem zvH (p : zaj) (ha : p.at_.length ≤ 100) (hb : p.h0.length ≤ 100) (hc : p.h1.length ≤ 100) (hv : ∀ x ∈ zqu p, 0 ≤ x ∧ x ≤ 255) : zaC Tryz.prog 164 [.agg (zad p)] (.v (.string (zyb p))) := by
 refine pF Tryz.func164 ?_
 have hC : zaC Tryz.prog 205 [.lst 1 [[.lst 1 (p.at_.map zb3)], [.lst 1 (p.h0.map zb3)], [.lst 1 (p.h1.map zb3)], [.lst 1 [[.v (.int .i64 p.rights)], [.v (.int .i64 p.side)]]]]] (zas (p.at_ ++ p.h0 ++ p.h1 ++ [p.rights, p.side])) :=
  zmZ p.at_ p.h0 p.h1 [p.rights, p.side] (by omega) (by omega) (by omega) (by simp)
 have hll : (zqu p).length ≤ 302 := by simp [zqu]; omega
 unfold zyb
 rw [show p.at_ ++ p.h0 ++ p.h1 ++ [p.rights, p.side] = zqu p from rfl] at hC
 generalize zqu p = l at *
 repeat first|with_reducible refine wV fun _=>?_|simp [go_sem]
 refine zyP [1, 2] hC ?_ (by simp [go_sem]) ?_
 ·(first|done|exact leX)
 repeat first|with_reducible refine wV fun _=>?_|simp [go_sem]
 refine zyI (zyN (α := Nat) (fun i => ⟨[(3, .sl 3 i 1 0 i), (20, zas l), (21, .v (.int .i64 l.length)), (22, .v (.int .i64 i))], [(3, .rows true i 1 ((l.take i).map znC))], 4⟩)
  (fun d i => i + d = l.length) ?_ l.length 0 ?_) ?_ ?_
 ·rintro d i i1 hrec
  repeat first|with_reducible refine wV fun _=>?_|simp [go_sem]
  refine zyK (fun hi => ?_) (fun hi => ?_) <;> simp at hi
  ·have hx := hv _ (zan hi)
   have hem : (nth l i).emod 256 = nth l i := Int.emod_eq_of_lt hx.1 (by omega)
   have hem2 : nth l i % 256 = nth l i := hem
   repeat first|with_reducible refine wV fun _=>?_|simp [go_sem, hi, hem, hem2]
   refine zyI (hrec (d - 1) (by omega) (i + 1) (by omega)) ?_ (by simp)
   rw [List.take_add_one, List.getElem?_eq_getElem hi, ← zaJ _ _ hi]
   simp [go_sem, zah, znC, hem, hem2]
   intro x hx c hc
   obtain ⟨y, _, rfl⟩ := List.mem_map.1 (List.mem_of_mem_take hx)
   simp only [znC, List.mem_singleton] at hc
   subst hc
   exact .v _
  ·have hb : zen (List.take i (List.map znC l)) = some l := by rw [List.take_of_length_le (by simp; omega)]; exact zno l
   have hb2 : zen (List.take i (List.take i (List.map znC l))) = some l := by rw [List.take_take, Nat.min_self]; exact hb
   repeat first|with_reducible refine wV fun _=>?_|simp [go_sem, hb, hb2]
 ·omega
 ·simp [go_sem, zah]
 ·simp
def zjA (n : Int) : ByteArray := zeM [48 + n]
theorem zp3 (n : Int) (h0 : 0 ≤ n) (h1 : n < 10) : zaC Tryz.prog 296 [.v (.int .i64 n)] (.v (.string (zjA n))) := by
 refine pF Tryz.func296 ?_
 rcases (show n = 0 ∨ n = 1 ∨ n = 2 ∨ n = 3 ∨ n = 4 ∨ n = 5 ∨ n = 6 ∨ n = 7 ∨ n = 8 ∨ n = 9 by omega) with rfl | rfl | rfl | rfl | rfl | rfl | rfl | rfl | rfl | rfl <;> ((repeat (first|with_reducible refine wV fun _=>?_|simp [go_sem]))) <;> exact zyW (by kernel_rfl)
theorem zoz (n : Int) (h0 : 0 ≤ n) (h1 : n < 10) : zaC Tryz.prog 288 [.v (.int .i64 n), .v (.int .i64 10)] (.v (.string (zjA n))) := by
 refine pF Tryz.func288 ?_
 have hS := zp3 n h0 h1
 have h1' : n < 100 := by omega
 repeat first|with_reducible refine wV fun _=>?_|simp [go_sem, h0, h1']
 refine zyJ hS (by simp [go_sem]) ?_
 repeat first|with_reducible refine wV fun _=>?_|simp [go_sem]
theorem zsR (n : Int) (h0 : 0 ≤ n) (h1 : n < 10) : zaC Tryz.prog 267 [.v (.int .i64 n)] (.v (.string (zjA n))) := by
 refine pF Tryz.func267 ?_
 have hS := zoz n h0 h1
 repeat first|with_reducible refine wV fun _=>?_|simp [go_sem]
 refine zyJ hS (by simp [go_sem]) ?_
 repeat first|with_reducible refine wV fun _=>?_|simp [go_sem]
theorem zm2 (n : Int) (h0 : 0 ≤ n) (h1 : n < 10) : zaC Tryz.prog 218 [.v (.int .i64 n)] (.v (.string (zjA n))) := by
 refine pF Tryz.func218 ?_
 have hS := zsR n h0 h1
 repeat first|with_reducible refine wV fun _=>?_|simp [go_sem]
 refine zyJ hS (by simp [go_sem]) ?_
 repeat first|with_reducible refine wV fun _=>?_|simp [go_sem]
theorem zsQ (b : Bool) : zaC Tryz.prog 268 [.v (.bool b)] (.v (.string (if b then zeM [116, 114, 117, 101] else zeM [102, 97, 108, 115, 101]))) := by
 refine pF Tryz.func268 ?_
 cases b
 ·repeat first|with_reducible refine wV fun _=>?_|simp [go_sem]
  exact zyW (by kernel_rfl)
 ·repeat first|with_reducible refine wV fun _=>?_|simp [go_sem]
  exact zyW (by kernel_rfl)
theorem ztf (b : Bool) : zaC Tryz.prog 219 [.v (.bool b)] (.v (.string (if b then zeM [116, 114, 117, 101] else zeM [102, 97, 108, 115, 101]))) := by
 refine pF Tryz.func219 ?_
 have hS := zsQ b
 repeat first|with_reducible refine wV fun _=>?_|simp [go_sem]
 refine zyJ hS (by simp [go_sem]) ?_
 repeat first|with_reducible refine wV fun _=>?_|simp [go_sem]
theorem ziw : ∀ (l : List Int) (r : ByteArray), (l.foldl (fun r n => r.push (UInt8.ofNat n.toNat)) r).data.toList = r.data.toList ++ l.map fun n => UInt8.ofNat n.toNat
 | [], r => by simp
 | n :: l, r => by
  rw [List.foldl_cons, ziw l]
  simp [ByteArray.push]
theorem zix (l : List Int) : (zeM l).data.toList = l.map fun n => UInt8.ofNat n.toNat := by
 unfold zeM; rw [ziw]; rfl
theorem zf9 (l : List Int) : (zeM l).size = l.length := by
 rw [← ByteArray.size_data, ← Array.length_toList, zix, List.length_map]
def ziE (s : StD) : ByteArray := zjA s.kind ++ zeM [32] ++ zjA s.cursor ++ zeM [32] ++ (if s.took then zeM [116, 114, 117, 101] else zeM [102, 97, 108, 115, 101]) ++ zeM [32] ++ zyb s.p
theorem zwt (s : StD) (hk : 0 ≤ s.kind ∧ s.kind < 10) (hc : 0 ≤ s.cursor ∧ s.cursor < 10) (h1 : s.p.at_.length ≤ 100) (h2 : s.p.h0.length ≤ 100) (h3 : s.p.h1.length ≤ 100) (hv : ∀ x ∈ zqu s.p, 0 ≤ x ∧ x ≤ 255) :
  zaC Tryz.prog 173 [.agg (zal s)] (.v (.string (ziE s))) := by
 refine pF Tryz.func173 ?_
 have hK := zm2 s.kind hk.1 hk.2
 have hC := zm2 s.cursor hc.1 hc.2
 have hB := ztf s.took
 have hP := zvH s.p h1 h2 h3 hv
 have hdk : (zjA s.kind).size = 1 := zf9 _
 have hdc : (zjA s.cursor).size = 1 := zf9 _
 have hdb : (if s.took then zeM [116, 114, 117, 101] else zeM [102, 97, 108, 115, 101]).size ≤ 5 := by split <;> simp [zf9]
 have hdp : (zyb s.p).size ≤ 302 := by unfold zyb; rw [zf9]; simp [zqu]; omega
 have h32 : (ByteArray.mk ⟨[32]⟩).size = 1 := rfl
 unfold ziE
 rw [show zeM [32] = ByteArray.mk ⟨[32]⟩ from rfl]
 generalize zjA s.kind = dk at *
 generalize zjA s.cursor = dc at *
 generalize (if s.took then zeM [116, 114, 117, 101] else zeM [102, 97, 108, 115, 101]) = db at *
 generalize zyb s.p = dp at *
 generalize ByteArray.mk ⟨[32]⟩ = sp at *
 repeat first|with_reducible refine wV fun _=>?_|simp [go_sem]
 refine zyM hK (by simp [go_sem]) ?_
 repeat first|with_reducible refine wV fun _=>?_|simp [go_sem]
 refine zyM hC (by simp [go_sem]) ?_
 repeat first|with_reducible refine wV fun _=>?_|simp [go_sem]
 refine zyM hB (by simp [go_sem]) ?_
 repeat first|with_reducible refine wV fun _=>?_|simp [go_sem]
 refine zyM hP (by simp [go_sem]) ?_
 repeat first|with_reducible refine wV fun _=>?_|simp [go_sem]
def ze3 (side : Int) (x : Int × Int) (s : StD) (l : List zco) : List zco := if x.1 = 0 then l ++ (zgc side s).toList else l
def zwA (p : zaj) (l : List zco) : List (Nat × zbz) := [(0, .rows true 0 5 [zad p]), (1, .rows true 0 1 [[.sl 2 l.length 6 0 l.length]]), (2, .rows true l.length 6 (l.map zat))]
theorem zuw (g : zaf) (hg : GOk g) (p : zaj) (hp : POk g p) (s : StD) (hs : zfn g s) (hsd : s.p.side = p.side) (x : Int × Int) (l : List zco) (hl : l.length ≤ 100000000) :
  ziC Tryz.prog 120 [.agg (zal s), .agg (zau x), .ref 0 0 5 0 0, .ref 1 0 1 0 0] (zwA p l) 3 (.tup []) (zwA p (ze3 p.side x s l)) 3 := by
 unfold ziC zwA
 refine zyL (by kernel_rfl) Tryz.func120 rfl rfl (Nat.le_of_ble_eq_true rfl) (by kernel_rfl) ?_
 obtain ⟨hcur, h0, hm, _⟩ := zod g s hg hs
 have hcp := zhh s (hs.p.fits hg)
 have hC := zdO s.kind p.side
 have hps := hp.s
 obtain ⟨op, xn⟩ := x
 repeat first|with_reducible refine wV fun _=>?_|simp [go_sem, hcur]
 refine zyK (fun hc => ?_) (fun hc => ?_) <;> simp at hc
 ·have e : ze3 p.side (op, xn) s l = l := by
   unfold ze3 zgc
   by_cases h : op = 0
   ·rw [if_pos h, if_neg (hc.resolve_left fun hn => hn h)]; simp
   ·rw [if_neg h]
  rw [e]
  repeat first|with_reducible refine wV fun _=>?_|simp [go_sem]
  simp [go_sem, zah]
 ·have e : ze3 p.side (op, xn) s l = l ++ [⟨{ s.p with at_ := s.p.at_.set s.cursor.toNat (zaD s.kind p.side), side := 1 - p.side }, s.took⟩] := by
   unfold ze3 zgc
   rw [if_pos hc.1, if_pos hc.2]; rfl
  rw [e]
  generalize zaD s.kind p.side = code at *
  repeat first|with_reducible refine wV fun _=>?_|simp [go_sem, hcur]
  refine zyO hcp (by simp [go_sem]) ?_
  repeat first|with_reducible refine wV fun _=>?_|simp [go_sem, hcur]
  refine zyM hC (by simp [go_sem]) ?_
  repeat first|with_reducible refine wV fun _=>?_|simp [go_sem, hcur]
  simp [go_sem, zah]
  (first|done|exact rwX)
theorem zcP {n : Nat} (l : List zco) : ∀ r ∈ l.map zat, ∀ c ∈ r, Bel n c := by
 intro r hr c hc
 obtain ⟨x, _, rfl⟩ := List.mem_map.1 hr
 revert c
 simp [go_sem]
def zn7 (h : zav) (a b c : Nat) (p : zaj) (l : List zco) : zav := upd (upd (upd h a (some (.rows true 0 5 [zad p]))) b (some (.rows true 0 1 [[.sl c l.length 6 0 l.length]]))) c (some (.rows true l.length 6 (l.map zat)))
theorem zn8 (g : zaf) (hg : GOk g) (p : zaj) (hp : POk g p) (s : StD) (hs : zfn g s) (hsd : s.p.side = p.side) (x : Int × Int) (l : List zco) (hl : l.length ≤ 100000000) {h : zav} {n a b c : Nat}
  (hd : [a, b, c].Nodup) (hlt : ∀ j ∈ [a, b, c], j < n) (ha : h a = some (.rows true 0 5 [zad p])) (hb : h b = some (.rows true 0 1 [[.sl c l.length 6 0 l.length]])) (hc : h c = some (.rows true l.length 6 (l.map zat))) {K : zc0}
  (hK : K (.tup []) (zn7 h a b c p (ze3 p.side x s l)) n) :
  zaa Tryz.prog 120 [.agg (zal s), .agg (zau x), .ref a 0 5 0 0, .ref b 0 1 0 0] h n K := by
 have hbs : ∀ m, Bel m (.agg (zal s)) := fun m => by simp [go_sem]
 have hbx : ∀ m, Bel m (.agg (zau x)) := fun m => by simp [go_sem]
 have hbp : ∀ m, ∀ c ∈ zad p, Bel m c := fun m => by simp [go_sem]
 refine zy2 (args' := [.agg (zal s), .agg (zau x), .ref a 0 5 0 0, .ref b 0 1 0 0])
  (HH := [(a, .rows true 0 5 [zad p]), (b, .rows true 0 1 [[.sl c (ze3 p.side x s l).length 6 0 (ze3 p.side x s l).length]]), (c, .rows true (ze3 p.side x s l).length 6 ((ze3 p.side x s l).map zat))])
  [a, b, c] h (zuw g hg p hp s hs hsd x l hl) hd hlt rfl (Nat.le_refl _) (.refl _) ?_ ?_ (.refl _ _ _ _) ?_ ?_ ?_ (.same ?_) ?_ ?_
 ·intro j hj
  rcases (show j = 0 ∨ j = 1 ∨ j = 2 by omega) with rfl | rfl | rfl
  ·exact ⟨_, _, rfl, ha, .rows (.same (by intro r hr; simp only [List.mem_singleton] at hr; subst hr; exact hbp _))⟩
  ·exact ⟨_, _, rfl, hb, .rows (.cons (.cons (.sl rfl) .nil) .nil)⟩
  ·exact ⟨_, _, rfl, hc, .rows (.same (zcP _))⟩
 ·intro q hq
  simp only [zwA, List.mem_cons, List.not_mem_nil, or_false] at hq
  rcases hq with rfl | rfl | rfl
  ·exact ⟨Nat.le_of_ble_eq_true rfl, by intro r hr; simp only [List.mem_singleton] at hr; subst hr; exact hbp _⟩
  ·exact ⟨Nat.le_of_ble_eq_true rfl, by simp [go_sem, zxt]⟩
  ·exact ⟨Nat.le_of_ble_eq_true rfl, zcP _⟩
 ·intro y hy
  simp only [List.mem_cons, List.not_mem_nil, or_false] at hy
  rcases hy with rfl | rfl | rfl | rfl
  ·exact hbs _
  ·exact hbx _
  ·exact .ref (hlt a (by simp))
  ·exact .ref (hlt b (by simp))
 ·exact .cons (.same (hbs _)) (.cons (.same (hbx _)) (.cons (.ref rfl) (.cons (.ref rfl) .nil)))
 ·intro y hy
  simp only [List.mem_cons, List.not_mem_nil, or_false] at hy
  rcases hy with rfl | rfl | rfl | rfl
  ·exact hbs _
  ·exact hbx _
  ·exact .ref (by decide)
  ·exact .ref (by decide)
 ·exact .tup (by simp)
 ·exact .cons rfl (.rows (.same (by intro r hr; simp only [List.mem_singleton] at hr; subst hr; exact hbp _))) (.cons rfl (.rows (.cons (.cons (.sl rfl) .nil) .nil)) (.cons rfl (.rows (.same (zcP _))) .nil))
 ·have e : zd7 [(a, .rows true 0 5 [zad p]), (b, .rows true 0 1 [[.sl c (ze3 p.side x s l).length 6 0 (ze3 p.side x s l).length]]), (c, .rows true (ze3 p.side x s l).length 6 ((ze3 p.side x s l).map zat))] (zlU [a, b, c] h) = zn7 h a b c p (ze3 p.side x s l) := by
   simp only [List.nodup_cons, List.mem_cons, List.not_mem_nil, or_false, not_or, List.nodup_nil, and_true, not_false_eq_true] at hd
   obtain ⟨⟨d1, d2⟩, d3⟩ := hd
   funext j
   simp only [zd7, zlU, zn7, upd]
   by_cases j1 : j = a
   ·subst j1; simp [d1, d2]
   ·by_cases j2 : j = b
    ·subst j2; simp [d3, j1]
    ·by_cases j3 : j = c
     ·subst j3; simp [j1, j2]
     ·simp [j1, j2, j3]
  rw [e]
  exact hK
def zya (s : StD) : List Int := [48 + s.kind, 32, 48 + s.cursor, 32] ++ ((if s.took then [116, 114, 117, 101] else [102, 97, 108, 115, 101]) ++ ([32] ++ zqu s.p))
theorem zjR (s : StD) : (ziE s).data.toList = (zya s).map fun n => UInt8.ofNat n.toNat := by
 unfold ziE zjA zyb zya
 cases s.took <;> simp [ByteArray.data_append, zix]
theorem u8_inj {x y : Int} (hx : 0 ≤ x ∧ x ≤ 255) (hy : 0 ≤ y ∧ y ≤ 255) (h : UInt8.ofNat x.toNat = UInt8.ofNat y.toNat) : x = y := by
 have h1 := congrArg UInt8.toNat h
 rw [UInt8.toNat_ofNat', UInt8.toNat_ofNat'] at h1
 omega
theorem zlK : ∀ {l l' : List Int}, (∀ x ∈ l, 0 ≤ x ∧ x ≤ 255) → (∀ x ∈ l', 0 ≤ x ∧ x ≤ 255) → (l.map fun n => UInt8.ofNat n.toNat) = (l'.map fun n => UInt8.ofNat n.toNat) → l = l'
 | [], [], _, _, _ => rfl
 | [], _ :: _, _, _, h => by simp at h
 | _ :: _, [], _, _, h => by simp at h
 | x :: l, y :: l', h1, h2, h => by
  simp only [List.map_cons, List.cons.injEq] at h
  rw [u8_inj (h1 x (by simp)) (h2 y (by simp)) h.1, zlK (fun z hz => h1 z (by simp [hz])) (fun z hz => h2 z (by simp [hz])) h.2]
theorem ztA {g : zaf} (hg : GOk g) {p : zaj} (hp : POk g p) : ∀ x ∈ zqu p, 0 ≤ x ∧ x ≤ 255 := by
 have k6 := hg.k6
 have r0 := hp.r0
 have r1 := hp.r1
 have hr : (2 : Int) ^ g.rights.toNat ≤ 16 := by
  have h1 := hg.r0
  have h2 := hg.r4
  rcases (show g.rights = 0 ∨ g.rights = 1 ∨ g.rights = 2 ∨ g.rights = 3 ∨ g.rights = 4 by omega) with h | h | h | h | h <;> rw [h] <;> decide
 have hh : ∀ l, zew g l → ∀ x ∈ l, 0 ≤ x ∧ x ≤ 255 := by
  intro l hl x hx
  obtain ⟨i, hi, rfl⟩ := List.mem_iff_getElem.1 hx
  have := hl.v i hi
  rw [zaJ _ _ hi] at this
  omega
 intro x hx
 simp only [zqu, List.mem_append, List.mem_cons, List.not_mem_nil, or_false] at hx
 rcases hx with ((hx | hx) | hx) | hx | hx
 ·have := hp.av x hx; omega
 ·exact hh _ hp.h0 x hx
 ·exact hh _ hp.h1 x hx
 ·omega
 ·have := hp.s; omega
theorem zws {g : zaf} (hg : GOk g) {a b : StD} (ha : zfn g a) (hb : zfn g b) (h : ziE a = ziE b) : a = b := by
 have k6 := hg.k6
 have c9 := hg.c9
 have hv : ∀ s, zfn g s → ∀ x ∈ zya s, 0 ≤ x ∧ x ≤ 255 := by
  intro s hs x hx
  have hk := hs.k
  have h0 := hs.c0
  have h1 := hs.c1
  unfold zya at hx
  rcases List.mem_append.1 hx with hx | hx
  ·simp at hx; omega
  rcases List.mem_append.1 hx with hx | hx
  ·by_cases ht : s.took = true <;> simp [ht] at hx <;> omega
  rcases List.mem_append.1 hx with hx | hx
  ·simp at hx; omega
  ·exact ztA hg hs.p x hx
 have h1 : zya a = zya b := zlK (hv a ha) (hv b hb) (by rw [← zjR, ← zjR, h])
 obtain ⟨pa, ka, ca, ta⟩ := a
 obtain ⟨pb, kb, cb, tb⟩ := b
 unfold zya at h1
 simp only [List.cons_append, List.nil_append, List.cons.injEq, true_and] at h1
 obtain ⟨e1, e2, h1⟩ := h1
 obtain rfl : ka = kb := by omega
 obtain rfl : ca = cb := by omega
 have h2 : ta = tb ∧ zqu pa = zqu pb := by
  cases ta <;> cases tb <;> simp at h1 ⊢
  ·exact h1
  ·exact h1
 obtain ⟨rfl, h2⟩ := h2
 have a1 := ha.p.al
 have b1 := hb.p.al
 have a2 := ha.p.h0.len
 have b2 := hb.p.h0.len
 have a3 := ha.p.h1.len
 have b3 := hb.p.h1.len
 obtain ⟨pat, ph0, ph1, pr, ps⟩ := pa
 obtain ⟨qat, qh0, qh1, qr, qs⟩ := pb
 simp only [zqu, List.append_assoc] at h2 a1 b1 a2 b2 a3 b3
 obtain ⟨e3, h3⟩ := List.append_inj h2 (by omega)
 obtain ⟨e4, h4⟩ := List.append_inj h3 (by omega)
 obtain ⟨e5, h5⟩ := List.append_inj h4 (by omega)
 simp only [List.cons.injEq, and_true] at h5
 rw [e3, e4, e5, h5.1, h5.2]
def zfk (s : StD) : List AV := [.v (.string (ziE s)), .v (.bool true)]
theorem zvX {n : Nat} {l : List StD} : (∀ r ∈ l.map zfk, ∀ c ∈ r, Bel n c) = True := by
 refine eq_true ?_
 intro r hr c hc
 obtain ⟨x, _, rfl⟩ := List.mem_map.1 hr
 simp only [zfk, List.mem_cons, List.not_mem_nil, or_false] at hc
 rcases hc with rfl | rfl <;> exact .v _
attribute [go_sem ↓] zvX
theorem znT (t : StD) : ∀ (next : List StD), (∀ s ∈ next, ziE t = ziE s → t = s) → zes .string (.v (.string (ziE t))) (next.map zfk) = some (if t ∈ next then some (.v (.bool true)) else none)
 | [], _ => by simp [zes]
 | s :: next, h => by
  rw [List.map_cons, zes]
  have e : zpG .string (.v (.string (ziE t))) (cel (zfk s) 0) = some (ziE t == ziE s) := rfl
  rw [e, znp]
  by_cases hk : ziE t = ziE s
  ·have := h s (by simp) hk
   subst this
   simp [zfk, cel]
  ·have hne : t ≠ s := fun e => hk (by rw [e])
   rw [decide_eq_false hk]
   simp only
   rw [znT t next (fun u hu => h u (by simp [hu]))]
   simp [hne]
theorem zq7 (t : StD) : ∀ (next : List StD), (∀ s ∈ next, ziE t = ziE s → t = s) → t ∉ next → zhc .string (.v (.string (ziE t))) (.v (.bool true)) (next.map zfk) = some ((next ++ [t]).map zfk)
 | [], _, _ => by simp [zhc, zfk]
 | s :: next, h, hn => by
  rw [List.map_cons, zhc]
  have e : zpG .string (.v (.string (ziE t))) (cel (zfk s) 0) = some (ziE t == ziE s) := rfl
  rw [e, znp]
  have hk : ziE t ≠ ziE s := fun e => hn (by rw [h s (by simp) e]; simp)
  rw [decide_eq_false hk]
  simp only
  rw [zq7 t next (fun u hu => h u (by simp [hu])) (fun hm => hn (by simp [hm]))]
  simp
def zdG (g : zaf) (p : zaj) (cell i : Int) : List zco := (zeq g p cell (za5 g p cell i)).filterMap (zgc p.side)
theorem zwR (g : zaf) (hg : GOk g) (p : zaj) (hp : POk g p) (cell i : Int) (hc : zci g p cell i) :
  ziC Tryz.prog 119 [.agg (zab g), .agg (zad p), .v (.int .i64 cell), .v (.int .i64 i), .fn (.func 120) [] [.ref 0 0 5 0 0, .ref 1 0 1 0 0]]
   [(0, .rows true 0 5 [zad p]), (1, .rows true 0 1 [[zyQ]])] 2 (.v (.int .i64 0))
   [(0, .rows true 0 5 [zad p]), (1, .rows true 0 1 [[.sl 247 (zdG g p cell i).length 6 0 (zdG g p cell i).length]]), (247, .rows true (zdG g p cell i).length 6 ((zdG g p cell i).map zat))] 248 := by
 unfold ziC
 refine zyL (by kernel_rfl) Tryz.func119 rfl rfl (Nat.le_of_ble_eq_true rfl) (by kernel_rfl) ?_
 have hal := hp.al
 obtain ⟨c0, c1, cm, cs, i0, i1⟩ := hc
 have hcur : cell.toNat < p.at_.length := by omega
 have hat := hp.at (i := cell.toNat) (by omega)
 have hO := zfE (nth p.at_ cell.toNat)
 have hman := zaS hat.1 hat.2 hg.k6
 have hV := zk6 g (by have := hg.k6; unfold zfo; omega) ⟨hg.r0, by have := hg.r4; omega⟩ p (hp.fits hg)
 rw [ze7.2 hp] at hV
 have hkl : (zaq (nth p.at_ cell.toNat)).1.toNat < g.kinds.length := by
  rcases hman with ⟨_, e⟩ | ⟨_, a, b, _⟩
  ·rw [e] at cm; simp at cm
  ·omega
 have hil : i.toNat < (nth g.kinds (zaq (nth p.at_ cell.toNat)).1.toNat).progs.length := by omega
 have hpg := hg.pr _ (zan hkl) _ (zan hil)
 have hst := fun n hn => zhq hg hp c0 c1 cm (prog := za5 g p cell i) hpg.st n hn
 have hz := zgK g p cell (za5 g p cell i)
 have hsu := fun n hn => zgJ g p cell (za5 g p cell i) (n := n) hn
 have hla := zgI g p cell (za5 g p cell i)
 have hp8 := hpg.len
 have hpst := hpg.st
 have hpe : za5 g p cell i = nth (nth g.kinds (zaq (nth p.at_ cell.toNat)).1.toNat).progs i.toNat := rfl
 rw [← hpe] at hp8 hpst
 have hlo : zdG g p cell i = (zeq g p cell (za5 g p cell i)).filterMap (zgc p.side) := rfl
 rw [hlo]
 obtain ⟨prog, hprog⟩ : ∃ q, q = za5 g p cell i := ⟨_, rfl⟩
 rw [← hprog] at hst hz hsu hp8 hpst hpe hla ⊢
 have hcp := zhh ⟨p, (zaq (nth p.at_ cell.toNat)).1, cell, false⟩ (hp.fits hg)
 generalize hm : zaq (nth p.at_ cell.toNat) = m at *
 obtain ⟨mk, ms⟩ := m
 simp only at cm cs i1 hkl hil hpe hcp
 repeat first|with_reducible refine wV fun _=>?_|simp [go_sem]
 refine zyJ hV (by simp [go_sem]) ?_
 repeat first|with_reducible refine wV fun _=>?_|simp [go_sem, hcur]
 (refine zyK (fun hF => by first | omega | (simp at hF; omega)) (fun hF => ?_); clear hF)
 repeat first|with_reducible refine wV fun _=>?_|simp [go_sem, hcur]
 refine zyJ hO (by simp [go_sem]) ?_
 repeat first|with_reducible refine wV fun _=>?_|simp [go_sem, hkl, hil, cs]
 (refine zyK (fun hF => by first | omega | (simp at hF; omega)) (fun hF => ?_); clear hF)
 repeat first|with_reducible refine wV fun _=>?_|simp [go_sem]
 refine zyO hcp (by simp [go_sem]) ?_
 repeat first|with_reducible refine wV fun _=>?_|simp [go_sem, hcur, hkl, hil]
 rw [← hpe]
 have hsz : ∀ n, n ≤ prog.length → (zbO g p cell prog n).length ≤ 100000000 := fun n hn => Nat.le_trans (hst n hn).2 (ziZ (by omega))
 have hst0 : zaO (zbO g p cell prog 0) = .lst 8 [[.lst 1 ((p.at_.map zb3).set cell.toNat [.v (.int .i64 0)]), zas p.h0, zas p.h1, .v (.int .i64 p.rights), .v (.int .i64 p.side), .v (.int .i64 mk), .v (.int .i64 cell), .v (.bool false)]] := by
  rw [hz]; simp [zaO, zeL, zal, clr, hm, zas, zb3, List.map_set]
 refine zyI (zyN (α := Nat) (fun k => ⟨[(4, .fn (.func 120) [] [.ref 0 0 5 0 0, .ref 1 0 1 0 0]), (5, .ref 2 0 9 0 0), (14, zaO (zbO g p cell prog k)), (87, zar prog), (88, .v (.int .i64 prog.length)), (89, .v (.int .i64 k))],
   [(0, .rows true 0 5 [zad p]), (1, .rows true 0 1 [[.sl 247 0 6 0 0]]), (2, .rows true 0 9 [zab g]), (247, .rows true 0 6 [])], 248⟩)
  (fun d k => k + d = prog.length) ?_ prog.length 0 ?_) ?_ ?_
 ·rintro d k k1 hrec
  repeat first|with_reducible refine wV fun _=>?_|simp [go_sem]
  refine zyK (fun hk => ?_) (fun hk => ?_) <;> simp at hk
  ·have hkk := hst k (by omega)
   have hks := hsz k (by omega)
   have hks' := hsz (k + 1) (by omega)
   have hsk := hsu k hk
   have hxs := hpst _ (zan hk)
   have hpo := fun n hn => zmL hg hxs hkk.1 n hn
   have hpa := zkb g (zbO g p cell prog k) (nth prog k)
   have hpz := zlS g (zbO g p cell prog k) (nth prog k)
   have hps := fun n hn => zhV g (zbO g p cell prog k) (nth prog k) (n := n) hn
   rw [← hsk] at hpa
   obtain ⟨now, hnow⟩ : ∃ now, now = zbO g p cell prog k := ⟨_, rfl⟩
   rw [← hnow] at hkk hks hpo hpa hpz hps ⊢
   obtain ⟨x, hx⟩ : ∃ x, x = nth prog k := ⟨_, rfl⟩
   rw [← hx] at hxs hpo hpa hpz hps
   repeat first|with_reducible refine wV fun _=>?_|simp [go_sem, hk, ← hx]
   refine zyI (zyN (α := Nat) (fun n => ⟨[(4, .fn (.func 120) [] [.ref 0 0 5 0 0, .ref 1 0 1 0 0]), (5, .ref 2 0 9 0 0), (16, .ref 248 0 2 0 0), (17, .sl 250 (zda g now x n).length 8 0 (zda g now x n).length), (18, .mp 249), (87, zar prog), (88, .v (.int .i64 prog.length)), (89, .v (.int .i64 k)), (94, zaO now), (95, .v (.int .i64 now.length)), (96, .v (.int .i64 n))],
     [(0, .rows true 0 5 [zad p]), (1, .rows true 0 1 [[.sl 247 0 6 0 0]]), (2, .rows true 0 9 [zab g]), (247, .rows true 0 6 []), (248, .rows true 0 2 [zau x]), (249, .rows true 0 2 ((zda g now x n).map zfk)), (250, .rows true (zda g now x n).length 8 ((zda g now x n).map zal))], 251⟩)
    (fun d n => n + d = now.length) ?_ now.length 0 ?_) ?_ ?_
   ·rintro d2 n n1 hrec2
    repeat first|with_reducible refine wV fun _=>?_|simp [go_sem]
    refine zyK (fun hn => ?_) (fun hn => ?_) <;> simp at hn
    ·have hsn := hkk.1 _ (zan hn)
     have hpn := hps n hn
     have hpoN := hpo n (by omega)
     have hpoS := hpo (n + 1) (by omega)
     have hSt := zvh g hg (nth now n) hsn.1 x hxs
     have hsl := zku hg (nth now n) x
     have hso := zhr hg hsn.1 hxs
     have hlk : ze3 p.side x (nth now n) [] = [] := by unfold ze3; rw [if_neg (by have := hxs.1; omega)]
     obtain ⟨s, hs⟩ : ∃ s, s = nth now n := ⟨_, rfl⟩
     rw [← hs] at hsn hpn hSt hsl hso hlk
     obtain ⟨more, hmore⟩ : ∃ more, more = zbV g s x := ⟨_, rfl⟩
     rw [← hmore] at hpn hSt hsl hso
     have hat := fun j hj => znd (zda g now x n) more (i := j) hj
     have hal' := fun j => zgU (more.take j) (zda g now x n)
     have haok : ∀ j, ∀ u ∈ zev (zda g now x n) (more.take j), zfn g u := fun j => ziM (fun u hu => (hpoN.1 u hu).1) (fun u hu => (hso u (List.mem_of_mem_take hu)).1)
     have haz : zev (zda g now x n) (more.take 0) = zda g now x n := by simp [zqr]
     have haa : zev (zda g now x n) (more.take more.length) = zda g now x (n + 1) := by rw [List.take_length, hpn]
     obtain ⟨nx, hnx⟩ : ∃ nx : Nat → List StD, nx = fun j => zev (zda g now x n) (more.take j) := ⟨_, rfl⟩
     have hnx' : ∀ j, zev (zda g now x n) (more.take j) = nx j := fun j => by rw [hnx]
     simp only [hnx'] at hat hal' haok haz haa
     clear hnx hnx'
     repeat first|with_reducible refine wV fun _=>?_|simp [go_sem, hn, ← hs]
     refine zn8 g hg p hp s hsn.1 hsn.2 x [] (by simp) (a := 0) (b := 1) (c := 247) (by decide) (by simp) (by simp [upd, zad, zas]) (by simp [upd]) (by simp [upd]) ?_
     rw [hlk]
     simp only [zn7]
     repeat first|with_reducible refine wV fun _=>?_|simp [go_sem]
     refine zyJ hSt (by simp [go_sem]) ?_
     repeat first|with_reducible refine wV fun _=>?_|simp [go_sem]
     refine zyI (zyN (α := Nat) (fun j => ⟨[(4, .fn (.func 120) [] [.ref 0 0 5 0 0, .ref 1 0 1 0 0]), (5, .ref 2 0 9 0 0), (16, .ref 248 0 2 0 0), (17, .sl 250 (nx j).length 8 0 (nx j).length), (18, .mp 249), (87, zar prog), (88, .v (.int .i64 prog.length)), (89, .v (.int .i64 k)), (94, zaO now), (95, .v (.int .i64 now.length)), (96, .v (.int .i64 n)), (107, zaO more), (108, .v (.int .i64 more.length)), (109, .v (.int .i64 j))],
       [(0, .rows true 0 5 [zad p]), (1, .rows true 0 1 [[.sl 247 0 6 0 0]]), (2, .rows true 0 9 [zab g]), (247, .rows true 0 6 []), (248, .rows true 0 2 [zau x]), (249, .rows true 0 2 ((nx j).map zfk)), (250, .rows true (nx j).length 8 ((nx j).map zal))], 252⟩)
      (fun d j => j + d = more.length) ?_ more.length 0 ?_) ?_ ?_
     ·rintro d3 j j1 hrec3
      repeat first|with_reducible refine wV fun _=>?_|simp [go_sem]
      refine zyK (fun hj => ?_) (fun hj => ?_) <;> simp at hj
      ·have htj := (hso _ (zan hj)).1
       have hatj := hat j hj
       have halj := hal' j
       have hmj : (more.take j).length ≤ 10 := by rw [List.length_take]; omega
       obtain ⟨t, ht⟩ : ∃ t, t = nth more j := ⟨_, rfl⟩
       rw [← ht] at htj hatj
       have hk6 := hg.k6
       have hc9 := hg.c9
       have hta := htj.p.al
       have ht0 := htj.p.h0.len
       have ht1 := htj.p.h1.len
       have htk := htj.k
       have htc0 := htj.c0
       have htc1 := htj.c1
       have hKey := zwt t (by omega) (by omega) (by omega) (by omega) (by omega) (ztA hg htj.p)
       have hin : ∀ u ∈ nx j, ziE t = ziE u → t = u := fun u hu e => zws hg htj (haok j u hu) e
       have hfind := znT t (nx j) hin
       have hput := zq7 t (nx j) hin
       repeat first|with_reducible refine wV fun _=>?_|simp [go_sem, hj, ← ht]
       refine zyJ hKey (by simp [go_sem]) ?_
       by_cases hmem : t ∈ nx j
       ·rw [if_pos hmem] at hatj hfind
        repeat first|with_reducible refine wV fun _=>?_|simp [go_sem, hfind]
        refine zyI (hrec3 (d3 - 1) (by omega) (j + 1) (by omega)) ?_ (by simp)
        simp [go_sem, zah, hatj]
       ·rw [if_neg hmem] at hatj hfind
        have hput := hput hmem
        repeat first|with_reducible refine wV fun _=>?_|simp [go_sem, hfind, hput]
        refine zyI (hrec3 (d3 - 1) (by omega) (j + 1) (by omega)) ?_ (by simp)
        simp [go_sem, zah, hatj]
        intro c hc
        simp only [zfk, List.mem_cons, List.not_mem_nil, or_false] at hc
        rcases hc with rfl | rfl <;> exact .v _
      ·have hnl : j = more.length := by omega
       subst hnl
       rw [haa]
       repeat first|with_reducible refine wV fun _=>?_|simp [go_sem]
       refine zyI (hrec2 (d2 - 1) (by omega) (n + 1) (by omega)) ?_ (by simp)
       simp [go_sem, zah]
     ·omega
     ·simp [go_sem, zah, haz]
     ·simp
    ·have hnl : n = now.length := by omega
     subst hnl
     rw [hpa]
     repeat first|with_reducible refine wV fun _=>?_|simp [go_sem]
     refine zyI (hrec (d - 1) (by omega) (k + 1) (by omega)) ?_ (by simp)
     simp [go_sem, zah]
     exact frX
   ·omega
   ·simp [go_sem, zah, hpz]
   ·simp
  ·have hkl' : k = prog.length := by omega
   subst hkl'
   rw [hla]
   have hl8 := hsz prog.length (Nat.le_refl _)
   have hlok := (hst prog.length (Nat.le_refl _)).1
   rw [hla] at hl8 hlok
   generalize zeq g p cell prog = last at *
   repeat first|with_reducible refine wV fun _=>?_|simp [go_sem]
   refine zyI (zyN (α := Nat) (fun j => ⟨[(4, .fn (.func 120) [] [.ref 0 0 5 0 0, .ref 1 0 1 0 0]), (129, zaO last), (130, .v (.int .i64 last.length)), (131, .v (.int .i64 j))],
     [(0, .rows true 0 5 [zad p]), (1, .rows true 0 1 [[.sl 247 ((last.take j).filterMap (zgc p.side)).length 6 0 ((last.take j).filterMap (zgc p.side)).length]]), (247, .rows true ((last.take j).filterMap (zgc p.side)).length 6 (((last.take j).filterMap (zgc p.side)).map zat))], 248⟩)
    (fun d j => j + d = last.length) ?_ last.length 0 ?_) ?_ ?_
   ·rintro d4 j j1 hrec4
    repeat first|with_reducible refine wV fun _=>?_|simp [go_sem]
    refine zyK (fun hj => ?_) (fun hj => ?_) <;> simp at hj
    ·have hsj := hlok _ (zan hj)
     have hol : ((last.take j).filterMap (zgc p.side)).length ≤ 100000000 := Nat.le_trans (List.length_filterMap_le _ _) (by rw [List.length_take]; omega)
     have hse : (last.take (j + 1)).filterMap (zgc p.side) = ze3 p.side (0, 0) (nth last j) ((last.take j).filterMap (zgc p.side)) := by
      rw [List.take_add_one, List.getElem?_eq_getElem hj, zaJ _ _ hj, List.filterMap_append]
      simp only [Option.toList_some, List.filterMap_cons, List.filterMap_nil, ze3, if_true]
      cases zgc p.side last[j] <;> rfl
     obtain ⟨out, hout⟩ : ∃ out, out = (last.take j).filterMap (zgc p.side) := ⟨_, rfl⟩
     rw [← hout] at hol hse ⊢
     obtain ⟨t, ht⟩ : ∃ t, t = nth last j := ⟨_, rfl⟩
     rw [← ht] at hsj hse
     repeat first|with_reducible refine wV fun _=>?_|simp [go_sem, hj, ← ht]
     refine zn8 g hg p hp t hsj.1 hsj.2 (0, 0) out hol (a := 0) (b := 1) (c := 247) (by decide) (by simp) (by simp [upd, zad, zas]) (by simp [upd]) (by simp [upd]) ?_
     rw [← hse]
     simp only [zn7]
     repeat first|with_reducible refine wV fun _=>?_|simp [go_sem]
     refine zyI (hrec4 (d4 - 1) (by omega) (j + 1) (by omega)) ?_ (by simp)
     simp [go_sem, zah]
    ·have hnl : j = last.length := by omega
     subst hnl
     rw [List.take_length]
     repeat first|with_reducible refine wV fun _=>?_|simp [go_sem]
     simp [go_sem, zah]
   ·omega
   ·simp [go_sem, zah]
   ·simp
 ·omega
 ·simp [go_sem, zah]
  rw [show AV.lst 8 (List.map zal (zbO g p cell prog 0)) = _ from hst0]
  (first|done|exact dpX)
 ·simp
theorem zv9 (a b : zco) : orI [zbw a.pos b.pos, zba (if a.took then 1 else 0) (if b.took then 1 else 0)] = zif a b := by
 unfold zif zyg
 simp only [orI]
 repeat' split
 all_goals first | rfl | omega
theorem zgG (a b : zco) (ha : zaW a.pos) (hb : zaW b.pos) : zaC Tryz.prog 124 [.agg (zat a), .agg (zat b)] (.v (.int .i64 (zif a b))) := by
 refine pF Tryz.func124 ?_
 rw [← zv9]
 have c1 := zbI _ _ ha hb
 obtain ⟨pa, ta⟩ := a
 obtain ⟨pb, tb⟩ := b
 have c4 := zdI (if ta then 1 else 0) (if tb then 1 else 0)
 simp only at c1 c4 ⊢
 generalize hx1 : zbw pa pb = x1 at *
 generalize hx2 : zba (if ta then 1 else 0) (if tb then 1 else 0) = x2 at *
 cases ta <;> cases tb <;> simp only [if_true, Bool.false_eq_true, if_false] at c4 <;>
 ·repeat first|with_reducible refine wV fun _=>?_|simp [go_sem]
  refine zyM c1 (by simp [go_sem]) ?_
  repeat first|with_reducible refine wV fun _=>?_|simp [go_sem]
  refine zyM c4 (by simp [go_sem]) ?_
  repeat first|with_reducible refine wV fun _=>?_|simp [go_sem]
  refine zay.frz [zas [x1, x2]] _ [17] [(17, some (.rows false 0 1 ([x1, x2].map zb3)))] (zqE _ (by unfold zeR; simp)) ?_ ?_ (by simp [go_sem]) ?_
  ·intro p hp
   simp only [List.mem_singleton] at hp
   subst hp
   exact ⟨by simp, 0, 1, _, rfl, by simp [upd, go_sem]⟩
  ·intro h₁ hS
   have h7 := hS 17 (by simp)
   simp [go_sem] at h7
   exact .cons (zam h7.symm (by simp) (by simp [zao, upd]) (by simp [go_sem])) .nil
  ·repeat first|with_reducible refine wV fun _=>?_|simp [go_sem]
theorem zsO (a b : zco) (ha : zaW a.pos) (hb : zaW b.pos) : zaC Tryz.prog 126 [.agg (zat a), .agg (zat b)] (.v (.bool (decide (a = b)))) := by
 refine pF Tryz.func126 ?_
 have c1 := zgG a b ha hb
 have e : decide (a = b) = decide (zif a b = 0) := by rw [decide_eq_decide]; exact (zch.eq a b).symm
 rw [e]
 generalize zif a b = x at *
 repeat first|with_reducible refine wV fun _=>?_|simp [go_sem]
 refine zyJ c1 (by simp [go_sem]) ?_
 repeat first|with_reducible refine wV fun _=>?_|simp [go_sem]
theorem zp0 (a b : zaj) (ha : zaW a) (hb : zaW b) : zaC Tryz.prog 142 [.agg (zad a), .agg (zad b)] (.v (.bool (decide (a = b)))) := by
 refine pF Tryz.func142 ?_
 have c1 := zbI a b ha hb
 have e : decide (a = b) = decide (zbw a b = 0) := by rw [decide_eq_decide]; exact (za8.eq a b).symm
 rw [e]
 generalize zbw a b = x at *
 repeat first|with_reducible refine wV fun _=>?_|simp [go_sem]
 refine zyJ c1 (by simp [go_sem]) ?_
 repeat first|with_reducible refine wV fun _=>?_|simp [go_sem]
def zmV : List AV := [.v (.slice none 0 0), .v (.slice none 0 0), .v (.slice none 0 0), .v (.int .i64 0), .v (.int .i64 0), .v (.bool false)]
theorem zjz {α : Type} [DecidableEq α] {l : List α} (h : l.length < 2) : zbq l = l := by
 match l, h with
 | [], _ => rfl
 | [a], _ => rfl
 | a :: b :: l, h => simp only [List.length_cons] at h; omega
end Go.Av
end
section
namespace Go.Av
open Go Go.Sort Go.Shelf Go.Proofs
structure El (w : World) (M : Nat → Prop) {α : Type} (en : α → List AV) (Q : α → Prop) where
 x : α
 vs : List Value
 q : Q x
 rel : zaN noP w M (en x) vs
 cells : ∀ v ∈ vs, zcg v = true
theorem zr7 {w : World} {M : Nat → Prop} {α : Type} {en : α → List AV} {Q : α → Prop} : ∀ {l : List α} {W : List Value}, (∀ x ∈ l, Q x) → zaN noP w M (l.map en).flatten W → (∀ v ∈ W, zcg v = true) →
  ∃ ls : List (El w M en Q), ls.map (·.x) = l ∧ (ls.map (·.vs)).flatten = W
 | [], W, _, h, _ => by cases h; exact ⟨[], rfl, rfl⟩
 | x :: l, W, hq, h, hc => by
  rw [List.map_cons, List.flatten_cons] at h
  obtain ⟨us, ts, rfl, h1, h2⟩ := h.split
  obtain ⟨ls, e1, e2⟩ := zr7 (fun y hy => hq y (by simp [hy])) h2 (fun v hv => hc v (by simp [hv]))
  exact ⟨⟨x, us, hq x (by simp), h1, fun v hv => hc v (by simp [hv])⟩ :: ls, by simp [e1], by simp [e2]⟩
theorem zqM {k : Nat} (hk : 0 < k) : ∀ (ls : List (List Value)) (t : Nat), (∀ r ∈ ls, r.length = k) → t < ls.length * k → ls.flatten[t]? = (ls[t / k]?).bind (·[t % k]?)
 | [], t, _, h => by simp at h
 | r :: ls, t, hr, h => by
  have hl : r.length = k := hr r (by simp)
  rw [List.flatten_cons]
  by_cases ht : t < k
  ·rw [List.getElem?_append_left (by omega), Nat.div_eq_of_lt ht, Nat.mod_eq_of_lt ht]; rfl
  ·obtain ⟨s, rfl⟩ : ∃ s, t = s + k := ⟨t - k, by omega⟩
   have hs : s < ls.length * k := by simp only [List.length_cons, Nat.add_mul, Nat.one_mul] at h; omega
   rw [List.getElem?_append_right (by omega), hl, Nat.add_sub_cancel, zqM hk ls s (fun r hr' => hr r (by simp [hr'])) hs, Nat.add_div_right _ hk, Nat.add_mod_right, List.getElem?_cons_succ]
theorem zsg {β : Type} [Inhabited β] (enc : β → List Value) {k : Nat} (hk0 : 0 < k) (hk : ∀ x, (enc x).length = k) (d : Array β) : (flatK enc k d).toList = (d.toList.map enc).flatten := by
 refine List.ext_getElem? fun t => ?_
 have hr : ∀ r ∈ d.toList.map enc, r.length = k := fun r hr => by obtain ⟨x, _, rfl⟩ := List.mem_map.1 hr; exact hk x
 have hlen : ((d.toList.map enc).flatten).length = d.size * k := by
  have : ∀ ls : List (List Value), (∀ r ∈ ls, r.length = k) → ls.flatten.length = ls.length * k := by
   intro ls
   induction ls with
   | nil => intro _; simp
   | cons r ls ih => intro h; rw [List.flatten_cons, List.length_append, ih (fun r hr => h r (by simp [hr])), h r (by simp), List.length_cons, Nat.add_mul]; omega
  rw [this _ hr]; simp
 by_cases ht : t < d.size * k
 ·have h1 := get_flatK enc k d t ht
  have hq : t / k < d.size := Nat.div_lt_of_lt_mul (by rw [Nat.mul_comm]; exact ht)
  have hm : t % k < k := Nat.mod_lt _ hk0
  have hs : t < (flatK enc k d).size := by rw [size_flatK]; exact ht
  rw [zqM hk0 _ t hr (by simpa using ht), Array.getElem?_toList, Array.getElem?_eq_getElem hs, ← getElem!_pos (flatK enc k d) t hs, h1, List.getElem?_map, Array.getElem?_toList, Array.getElem?_eq_getElem hq,
   getElem!_pos d (t / k) hq]
  simp only [Option.map_some, Option.bind_some]
  rw [List.getElem?_eq_getElem (by rw [hk]; exact hm), getElem!_pos _ _ (by rw [hk]; exact hm)]
 ·rw [List.getElem?_eq_none (by rw [Array.length_toList, size_flatK]; omega), List.getElem?_eq_none (by omega)]
theorem zsV {w : World} {blk off : Nat} {C : Array Value} {T : TypeId} (hb : w.heap[blk]? = some (.cells C T (0, 0))) {F : Array Value} (hF : off + F.size ≤ C.size) (n : Nat) (os : Array Obj) :
  ∃ C', (grow (putRow id (Sort.ahead w n) blk off F) os).heap[blk]? = some (.cells C' T (0, 0)) ∧ C'.size = C.size ∧ (C'.toList.drop off).take F.size = F.toList ∧
   (∀ j, j ≠ blk → j < w.heap.size → (grow (putRow id (Sort.ahead w n) blk off F) os).heap[j]? = w.heap[j]?) ∧ w.heap.size ≤ (grow (putRow id (Sort.ahead w n) blk off F) os).heap.size := by
 have hlt : blk < w.heap.size := (Array.getElem?_eq_some_iff.1 hb).1
 have hsz : (putRow id (Sort.ahead w n) blk off F).heap.size = w.heap.size := by rw [Sort.size_putRow]; rfl
 have hold : ∀ j, j < w.heap.size → (grow (putRow id (Sort.ahead w n) blk off F) os).heap[j]? = (w.heap.modify blk (onCells (putCells id off F)))[j]? := by
  intro j hj
  show (_ ++ os)[j]? = _
  rw [Array.getElem?_append_left (by rw [hsz]; exact hj)]
  rfl
 refine ⟨putCells id off F C, ?_, by simp [putCells], ?_, fun j hj hjl => ?_, ?_⟩
 ·rw [hold blk hlt, Array.getElem?_modify]
  simp [hb, onCells]
 ·refine List.ext_getElem? fun j => ?_
  by_cases hj : j < F.size
  ·rw [List.getElem?_take, if_pos hj, List.getElem?_drop, Array.getElem?_toList, Array.getElem?_toList]
   simp only [putCells, Array.getElem?_mapIdx]
   rw [Array.getElem?_eq_getElem (show off + j < C.size by omega), Array.getElem?_eq_getElem hj]
   simp only [Option.map_some]
   rw [if_pos ⟨by omega, by omega⟩, show off + j - off = j by omega, getElem!_pos F j hj]
   rfl
  ·rw [List.getElem?_eq_none (by simp; omega), List.getElem?_eq_none (by simpa using hj)]
 ·rw [hold j hjl, Array.getElem?_modify, if_neg (Ne.symm hj)]
 ·rw [size_grow, hsz]; omega
theorem zkp {w : World} {blk off : Nat} {C : Array Value} {T : TypeId} (hb : w.heap[blk]? = some (.cells C T (0, 0))) {β : Type} [Inhabited β] (enc : β → List Value) (k : Nat) (d : Array β) (hF : off + d.size * k ≤ C.size) (n : Nat) (os : Array Obj) :
  ∃ C', (sortWorldK enc k w blk off n d os).heap[blk]? = some (.cells C' T (0, 0)) ∧ C'.size = C.size ∧ (C'.toList.drop off).take (d.size * k) = (flatK enc k d).toList ∧
   (∀ j, j ≠ blk → j < w.heap.size → (sortWorldK enc k w blk off n d os).heap[j]? = w.heap[j]?) ∧ w.heap.size ≤ (sortWorldK enc k w blk off n d os).heap.size ∧
   (sortWorldK enc k w blk off n d os).os = w.os ∧ (sortWorldK enc k w blk off n d os).tape = w.tape ∧ (sortWorldK enc k w blk off n d os).output = w.output ∧ w.drawn ≤ (sortWorldK enc k w blk off n d os).drawn := by
 obtain ⟨C', h1, h2, h3, h4, h5⟩ := zsV hb (F := flatK enc k d) (by rw [size_flatK]; exact hF) n os
 unfold sortWorldK putRowK
 rw [size_flatK] at h3
 exact ⟨C', h1, h2, h3, h4, h5, rfl, rfl, rfl, Nat.le_add_right _ _⟩
theorem zwX {α β : Type} {lt : α → α → Bool} (h : SWO lt) (f : β → α) : SWO (fun a b => lt (f a) (f b)) := ⟨fun _ => h.irrefl _, fun _ _ _ => h.trans _ _ _, fun _ _ _ => h.ntrans _ _ _⟩
theorem zy7 {P : Program} {ρ : Ren} (L : SlLaysF0.n6 P ρ) {α : Type} {k : Nat} (hk0 : 0 < k) (aE : ∀ w, (isAgg (ρ.t 24)).run P w = .ok true w) (zE : ∀ w, (Go.sizeOf (ρ.t 24)).run P w = .ok k w)
  (en : α → List AV) (henl : ∀ x, (en x).length = k) (henb : ∀ x, ∀ c ∈ en x, Bel 0 c) (Q : α → Prop) (cf : α → α → Int) (hO : SWO (fun a b : α => decide (cf a b < 0))) (g : FuncId)
  (hC : ∀ x y, Q x → Q y → zaC P g [.agg (en x), .agg (en y)] (.v (.int .i64 (cf x y)))) (hg : zd9 P g) (l : List α) (hQ : ∀ x ∈ l, Q x) (hl : l.length < 4611686018427387904) {h : zav} {n o gn : Nat}
  (ho : h o = some (.rows true gn k (l.map en))) {K : zc0} (hK : ∀ l' : List α, l'.Perm l → l'.Pairwise (fun a b => ¬ cf b a < 0) → K (.tup []) (upd h o (some (.rows true gn k (l'.map en)))) n) :
  zaa P (ρ.f 6) [.sl o gn k 0 l.length, .fn (.func g) [] []] h n K := by
 have e6 : zd9 P (ρ.f 6) := L.f6.enters rfl
 refine ⟨e6, fun M0 φ w vs hH hargs => ?_⟩
 cases hargs with
 | cons hs ht =>
 cases ht with
 | cons hf ht =>
 cases ht
 cases hf with
 | @fn _ _ _ fs cs q1 q2 =>
 cases q1; cases q2
 have hal : zcC h o gn k := by simp [zcC, ho]
 obtain ⟨A, cap, rfl, hcap, hA⟩ := hH.sl_alive hal hs
 have hnone : l = [] → Calls P (ρ.f 6) ⟨[.slice A l.length cap, .func (.func g) ⟨[]⟩ ⟨[]⟩]⟩ w fun e w' => ∃ v φ' r h' n', e = .returned v ∧ K r h' n' ∧ zgP φ' n' w' M0 h' ∧ Rel φ' w' (Or M0 (Mut φ' h')) r v ∧ zcZ φ w M0 h φ' w' h' := by
  intro he
  subst he
  refine (AnyF.slices_SortFunc_none L A cap _ w).mono ?_
  rintro e w' ⟨rfl, rfl⟩
  have := hK [] (.refl _) .nil
  rw [← ho, zel] at this
  exact ⟨_, φ, .tup [], h, n, rfl, this, hH, .tup (vs := []) .nil, .refl _ _ _ _⟩
 by_cases he : l = []
 ·exact hnone he
 have hlp : 0 < l.length := List.length_pos_iff.2 he
 rcases hA with ⟨rfl, _, h0, _⟩ | ⟨h0, rfl, _⟩ | ⟨a, bs, hp, hsp, rfl, hcb⟩
 ·omega
 ·omega
 obtain ⟨A0, hA0, hobj⟩ := hH.obj _ _ _ _ _ ho
 rw [hp] at hA0
 simp only [Option.some.injEq, Prod.mk.injEq, true_and] at hA0
 subst hA0
 rcases hobj with ⟨hobj, _⟩ | ⟨a₁, bs₁, e1, h0, hd⟩
 ·cases hobj
 simp only [Option.some.injEq, Prod.mk.injEq] at e1
 obtain ⟨rfl, rfl⟩ := e1
 obtain ⟨C, T, hb, hCs, hr, hle, hv, hrel⟩ := hd.cells hsp
 rw [List.length_map] at hle hv hrel
 have hrel0 : zaN noP w (Or M0 (Mut φ h)) (l.map en).flatten ((C.toList.drop a.off).take (l.length * k)) := zgH (fun _ hk => hk) (fun c hc => by
  obtain ⟨r, hr, hc⟩ := List.mem_flatten.1 hc
  obtain ⟨x, _, rfl⟩ := List.mem_map.1 hr
  exact henb x c hc) hrel
 obtain ⟨ls, hlx, hlv⟩ := zr7 (Q := Q) hQ hrel0 hv
 have hlen : ls.length = l.length := by rw [← hlx, List.length_map]
 obtain ⟨d, hd⟩ : ∃ d : Array (El w (Or M0 (Mut φ h)) en Q), d = ls.toArray := ⟨_, rfl⟩
 have hds : d.size = l.length := by rw [hd]; simpa using hlen
 haveI : Inhabited (El w (Or M0 (Mut φ h)) en Q) := ⟨ls[0]'(by omega)⟩
 have hkE : ∀ x : El w (Or M0 (Mut φ h)) en Q, x.vs.length = k := fun x => by rw [← x.rel.length, henl]
 have hMb : Or M0 (Mut φ h) a.block := .inr ⟨o, gn, k, _, gn, a, bs, ho, hp, rfl⟩
 have hblk : a.block < w.heap.size := (Array.getElem?_eq_some_iff.1 hb).1
 have hfl : ∀ d' : Array (El w (Or M0 (Mut φ h)) en Q), (flatK (fun x => x.vs) k d').toList = (d'.toList.map fun x => x.vs).flatten := fun d' => zsg _ hk0 hkE d'
 have hCal : Calls P (ρ.f 6) ⟨[.slice (some ⟨a.block, a.off + 0 * k, none⟩) l.length cap, .func (.func g) ⟨[]⟩ ⟨[]⟩]⟩ w fun e w' =>
   e = .returned (.tuple #[]) ∧ ∃ d' n os, PermIn 0 d.size d d' ∧ SortedIn (ltOf fun x y : El w (Or M0 (Mut φ h)) en Q => cf x.x y.x) 0 d.size d' ∧ w' = sortWorldK (fun x => x.vs) k w a.block a.off n d' os := by
  rw [Nat.zero_mul, Nat.add_zero, ← hds]
  refine AnyQ.slices_SortFunc L k aE zE (fun x : El w (Or M0 (Mut φ h)) en Q => x.vs) hkE (fun x => x.cells) (fun x y => cf x.x y.x) (zwX hO fun x : El w (Or M0 (Mut φ h)) en Q => x.x) g #[] a.block a.off cap d w hg ?_ ?_ hblk (by omega)
  ·intro m os dk hdk x y
   obtain ⟨hx1, hx2⟩ := hC x.x y.x x.q y.q
   obtain ⟨C', k1, k2, k3, k4, k5, k6, k7, k8, k9⟩ := zkp (off := a.off) hb (fun x : El w (Or M0 (Mut φ h)) en Q => x.vs) k dk (by rw [hdk, hds]; omega) m os
   generalize sortWorldK (fun x : El w (Or M0 (Mut φ h)) en Q => x.vs) k w a.block a.off m dk os = X at *
   have hkeep : ∀ z : El w (Or M0 (Mut φ h)) en Q, zaN noP X (Or M0 (Mut φ h)) (en z.x) z.vs := fun z =>
    z.rel.keep noP.le_refl (fun j hj hjl => k4 j (fun e => hj (e ▸ hMb)) hjl) (fun j hj => .inl hj)
   have hag : ∀ z : El w (Or M0 (Mut φ h)) en Q, Rel noP X (Or M0 (Mut φ h)) (.agg (en z.x)) (.agg z.vs.toArray) := fun z => .agg z.cells (hkeep z)
   refine (hx2 (Or M0 (Mut φ h)) X [.agg x.vs.toArray, .agg y.vs.toArray] (fun j hj => Nat.lt_of_lt_of_le (hH.blk hj) k5) (hH.glob.keep (fun j hj hjl => k4 j (fun e => hj (e ▸ hMb)) hjl) (fun j hj => .inl hj)) (.cons (hag x) (.cons (hag y) .nil))).mono ?_
   rintro e w' ⟨v, rfl, hrv, hfr⟩
   cases hrv
   refine ⟨rfl, w'.drawn - X.drawn, w'.heap.extract X.heap.size w'.heap.size, ?_⟩
   have hheap : X.heap ++ w'.heap.extract X.heap.size w'.heap.size = w'.heap := by
    refine Array.ext_getElem? fun j => ?_
    by_cases hj : j < X.heap.size
    ·rw [Array.getElem?_append_left hj, hfr.block j hj (fun h => h)]
    ·rw [Array.getElem?_append_right (by omega), Array.getElem?_extract]
     have := hfr.size
     split
     ·congr 1; omega
     ·rw [Array.getElem?_eq_none (by omega)]
   have hdr : X.drawn + (w'.drawn - X.drawn) = w'.drawn := by have := hfr.drawn; omega
   cases w' with
   | mk hp tp dr os' out =>
    have e1 := hfr.os; have e2 := hfr.tape; have e3 := hfr.output
    simp only at e1 e2 e3 hheap hdr
    subst e1 e2 e3
    simp only [grow, World.drewN, hheap, hdr]
  ·intro j hj
   have hjl : j < ((C.toList.drop a.off).take (l.length * k)).length := by
    rw [← hlv, ← show (d.toList.map fun x => x.vs) = ls.map (·.vs) by rw [hd], ← hfl, Array.length_toList]; exact hj
   have hget : (flatK (fun x : El w (Or M0 (Mut φ h)) en Q => x.vs) k d)[j]! = C[a.off + j]! := by
    have e1 : (flatK (fun x : El w (Or M0 (Mut φ h)) en Q => x.vs) k d).toList = (C.toList.drop a.off).take (l.length * k) := by rw [hfl, hd]; exact hlv
    have hjC : a.off + j < C.size := by simp at hjl; omega
    rw [getElem!_pos _ j hj, getElem!_pos C _ hjC, ← Array.getElem_toList, ← Array.getElem_toList (xs := C)]
    simp only [e1, List.getElem_take, List.getElem_drop]
   have hjC : a.off + j < C.size := by simp at hjl; omega
   refine ⟨?_, ?_⟩
   ·simp only [World.cell?, hb]
    rw [hget]
    simp [hjC]
   ·simp [World.frozen?, hb]
 refine hCal.mono ?_
 rintro e w' ⟨rfl, d', n', os, hperm, hsort, rfl⟩
 obtain ⟨hps, _, hpp⟩ := hperm
 obtain ⟨C', k1, k2, k3, k4, k5, k6, k7, k8, k9⟩ := zkp (off := a.off) hb (fun x : El w (Or M0 (Mut φ h)) en Q => x.vs) k d' (by rw [hps, hds]; omega) n' os
 generalize sortWorldK (fun x : El w (Or M0 (Mut φ h)) en Q => x.vs) k w a.block a.off n' d' os = X at *
 obtain ⟨l', hl'⟩ : ∃ l' : List α, l' = d'.toList.map fun x => x.x := ⟨_, rfl⟩
 have hl'l : l'.length = l.length := by rw [hl', List.length_map, Array.length_toList, hps, hds]
 have hpl : l'.Perm l := by
  have h1 : (d'.extract 0 d.size).toList = d'.toList := by rw [← hps]; simp
  have h2 : (d.extract 0 d.size).toList = d.toList := by simp
  rw [h1, h2] at hpp
  have := hpp.map fun x => x.x
  rw [hl', ← hlx]
  simpa [hd] using this
 have hpw : l'.Pairwise (fun x y => ¬ cf y x < 0) := by
  rw [hl', List.pairwise_map, List.pairwise_iff_getElem]
  intro i j hi hj hij
  have hi' : i < d'.size := by simpa using hi
  have hj' : j < d'.size := by simpa using hj
  have := hsort i j (Nat.zero_le _) hij (by omega)
  rw [getElem!_pos d' i hi', getElem!_pos d' j hj'] at this
  simpa [ltOf] using this
 have hwin : (C'.toList.drop a.off).take (l'.length * k) = (d'.toList.map fun x => x.vs).flatten := by
  rw [hps, hds, hfl] at k3
  rw [hl'l]; exact k3
 have hrel' : zaN φ w (Or M0 (Mut φ h)) (l'.map en).flatten ((C'.toList.drop a.off).take (l'.length * k)) := by
  rw [hwin, hl']
  generalize d'.toList = ds
  induction ds with
  | nil => exact .nil
  | cons z ds ih =>
   simp only [List.map_cons, List.flatten_cons]
   exact (z.rel.keep (fun o x ho => by cases ho) (fun _ _ _ => rfl) (fun k hk => .inl hk)).append ih
 have hle0 : φ.le (upd φ o (some (gn, some (a, bs)))) := by rw [← hp, zel]; exact φ.le_refl
 have hol : ¬ n ≤ o := fun hle => by rw [hH.fresh o hle] at hp; cases hp
 obtain ⟨g1, g2, g3⟩ := hH.set (w' := X) (F' := fun o => n ≤ o) (o := o) (mt := true) (g := gn) (sz := k) (rs := l'.map en) (A := some (a, bs))
  (fun _ h => h) hol k5 hle0 (fun j hj hjl => k4 j (fun e => hj (e ▸ hMb)) hjl)
  (fun o' mt' g' sz' rs' a₁ b₁ hne ho' hp' => by
   have := hH.inj _ _ _ _ _ _ _ _ _ _ _ _ _ _ ho ho' (Ne.symm hne) (.inl rfl) hp hp'
   have hlt : a₁.block < w.heap.size := by
    obtain ⟨A1, hA1, hc1⟩ := hH.obj _ _ _ _ _ ho'
    rw [hp'] at hA1
    simp only [Option.some.injEq, Prod.mk.injEq, true_and] at hA1
    subst hA1
    rcases hc1 with ⟨hc1, _⟩ | ⟨a2, b2, e2, _, hb2⟩
    ·cases hc1
    ·simp only [Option.some.injEq, Prod.mk.injEq] at e2
     obtain ⟨rfl, rfl⟩ := e2
     exact hb2.blk
   refine ⟨k4 _ (Ne.symm this) hlt, fun a₂ b₂ e => ?_⟩
   simp only [Option.some.injEq, Prod.mk.injEq] at e
   obtain ⟨rfl, rfl⟩ := e
   exact this)
  (fun a₁ b₁ e => by
   simp only [Option.some.injEq, Prod.mk.injEq] at e
   obtain ⟨rfl, rfl⟩ := e
   exact .inl hMb)
  (.inr ⟨a, bs, C', T, rfl, hsp, h0, k1, by rw [k2]; exact hCs, fun r hr => by
    obtain ⟨x, _, rfl⟩ := List.mem_map.1 hr
    exact henl x, by rw [List.length_map, hl'l]; exact hle, fun c hm => by
    rw [List.length_map, hwin] at hm
    obtain ⟨r, hr, hm⟩ := List.mem_flatten.1 hm
    obtain ⟨z, _, rfl⟩ := List.mem_map.1 hr
    exact z.cells c hm, by rw [List.length_map]; exact hrel'⟩)
 refine ⟨_, _, .tup [], _, n, rfl, hK l' hpl hpw, g1, .tup (vs := []) .nil, ⟨hle0, g2, ⟨k6, k7, k8, k9, k5, fun j hj hu => k4 j (fun e => hu ⟨o, gn, k, _, gn, a, bs, ho, hp, e.symm⟩) hj⟩, fun j hj => ?_⟩⟩
 rcases g3 j hj with h | ⟨a₁, b₁, e, rfl⟩
 ·exact .inl h
 ·simp only [Option.some.injEq, Prod.mk.injEq] at e
  obtain ⟨rfl, rfl⟩ := e
  exact .inl ⟨o, gn, k, _, gn, a, bs, ho, hp, rfl⟩
end Go.Av
end
