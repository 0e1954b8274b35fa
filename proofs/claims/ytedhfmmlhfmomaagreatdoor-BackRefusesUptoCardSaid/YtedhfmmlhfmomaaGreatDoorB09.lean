/- Texts of ours, part 9: our library and contracts of functions. -/
import Derived.Test.YtedhfmmlhfmomaaGreatDoorB08
set_option linter.unusedSimpArgs false
set_option linter.unusedVariables false
set_option maxRecDepth 100000
set_option maxHeartbeats 40000000
section
open Go Go.Proofs
namespace Go.Av
theorem zoO {g : zae} (hg : GOk g) {p : zah} (hp : POk g p) : p.rights < 16 := by
 have h4 := hg.r4
 have h0 := hg.r0
 have := hp.r1
 have e : (2 : Int) ^ g.rights.toNat ≤ 2 ^ 4 := by
  rcases (show g.rights.toNat = 0 ∨ g.rights.toNat = 1 ∨ g.rights.toNat = 2 ∨ g.rights.toNat = 3 ∨ g.rights.toNat = 4 by omega) with h | h | h | h | h <;> rw [h] <;> decide
 omega
def zqj (a : Int) (n : Nat) : Bool := decide (zit .i64 a (2 ^ n) = 0)
def zde (g : zae) (side : Int) (p : zah) (x : zcq) : List zah :=
 if x.1 = 6 then (List.range g.kinds.length).flatMap fun (k : Nat) =>
  let q := { p with at_ := p.at_.set x.2.1.toNat (zaF k (1 - side)) }
  let r := if (nth g.kinds k).keep = true then q.withHand side ((q.hand side).set k (nth (q.hand side) k - 1)) else q
  if nth p.at_ x.2.1.toNat = 0 ∧ 0 ≤ nth (r.hand side) k then [r] else []
 else if x.1 = 7 then if nth p.at_ x.2.2.toNat ≠ 0 ∧ nth p.at_ x.2.1.toNat = 0 then [{ p with at_ := (p.at_.set x.2.1.toNat (nth p.at_ x.2.2.toNat)).set x.2.2.toNat 0 }] else []
 else if x.1 = 10 then if zqj p.rights x.2.1.toNat = true then [p, { p with rights := orN .i64 p.rights (2 ^ x.2.1.toNat) }] else []
 else [p]
def zvG : Bool := (List.range 16).all fun (a : Nat) => (List.range 4).all fun (n : Nat) => zqj (zbZ .i64 (a : Int) (2 ^ n)) n && (decide ((a : Int) = zbZ .i64 (a : Int) (2 ^ n)) || decide ((a : Int) = orN .i64 (zbZ .i64 (a : Int) (2 ^ n)) (2 ^ n)))
theorem zov : zvG = true := by kernel_rfl
theorem zvH {a : Int} (h0 : 0 ≤ a) (h1 : a < 16) {n : Nat} (hn : n < 4) : zqj (zbZ .i64 a (2 ^ n)) n = true ∧ (a = zbZ .i64 a (2 ^ n) ∨ a = orN .i64 (zbZ .i64 a (2 ^ n)) (2 ^ n)) := by
 have key := zov
 unfold zvG at key
 have k1 := List.all_eq_true.1 key a.toNat (List.mem_range.2 (by omega))
 have k2 := List.all_eq_true.1 k1 n (List.mem_range.2 hn)
 rw [Int.toNat_of_nonneg h0] at k2
 simp only [Bool.and_eq_true, Bool.or_eq_true, decide_eq_true_eq] at k2
 exact k2
theorem zyi {l : List Int} {i : Nat} {v : Int} : (l.set i v).set i (nth l i) = l := by
 by_cases h : i < l.length
 ·rw [List.set_set, zaC _ _ h]
  exact List.set_getElem_self h
 ·rw [List.set_set, List.set_eq_of_length_le (by omega)]
theorem zrK {l : List Int} {i : Nat} : l.set i (nth l i) = l := by
 by_cases h : i < l.length
 ·rw [zaC _ _ h]
  exact List.set_getElem_self h
 ·rw [List.set_eq_of_length_le (by omega)]
theorem zAR {p q : zah} (h1 : p.at_ = q.at_) (h2 : p.h0 = q.h0) (h3 : p.h1 = q.h1) (h4 : p.rights = q.rights) (h5 : p.side = q.side) : p = q := by
 obtain ⟨a, b, c, d, e⟩ := p
 obtain ⟨a', b', c', d', e'⟩ := q
 simp only at h1 h2 h3 h4 h5
 subst h1; subst h2; subst h3; subst h4; subst h5
 rfl
theorem zg1 (p : zah) (side : Int) (l : List Int) : (p.withHand side l).hand side = l := by
 unfold zah.withHand zah.hand
 split <;> rfl
theorem zle {c : Int} {K : Nat} (h0 : 0 ≤ c) (h1 : c ≤ 2 * K) (hK : K ≤ 6) (hc : c ≠ 0) : zaF (zao c).1 (zao c).2 = c := by
 rcases zaR h0 h1 hK with ⟨h, _⟩ | ⟨_, a, b, d, e⟩
 ·exact absurd h hc
 ·unfold zaF
  rw [if_pos ⟨⟨by omega, by omega⟩, by omega, by omega⟩]
  omega
theorem zyq {g : zae} (hg : GOk g) {side : Int} (hs : side = 0 ∨ side = 1) {t : TkD} (ht : POk g t.p) {x : zcq} (hx : zdO g.cells g.kinds.length g.rights x) (h : (doA g side t x).2 = true) : t.p ∈ zde g side (doA g side t x).1.p x := by
 obtain ⟨op, a, b⟩ := x
 unfold zdO at hx
 simp only at hx
 rcases (show op = 3 ∨ op = 4 ∨ op = 5 ∨ op = 6 ∨ op = 7 ∨ op = 8 ∨ op = 9 ∨ op = 10 by omega) with rfl | rfl | rfl | rfl | rfl | rfl | rfl | rfl
 ·exact List.mem_singleton.2 rfl
 ·exact List.mem_singleton.2 rfl
 ·exact List.mem_singleton.2 rfl
 ·have hat := ht.at (i := a.toNat) (by omega)
  have hman := zaR hat.1 hat.2 hg.k6
  have hdo : doA g side t (6, a, b) = zkk g side t a := rfl
  rw [hdo] at h ⊢
  unfold zkk at h ⊢
  simp only at h ⊢
  split
  ·rename_i hm
   rw [if_pos hm] at h
   simp at h
  ·rename_i hm
   rw [if_neg hm] at h
   rcases hman with ⟨_, e⟩ | ⟨hne, e1, e2, e3, e4⟩
   ·rw [e] at hm
    simp at hm
    omega
   ·have hms : (zao (nth t.p.at_ a.toNat)).2 = 1 - side := by omega
    have hcode : zaF (zao (nth t.p.at_ a.toNat)).1 (1 - side) = nth t.p.at_ a.toNat := by rw [← hms]; exact zle hat.1 hat.2 hg.k6 hne
    have hal := ht.al
    obtain ⟨k, hk⟩ : ∃ k : Nat, (zao (nth t.p.at_ a.toNat)).1 = k := ⟨(zao (nth t.p.at_ a.toNat)).1.toNat, by omega⟩
    rw [hk] at hcode e2 h ⊢
    rw [Int.toNat_natCast] at h ⊢
    have hkl : k < g.kinds.length := by omega
    have hun : ∀ p : zah, zde g side p (6, a, b) = (List.range g.kinds.length).flatMap fun (k : Nat) =>
      let q := { p with at_ := p.at_.set a.toNat (zaF k (1 - side)) }
      let r := if (nth g.kinds k).keep = true then q.withHand side ((q.hand side).set k (nth (q.hand side) k - 1)) else q
      if nth p.at_ a.toNat = 0 ∧ 0 ≤ nth (r.hand side) k then [r] else [] := fun p => rfl
    rw [hun, List.mem_flatMap]
    refine ⟨k, List.mem_range.2 hkl, ?_⟩
    have hh := ht.hand side
    have hkh : k < (t.p.hand side).length := by rw [hh.len]; exact hkl
    have hv := hh.v k hkh
    have hz : nth (t.p.at_.set a.toNat 0) a.toNat = 0 := by
     rw [zcs]
     split
     ·rfl
     ·rename_i hn
      exact absurd ⟨rfl, by omega⟩ hn
    by_cases hkeep : (nth g.kinds k).keep = true
    ·rw [if_pos hkeep]
     simp only [if_pos hkeep]
     have e5 : ((clr t.p a).withHand side ((t.p.hand side).set k (nth (t.p.hand side) k + 1))).at_ = t.p.at_.set a.toNat 0 := zfH _ _ _
     rw [e5]
     have e6 : ∀ (P : zah) (L A : List Int), ({ (P.withHand side L) with at_ := A } : zah) = ({ P with at_ := A } : zah).withHand side L := fun P L A => by unfold zah.withHand; split <;> rfl
     have e7 : nth ((t.p.hand side).set k (nth (t.p.hand side) k + 1)) k = nth (t.p.hand side) k + 1 := by rw [zcs, if_pos ⟨rfl, hkh⟩]
     have e8 : ∀ (P : zah) (L M : List Int), (P.withHand side L).withHand side M = P.withHand side M := fun P L M => by unfold zah.withHand; split <;> rfl
     simp only [e6, zg1, e8, e7, Int.add_sub_cancel, List.set_set, hcode, zrK]
     rw [if_pos ⟨hz, hv.1⟩, List.mem_singleton]
     have e10 : ({ (clr t.p a) with at_ := t.p.at_ } : zah) = t.p := rfl
     rw [e10]
     unfold zah.withHand zah.hand
     split <;> rfl
    ·rw [if_neg hkeep]
     simp only [if_neg hkeep]
     have e5 : (clr t.p a).at_ = t.p.at_.set a.toNat 0 := rfl
     rw [e5, hcode, List.set_set, zrK]
     have e10 : ({ (clr t.p a) with at_ := t.p.at_ } : zah) = t.p := rfl
     rw [e10, if_pos ⟨hz, hv.1⟩]
     exact List.mem_singleton.2 rfl
 ·have hdo : doA g side t (7, a, b) = zj2 t a b := rfl
  rw [hdo] at h ⊢
  unfold zj2 at h ⊢
  split
  ·rename_i hm
   rw [if_pos hm] at h
   simp at h
  ·rename_i hm
   have hal := ht.al
   have hm1 : nth t.p.at_ a.toNat ≠ 0 := fun e => hm (.inl e)
   have hm2 : nth t.p.at_ b.toNat = 0 := Classical.byContradiction fun e => hm (.inr e)
   have hab : a.toNat ≠ b.toNat := fun e => hm1 (by rw [e]; exact hm2)
   have hbl : b.toNat < t.p.at_.length := by omega
   have hal2 : a.toNat < t.p.at_.length := by omega
   have hun : ∀ p : zah, zde g side p (7, a, b) = if nth p.at_ b.toNat ≠ 0 ∧ nth p.at_ a.toNat = 0 then [{ p with at_ := (p.at_.set a.toNat (nth p.at_ b.toNat)).set b.toNat 0 }] else [] := fun p => rfl
   rw [hun]
   simp only
   have e1 : nth ((t.p.at_.set b.toNat (nth t.p.at_ a.toNat)).set a.toNat 0) b.toNat = nth t.p.at_ a.toNat := by
    rw [zcs, if_neg (fun h => hab h.1), zcs, if_pos ⟨rfl, hbl⟩]
   have e2 : nth ((t.p.at_.set b.toNat (nth t.p.at_ a.toNat)).set a.toNat 0) a.toNat = 0 := by
    rw [zcs, if_pos ⟨rfl, by rw [List.length_set]; exact hal2⟩]
   rw [e1, e2, if_pos ⟨hm1, rfl⟩, List.mem_singleton]
   refine zAR ?_ rfl rfl rfl rfl
   refine List.ext_getElem (by simp) fun j h1 h2 => ?_
   simp only [List.getElem_set]
   by_cases ej : b.toNat = j
   ·subst ej
    rw [if_pos rfl, ← zaC _ _ h1]; exact hm2
   ·rw [if_neg ej]
    by_cases ej2 : a.toNat = j
    ·subst ej2
     rw [if_pos rfl, zaC _ _ h1]
    ·rw [if_neg ej2, if_neg ej2, if_neg ej]
 ·exact List.mem_singleton.2 rfl
 ·exact List.mem_singleton.2 rfl
 ·have h0 := ht.r0
  have h1 := zoO hg ht
  have r4 := hg.r4
  obtain ⟨k1, k2⟩ := zvH h0 h1 (n := a.toNat) (by omega)
  have hun : ∀ p : zah, zde g side p (10, a, b) = if zqj p.rights a.toNat = true then [p, { p with rights := orN .i64 p.rights (2 ^ a.toNat) }] else [] := fun p => rfl
  have hdo : (doA g side t (10, a, b)).1.p = { t.p with rights := zbZ .i64 t.p.rights (2 ^ a.toNat) } := rfl
  rw [hdo, hun]
  simp only
  rw [if_pos k1]
  rcases k2 with k2 | k2
  ·exact List.mem_cons.2 (.inl (zAR rfl rfl rfl k2 rfl))
  ·exact List.mem_cons.2 (.inr (List.mem_singleton.2 (zAR rfl rfl rfl k2 rfl)))
def zcx (g : zae) (side : Int) : zah → List zcq → List zah
 | p, [] => [p]
 | p, x :: l => (zde g side p x).flatMap fun q => zcx g side q l
theorem zfF (g : zae) (side : Int) : ∀ (l m : List zcq) (p : zah), zcx g side p (l ++ m) = (zcx g side p l).flatMap fun q => zcx g side q m
 | [], m, p => by simp [zcx]
 | x :: l, m, p => by
  rw [List.cons_append, zcx, zcx, List.flatMap_assoc]
  congr 1
  funext q
  exact zfF g side l m q
theorem zoY (g : zae) (side : Int) (p : zah) (x : zcq) : zcx g side p [x] = zde g side p x := by simp [zcx]
theorem zoZ {g : zae} (hg : GOk g) {side : Int} (hs : side = 0 ∨ side = 1) : ∀ {l : List zcq} {t u : TkD}, POk g t.p → (∀ a ∈ l, zdO g.cells g.kinds.length g.rights a) → zeA g side t l = some u → t.p ∈ zcx g side u.p l.reverse
 | [], t, u, ht, _, h => by
  simp only [zeA, Option.some.injEq] at h
  subst h
  exact List.mem_singleton.2 rfl
 | x :: l, t, u, ht, hl, h => by
  simp only [zeA] at h
  split at h
  ·rename_i hd
   have h1 := zyG hg hs ht (hl x (by simp)) hd
   have ih := zoZ hg hs h1 (fun a ha => hl a (by simp [ha])) h
   rw [List.reverse_cons, zfF, List.mem_flatMap]
   exact ⟨_, ih, by rw [zoY]; exact zyq hg hs ht (hl x (by simp)) hd⟩
  ·cases h
theorem zxC (g : zae) (side : Int) (t : TkD) (x : zcq) : (doA g side t x).1.p.side = t.p.side := by
 have hw : ∀ (P : zah) (L : List Int), (P.withHand side L).side = P.side := fun P L => by unfold zah.withHand; split <;> rfl
 unfold doA
 repeat' split
 all_goals first | rfl | skip
 ·unfold zkk
  simp only
  repeat' split
  ·rfl
  ·rw [hw]; rfl
  ·rfl
 ·unfold zj2
  split <;> rfl
theorem znV (g : zae) (side : Int) : ∀ {l : List zcq} {t u : TkD}, zeA g side t l = some u → u.p.side = t.p.side
 | [], t, u, h => by simp only [zeA, Option.some.injEq] at h; subst h; rfl
 | x :: l, t, u, h => by
  simp only [zeA] at h
  split at h
  ·rw [znV g side h, zxC]
  ·cases h
theorem zxB {g : zae} {side : Int} {t : TkD} {x : zcq} (hx : zdO g.cells g.kinds.length g.rights x) (h : 0 ≤ t.kind ∧ t.kind < g.kinds.length) : 0 ≤ (doA g side t x).1.kind ∧ (doA g side t x).1.kind < g.kinds.length := by
 obtain ⟨op, a, b⟩ := x
 unfold zdO at hx
 simp only at hx
 rcases (show op = 3 ∨ op = 4 ∨ op = 5 ∨ op = 6 ∨ op = 7 ∨ op = 8 ∨ op = 9 ∨ op = 10 by omega) with rfl | rfl | rfl | rfl | rfl | rfl | rfl | rfl
 ·exact h
 ·exact h
 ·exact h
 ·show 0 ≤ (zkk g side t a).1.kind ∧ (zkk g side t a).1.kind < g.kinds.length
  unfold zkk
  simp only
  repeat' split
  all_goals exact h
 ·show 0 ≤ (zj2 t a b).1.kind ∧ (zj2 t a b).1.kind < g.kinds.length
  unfold zj2
  split <;> exact h
 ·show 0 ≤ a ∧ a < g.kinds.length
  omega
 ·exact h
 ·exact h
theorem znU {g : zae} {side : Int} : ∀ {l : List zcq} {t u : TkD}, (∀ a ∈ l, zdO g.cells g.kinds.length g.rights a) → zeA g side t l = some u → 0 ≤ t.kind ∧ t.kind < g.kinds.length → 0 ≤ u.kind ∧ u.kind < g.kinds.length
 | [], t, u, _, h, hk => by simp only [zeA, Option.some.injEq] at h; subst h; exact hk
 | x :: l, t, u, hl, h, hk => by
  simp only [zeA] at h
  split at h
  ·exact znU (fun a ha => hl a (by simp [ha])) h (zxB (hl x (by simp)) hk)
  ·cases h
theorem zvS {g : zae} (hg : GOk g) {p : zah} (hp : POk g p) {o : zcl} : o ∈ zdo g p ↔ ∃ c : Nat, (c : Int) < g.cells ∧ nth p.at_ c ≠ 0 ∧ (zao (nth p.at_ c)).2 = p.side ∧ o ∈ runO g p c := by
 have hal := hp.al
 rw [zoz hp]
 constructor
 ·rintro ⟨c, i, hc, ho⟩
  have c1 := hc.c1
  have hman := hc.man
  have hside := hc.side
  have hi1 := hc.i1
  simp only [Int.toNat_natCast] at hman hside hi1
  refine ⟨c, c1, fun h0 => ?_, hside, ?_⟩
  ·rw [h0] at hman; exact absurd hman (by decide)
  rw [zoQ hg hp (by omega) c1]
  unfold zrA
  simp only [Int.toNat_natCast]
  rw [if_neg (by omega), za9, hside]
  exact List.mem_flatMap.2 ⟨i, List.mem_range.2 (by omega), ho⟩
 ·rintro ⟨c, c1, h0, hside, ho⟩
  rw [zoQ hg hp (by omega) c1] at ho
  unfold zrA at ho
  simp only [Int.toNat_natCast] at ho
  split at ho
  ·simp at ho
  rename_i hm
  rw [za9, hside] at ho
  obtain ⟨i, hi, ho⟩ := List.mem_flatMap.1 ho
  exact ⟨c, i, ⟨by omega, c1, by simp only [Int.toNat_natCast]; omega, by simp only [Int.toNat_natCast]; exact hside, by omega, by simp only [Int.toNat_natCast]; exact_mod_cast List.mem_range.1 hi⟩, ho⟩
def zfe (g : zae) (side : Int) (p : zah) (k c : Nat) (w : zaV) : List zah :=
 if (zao (nth p.at_ w.to.toNat)).2 = side then
  ((zcx g side { p with at_ := p.at_.set w.to.toNat 0, side := side } w.acts.reverse).filter fun q => decide (nth q.at_ c = 0)).map fun q => { q with at_ := q.at_.set c (zaF k side) }
 else []
def zeG (g : zae) (side : Int) (p : zah) : List zah :=
 (List.range g.kinds.length).flatMap fun (k : Nat) => (List.range g.cells.toNat).flatMap fun (c : Nat) => (zbw g.board side (nth g.kinds k).progs c).flatMap (zfe g side p k c)
def ziw (side : Int) (p : zah) (c : Nat) : zah :=
 let k := (zao (nth p.at_ c)).1.toNat
 let q := { p with at_ := p.at_.set c 0, side := side }
 q.withHand side ((q.hand side).set k (nth (q.hand side) k + 1))
def zgo (g : zae) (side : Int) (p : zah) : List zah :=
 ((List.range p.at_.length).filter fun c => decide ((zao (nth p.at_ c)).2 = side) && (nth g.kinds (zao (nth p.at_ c)).1.toNat).keep).map (ziw side p)
def zc0 (g : zae) (p : zah) : List zah := zeG g (1 - p.side) p ++ zgo g (1 - p.side) p
def zxp (side : Int) (p : zah) : List zah := ((List.range p.at_.length).filter fun c => decide ((zao (nth p.at_ c)).2 = side)).map (ziw side p)
def zc1 (g : zae) (p : zah) : List zah := zeG g (1 - p.side) p ++ zxp (1 - p.side) p
theorem zxq {g : zae} (hg : GOk g) {q : zah} (hq : POk g q) {o : zcl} (ho : o ∈ zdo g q) : q ∈ zeG g q.side o.pos := by
 obtain ⟨c, c1, h0, hside, ho⟩ := (zvS hg hq).1 ho
 have hal := hq.al
 have hat := hq.at (i := c) (by omega)
 unfold runO at ho
 simp only [Int.toNat_natCast] at ho
 rw [if_neg h0, za9] at ho
 unfold zx8 at ho
 obtain ⟨w, hw, hwo⟩ := List.mem_filterMap.1 ho
 simp only [Int.toNat_natCast] at hwo
 rw [hside] at hwo
 unfold zqy at hw
 simp only [Int.toNat_natCast] at hw
 rw [hside] at hw
 rcases zaR hat.1 hat.2 hg.k6 with ⟨hz, _⟩ | ⟨_, e1, e2, e3, _⟩
 ·exact absurd hz h0
 have hcode := zle hat.1 hat.2 hg.k6 h0
 rw [hside] at hcode
 obtain ⟨k, hk⟩ : ∃ k : Nat, (zao (nth q.at_ c)).1 = k := ⟨(zao (nth q.at_ c)).1.toNat, by omega⟩
 rw [hk] at e2 hcode hw
 rw [Int.toNat_natCast] at hw
 have hkl : k < g.kinds.length := by omega
 have hpo := zg5 hg (side := q.side) (zaj hkl) (cell := (c : Int)) ⟨by omega, c1⟩ w hw
 unfold ztW stW at hwo
 cases hd : zeA g q.side (zdN q c) w.acts with
 | none => rw [hd] at hwo; simp at hwo
 | some u =>
  rw [hd] at hwo
  simp only [Option.map_some, Option.bind_some] at hwo
  have hst : POk g (zdN q c).p := hq.clr c
  have hu := zu6 hg hq.s hst hpo.acts hd
  have hus := znV g q.side hd
  have hun := zoZ hg hq.s hst hpo.acts hd
  have hts : (zdN q c).p.side = q.side := rfl
  rw [hts] at hus
  have hual := hu.al
  have hto := hpo.to
  unfold zgd at hwo
  split at hwo
  ·rename_i hz
   simp only [stT] at hz hwo
   simp only [Option.some.injEq] at hwo
   subst hwo
   simp only
   unfold zeG
   refine List.mem_flatMap.2 ⟨k, List.mem_range.2 hkl, List.mem_flatMap.2 ⟨c, List.mem_range.2 (by omega), List.mem_flatMap.2 ⟨w, hw, ?_⟩⟩⟩
   unfold zfe
   have hn : nth (u.p.at_.set w.to.toNat (zaF u.kind q.side)) w.to.toNat = zaF u.kind q.side := by rw [zcs, if_pos ⟨rfl, by omega⟩]
   have hkind : 0 ≤ u.kind ∧ u.kind < g.kinds.length := znU hpo.acts hd (by show 0 ≤ (zao (nth q.at_ (c : Int).toNat)).1 ∧ (zao (nth q.at_ (c : Int).toNat)).1 < g.kinds.length; rw [Int.toNat_natCast, hk]; omega)
   have hk6 := hg.k6
   have hms : (zao (zaF u.kind q.side)).2 = q.side := by
    rcases hq.s with h | h <;> rw [h] <;> unfold zaF <;> rw [if_pos ⟨⟨by omega, by omega⟩, by omega, by omega⟩] <;> unfold zao <;> rw [if_pos (by omega)] <;> simp only <;> rw [Int.tmod_eq_emod_of_nonneg (by omega)] <;> omega
   rw [hn, if_pos hms]
   have hlift : ({ u.p with at_ := (u.p.at_.set w.to.toNat (zaF u.kind q.side)).set w.to.toNat 0, side := q.side } : zah) = u.p := by
    refine zAR ?_ rfl rfl rfl hus.symm
    simp only
    rw [List.set_set]
    conv => lhs; rw [← hz]
    rw [zaC _ _ (by omega)]
    exact List.set_getElem_self _
   have hl2 : ({ ({ u.p with at_ := u.p.at_.set w.to.toNat (zaF u.kind q.side), side := 1 - q.side } : zah) with at_ := (u.p.at_.set w.to.toNat (zaF u.kind q.side)).set w.to.toNat 0, side := q.side } : zah) = u.p := hlift
   refine List.mem_map.2 ⟨(zdN q c).p, List.mem_filter.2 ⟨?_, ?_⟩, ?_⟩
   ·have := hun
    rw [← hlift] at this
    exact this
   ·rw [decide_eq_true_eq]
    show nth (q.at_.set (c : Int).toNat 0) c = 0
    rw [Int.toNat_natCast, zcs, if_pos ⟨rfl, by omega⟩]
   ·refine zAR ?_ rfl rfl rfl rfl
    show (q.at_.set (c : Int).toNat 0).set c (zaF k q.side) = q.at_
    rw [Int.toNat_natCast, hcode, zyi]
  ·cases hwo
theorem zuT {g : zae} (hg : GOk g) {q : zah} (hq : POk g q) {p : zah} (hp : p ∈ zcM g q) : q ∈ zgo g q.side p := by
 unfold zcM at hp
 rw [za9] at hp
 obtain ⟨k, hk, hp⟩ := List.mem_flatMap.1 hp
 obtain ⟨c, hc, hp⟩ := List.mem_filterMap.1 hp
 have hk := List.mem_range.1 hk
 have hc := List.mem_range.1 hc
 have hh := hq.hand q.side
 have hkh : k < (q.hand q.side).length := by rw [hh.len]; exact hk
 have hv := hh.v k hkh
 have hk6 := hg.k6
 unfold zf3 at hp
 split at hp
 ·cases hp
 rename_i hn
 have hn1 : nth (q.hand q.side) k ≠ 0 := fun h => hn (.inl h)
 have hn2 : nth q.at_ c = 0 := Classical.byContradiction fun h => hn (.inr h)
 simp only [Option.some.injEq] at hp
 have hkeep := hv.2.2 (by omega)
 have hpa : p.at_ = q.at_.set c (zaF k q.side) := by rw [← hp]; exact zfH _ _ _
 have hpn : nth p.at_ c = zaF k q.side := by rw [hpa, zcs, if_pos ⟨rfl, hc⟩]
 have hm : zao (zaF k q.side) = ((k : Int), q.side) := by
  rcases hq.s with h | h <;> rw [h] <;> unfold zaF <;> rw [if_pos ⟨⟨by omega, by omega⟩, by omega, by omega⟩] <;> unfold zao <;> rw [if_pos (by omega)] <;> refine Prod.ext ?_ ?_ <;> simp only
  ·rw [Int.tdiv_eq_ediv_of_nonneg (by omega)]; omega
  ·rw [Int.tmod_eq_emod_of_nonneg (by omega)]; omega
  ·rw [Int.tdiv_eq_ediv_of_nonneg (by omega)]; omega
  ·rw [Int.tmod_eq_emod_of_nonneg (by omega)]; omega
 unfold zgo
 refine List.mem_map.2 ⟨c, List.mem_filter.2 ⟨List.mem_range.2 (by rw [hpa, List.length_set]; exact hc), ?_⟩, ?_⟩
 ·rw [hpn, hm]
  simp [hkeep]
 ·unfold ziw
  rw [hpn, hm]
  simp only [Int.toNat_natCast]
  rw [← hp]
  have e1 : ∀ (P : zah) (L : List Int) (s : Int), ({ (P.withHand q.side L) with side := s } : zah).hand q.side = L := fun P L s => by unfold zah.withHand zah.hand; split <;> rfl
  have e2 : ∀ (P : zah) (L : List Int), (P.withHand q.side L).at_ = P.at_ := fun P L => zfH _ _ _
  have e3 : ∀ (P : zah) (L A M : List Int) (s s2 : Int), ({ ({ (P.withHand q.side L) with side := s } : zah) with at_ := A, side := s2 } : zah).withHand q.side M = ({ P with at_ := A, side := s2 } : zah).withHand q.side M := fun P L A M s s2 => by unfold zah.withHand; split <;> rfl
  have e4 : ∀ (P : zah) (L A : List Int) (s s2 : Int), ({ ({ (P.withHand q.side L) with side := s } : zah) with at_ := A, side := s2 } : zah).hand q.side = L := fun P L A s s2 => by unfold zah.withHand zah.hand; split <;> rfl
  rw [e4, e3]
  have e5 : nth ((q.hand q.side).set k (nth (q.hand q.side) k - 1)) k = nth (q.hand q.side) k - 1 := by rw [zcs, if_pos ⟨rfl, hkh⟩]
  have e6 : ((q.hand q.side).set k (nth (q.hand q.side) k - 1)).set k (nth (q.hand q.side) k - 1 + 1) = q.hand q.side := by
   rw [List.set_set, Int.sub_add_cancel, zaC _ _ hkh]
   exact List.set_getElem_self hkh
  rw [e5, e6]
  simp only [e2]
  have e7 : (q.at_.set c (zaF k q.side)).set c 0 = q.at_ := by
   rw [List.set_set]
   conv => lhs; rw [← hn2]
   rw [zaC _ _ hc]
   exact List.set_getElem_self _
  rw [e7]
  unfold zah.withHand zah.hand
  split <;> rfl
theorem znN {g : zae} (hg : GOk g) {q p : zah} (hq : POk g q) (hp : p ∈ zaK g q) : q ∈ zeG g (1 - p.side) p ∨ q ∈ zgo g (1 - p.side) p := by
 have hps : 1 - p.side = q.side := by
  have := (zdn hg hq p hp).2
  omega
 rw [hps]
 rcases (ztg.1 hp).2 with ⟨o, ho, _, rfl⟩ | ⟨_, hd⟩
 ·exact .inl (zxq hg hq ho)
 ·exact .inr (zuT hg hq hd)
def zaM (g : zae) (p : zah) : List zah := (zbh zbx (zc0 g p)).filter fun q => zer g q && decide (p ∈ zaK g q)
theorem zdb {g : zae} (hg : GOk g) {p q : zah} : q ∈ zaM g p ↔ POk g q ∧ p ∈ zaK g q := by
 unfold zaM
 rw [List.mem_filter, za9, Bool.and_eq_true, decide_eq_true_eq, zfy]
 constructor
 ·rintro ⟨_, h⟩; exact h
 ·rintro ⟨h1, h2⟩
  refine ⟨?_, h1, h2⟩
  unfold zc0
  exact List.mem_append.2 (znN hg h1 h2)
theorem zc6 (g : zae) (p : zah) : Inc (zaM g p) := List.Pairwise.filter _ (zhf za7 _)
def zbQ (g : zae) (p : zah) : List zah × Int := if 4000 < (zaM g p).length then ([], 2) else (zaM g p, 0)
def zb0 (g : zae) : Nat → List zah → List zah × Int
 | 0, l => (l, 0)
 | n + 1, l => if l.all (fun q => decide ((zaM g q).length ≤ 4000)) = true then
   if 4000 < (zbh zbx (l.flatMap (zaM g))).length then ([], 2) else zb0 g n (zbh zbx (l.flatMap (zaM g)))
  else ([], 2)
def zcL (g : zae) (p : zah) (n : Int) : List zah × Int := if n < 0 ∨ 6 < n then ([], 1) else zb0 g n.toNat [p]
theorem zei {g : zae} (hg : GOk g) {p q : zah} (h : q ∈ zaM g p) : POk g q := ((zdb hg).1 h).1
theorem zpW (g : zae) (p : zah) : zcL g p 0 = ([p], 0) := rfl
theorem zlW {l : List zah} (h : Inc l) : zbh zbx l = l := zd3 za7 h fun _ => Iff.rfl
structure TinyG (g : zae) : Prop where
 ok : GOk g
 c4 : g.cells ≤ 4
 k1 : g.kinds.length = 1
 keep : ∀ k ∈ g.kinds, k.keep = false
 r1 : g.rights ≤ 1
def zjh : Nat → List (List Int)
 | 0 => [[]]
 | c + 1 => (zjh c).flatMap fun l => [l ++ [0], l ++ [1], l ++ [2]]
theorem zgv : ∀ {c : Nat} {l : List Int}, l ∈ zjh c ↔ l.length = c ∧ ∀ x ∈ l, 0 ≤ x ∧ x ≤ 2
 | 0, l => by
  simp only [zjh, List.mem_singleton]
  constructor
  ·rintro rfl; simp
  ·rintro ⟨h, _⟩; exact List.length_eq_zero_iff.1 h
 | c + 1, l => by
  simp only [zjh, List.mem_flatMap]
  constructor
  ·rintro ⟨m, hm, h⟩
   obtain ⟨h1, h2⟩ := zgv.1 hm
   simp only [List.mem_cons, List.not_mem_nil, or_false] at h
   rcases h with rfl | rfl | rfl <;> refine ⟨by simp [h1], fun x hx => ?_⟩ <;> rcases List.mem_append.1 hx with hx | hx <;> first | exact h2 x hx | (simp only [List.mem_singleton] at hx; omega)
  ·rintro ⟨h1, h2⟩
   have hne : l ≠ [] := by intro h; rw [h] at h1; simp at h1
   have e := (List.dropLast_concat_getLast hne).symm
   refine ⟨l.dropLast, zgv.2 ⟨by simp [h1], fun x hx => h2 x (List.dropLast_subset l hx)⟩, ?_⟩
   have hl := h2 _ (List.getLast_mem hne)
   simp only [List.mem_cons, List.not_mem_nil, or_false]
   rcases (show l.getLast hne = 0 ∨ l.getLast hne = 1 ∨ l.getLast hne = 2 by omega) with h | h | h <;> rw [h] at e
   ·exact .inl e
   ·exact .inr (.inl e)
   ·exact .inr (.inr e)
def zyS (g : zae) (l : List Int) : List zah := (List.range (2 ^ g.rights.toNat)).flatMap fun (r : Nat) => [(⟨l, [0], [0], (r : Int), 0⟩ : zah), ⟨l, [0], [0], (r : Int), 1⟩]
def zvg (g : zae) : List zah := (zjh g.cells.toNat).flatMap (zyS g)
theorem ztf {g : zae} (h : TinyG g) {q : zah} : q ∈ zvg g ↔ POk g q := by
 have hg := h.ok
 have c1 := hg.c1
 have hk := h.k1
 have r0 := hg.r0
 have r1 := h.r1
 have hpw : ((2 ^ g.rights.toNat : Nat) : Int) = (2 : Int) ^ g.rights.toNat := by
  rcases (show g.rights.toNat = 0 ∨ g.rights.toNat = 1 by omega) with e | e <;> rw [e] <;> rfl
 have hz : zef g [0] := ⟨by rw [hk]; rfl, fun i hi => by
  obtain rfl : i = 0 := by simpa using hi
  exact ⟨by decide, by decide, by intro h0; exact absurd h0 (by decide)⟩⟩
 have hz2 : ∀ l, zef g l → l = [0] := fun l hl => by
  have h1 := hl.len
  rw [hk] at h1
  obtain ⟨x, rfl⟩ := List.length_eq_one_iff.1 h1
  have h2 := hl.v 0 (by simp)
  have h3 := h.keep _ (zaj (show 0 < g.kinds.length by omega))
  have h4 : nth [x] 0 = x := rfl
  rw [h4] at h2
  by_cases hx : 0 < x
  ·have := h2.2.2 hx
   rw [h3] at this
   cases this
  ·have : x = 0 := by omega
   rw [this]
 unfold zvg zyS
 simp only [List.mem_flatMap, zgv, List.mem_range, List.mem_cons, List.not_mem_nil, or_false]
 constructor
 ·rintro ⟨l, ⟨h1, h2⟩, r, hr, h3⟩
  have hr2 : (r : Int) < 2 ^ g.rights.toNat := by rw [← hpw]; exact_mod_cast hr
  rcases h3 with rfl | rfl
  ·exact ⟨by show ((l.length : Nat) : Int) = g.cells; omega, fun c hc => by have := h2 c hc; rw [hk]; omega, hz, hz, by simp, hr2, .inl rfl⟩
  ·exact ⟨by show ((l.length : Nat) : Int) = g.cells; omega, fun c hc => by have := h2 c hc; rw [hk]; omega, hz, hz, by simp, hr2, .inr rfl⟩
 ·intro hq
  have hal := hq.al
  have q0 := hq.r0
  have q1 := hq.r1
  refine ⟨q.at_, ⟨by omega, fun c hc => by have := hq.av c hc; rw [hk] at this; omega⟩, q.rights.toNat, by omega, ?_⟩
  have e1 := hz2 _ hq.h0
  have e2 := hz2 _ hq.h1
  obtain ⟨a, b, c, r, s⟩ := q
  simp only at e1 e2 q0
  subst e1
  subst e2
  rw [Int.toNat_of_nonneg q0]
  rcases hq.s with e | e <;> simp only at e <;> subst e
  ·exact .inl rfl
  ·exact .inr rfl
def orOne : Bool := (List.range 5).all fun (r : Nat) => (List.range (2 ^ r)).all fun (a : Nat) => (List.range r).all fun (n : Nat) => decide (0 ≤ orN .i64 (a : Int) (2 ^ n) ∧ orN .i64 (a : Int) (2 ^ n) < 2 ^ r)
theorem ztk : orOne = true := by kernel_rfl
theorem or_in {r : Nat} (hr : r ≤ 4) {a : Int} (h0 : 0 ≤ a) (h1 : a < 2 ^ r) {n : Nat} (hn : n < r) : 0 ≤ orN .i64 a (2 ^ n) ∧ orN .i64 a (2 ^ n) < 2 ^ r := by
 have key := ztk
 unfold orOne at key
 have hp : (2 : Int) ^ r = ((2 ^ r : Nat) : Int) := by
  rcases (show r = 0 ∨ r = 1 ∨ r = 2 ∨ r = 3 ∨ r = 4 by omega) with h | h | h | h | h <;> subst h <;> decide
 have k1 := List.all_eq_true.1 key r (List.mem_range.2 (by omega))
 have k2 := List.all_eq_true.1 k1 a.toNat (List.mem_range.2 (by omega))
 have k3 := of_decide_eq_true (List.all_eq_true.1 k2 n (List.mem_range.2 hn))
 rwa [Int.toNat_of_nonneg h0] at k3
theorem zh3 {g : zae} (hg : GOk g) {k : Nat} (hk : k < g.kinds.length) {s : Int} (hs : s = 0 ∨ s = 1) : 1 ≤ zaF k s ∧ zaF k s ≤ 2 * g.kinds.length := by
 have := hg.k6
 unfold zaF
 rw [if_pos ⟨⟨by omega, by omega⟩, by omega, by omega⟩]
 omega
def tkP (g : zae) (side : Int) (p : zah) (a k : Nat) : zah :=
 if (nth g.kinds k).keep = true then ({ p with at_ := p.at_.set a (zaF k (1 - side)) } : zah).withHand side ((p.hand side).set k (nth (p.hand side) k - 1)) else { p with at_ := p.at_.set a (zaF k (1 - side)) }
def tkL (g : zae) (side : Int) (p : zah) (a k : Nat) : List zah := if nth p.at_ a = 0 ∧ 0 ≤ nth ((tkP g side p a k).hand side) k then [tkP g side p a k] else []
theorem zfX {g : zae} {side : Int} {p : zah} {x : zcq} (h : x.1 = 6) : zde g side p x = (List.range g.kinds.length).flatMap (tkL g side p x.2.1.toNat) := by
 unfold zde
 rw [if_pos h]
 rfl
theorem zrL {g : zae} (hg : GOk g) {side : Int} (hs : side = 0 ∨ side = 1) {p : zah} (hp : POk g p) {x : zcq} (hx : zdO g.cells g.kinds.length g.rights x) : ∀ q ∈ zde g side p x, POk g q ∧ q.side = p.side := by
 obtain ⟨op, a, b⟩ := x
 unfold zdO at hx
 simp only at hx
 have hal := hp.al
 have hws : ∀ (P : zah) (s : Int) (l : List Int), (P.withHand s l).side = P.side := fun P s l => by unfold zah.withHand; split <;> rfl
 intro q hq
 by_cases h6 : op = 6
 ·rw [zfX h6] at hq
  obtain ⟨k, hk, hq⟩ := List.mem_flatMap.1 hq
  have hk := List.mem_range.1 hk
  have hc := zh3 hg hk (s := 1 - side) (by omega)
  have h1 : POk g { p with at_ := p.at_.set a.toNat (zaF k (1 - side)) } := hp.setAt _ (by omega)
  have hh := hp.hand side
  have hkl : k < (p.hand side).length := by rw [hh.len]; exact hk
  have hv := hh.v k hkl
  unfold tkL at hq
  simp only at hq
  split at hq
  ·rename_i hcond
   rw [List.mem_singleton] at hq
   subst hq
   have h2 := hcond.2
   unfold tkP at h2 ⊢
   by_cases hkeep : (nth g.kinds k).keep = true
   ·rw [if_pos hkeep] at h2 ⊢
    rw [zg1, zcs, if_pos ⟨rfl, hkl⟩] at h2
    exact ⟨h1.withHand side (hh.set k ⟨h2, by omega⟩ fun _ => hkeep), hws _ _ _⟩
   ·rw [if_neg hkeep]
    exact ⟨h1, rfl⟩
  ·cases hq
 unfold zde at hq
 rw [if_neg h6] at hq
 by_cases h7 : op = 7
 ·rw [if_pos h7] at hq
  split at hq
  ·simp only [List.mem_singleton] at hq
   subst hq
   have hb := hp.at (i := b.toNat) (by omega)
   exact ⟨(hp.setAt a.toNat hb).setAt b.toNat (by omega), rfl⟩
  ·cases hq
 rw [if_neg h7] at hq
 by_cases h10 : op = 10
 ·rw [if_pos h10] at hq
  split at hq
  ·simp only [List.mem_cons, List.not_mem_nil, or_false] at hq
   rcases hq with rfl | rfl
   ·exact ⟨hp, rfl⟩
   ·have h4 := hg.r4
    obtain ⟨o1, o2⟩ := or_in (r := g.rights.toNat) (by omega) hp.r0 hp.r1 (n := a.toNat) (by omega)
    exact ⟨⟨hp.al, hp.av, hp.h0, hp.h1, o1, o2, hp.s⟩, rfl⟩
  ·cases hq
 rw [if_neg h10] at hq
 simp only [List.mem_singleton] at hq
 subst hq
 exact ⟨hp, rfl⟩
theorem zko {g : zae} (hg : GOk g) (side : Int) (p : zah) (x : zcq) : (zde g side p x).length ≤ if x.1 = 6 then 6 else if x.1 = 10 then 2 else 1 := by
 have hk := hg.k6
 by_cases h6 : x.1 = 6
 ·rw [if_pos h6, zfX h6, List.length_flatMap]
  have := zex (fun (k : Nat) => (tkL g side p x.2.1.toNat k).length) 1 (List.range g.kinds.length) (fun k _ => by simp only [tkL]; split <;> simp)
  rw [List.length_range] at this
  omega
 unfold zde
 rw [if_neg h6, if_neg h6]
 by_cases h7 : x.1 = 7
 ·rw [if_pos h7, if_neg (show ¬ x.1 = 10 by omega)]
  split <;> simp
 rw [if_neg h7]
 by_cases h10 : x.1 = 10
 ·rw [if_pos h10, if_pos h10]
  split <;> simp
 rw [if_neg h10, if_neg h10]
 simp
theorem zhj {g : zae} (hg : GOk g) {side : Int} (hs : side = 0 ∨ side = 1) : ∀ {l : List zcq} {p : zah}, POk g p → (∀ a ∈ l, zdO g.cells g.kinds.length g.rights a) → ∀ q ∈ zcx g side p l, POk g q ∧ q.side = p.side
 | [], p, hp, _, q, hq => by
  simp only [zcx, List.mem_singleton] at hq
  subst hq
  exact ⟨hp, rfl⟩
 | x :: l, p, hp, hl, q, hq => by
  rw [zcx] at hq
  obtain ⟨r, hr, hq⟩ := List.mem_flatMap.1 hq
  obtain ⟨h1, h2⟩ := zrL hg hs hp (hl x (by simp)) r hr
  obtain ⟨h3, h4⟩ := zhj hg hs h1 (fun a ha => hl a (by simp [ha])) q hq
  exact ⟨h3, h4.trans h2⟩
theorem za1 {α β : Type} (f : α → List β) (b : Nat) : ∀ l : List α, (∀ a ∈ l, (f a).length ≤ b) → (l.flatMap f).length ≤ l.length * b
 | [], _ => by simp
 | a :: l, h => by
  rw [List.flatMap_cons, List.length_append, List.length_cons, Nat.add_mul, Nat.one_mul]
  have h1 := h a (by simp)
  have h2 := za1 f b l fun x hx => h x (by simp [hx])
  omega
theorem zkp {g : zae} (hg : GOk g) (side : Int) : ∀ (l : List zcq) (p : zah), (zcx g side p l).length ≤ 6 ^ za4 l 6 * 2 ^ za4 l 10
 | [], p => by simp [zcx, za4]
 | x :: l, p => by
  rw [zcx]
  have h1 := za1 (fun q => zcx g side q l) (6 ^ za4 l 6 * 2 ^ za4 l 10) (zde g side p x) fun q _ => zkp hg side l q
  have h2 := zko hg side p x
  have hc : ∀ op, za4 (x :: l) op = za4 l op + if x.1 = op then 1 else 0 := fun op => by
   unfold za4
   rw [List.countP_cons]
   by_cases h : x.1 = op <;> simp [h]
  rw [hc, hc]
  refine Nat.le_trans h1 (Nat.le_trans (Nat.mul_le_mul_right _ h2) ?_)
  by_cases h6 : x.1 = 6
  ·rw [if_pos h6, if_pos h6, if_neg (by omega), Nat.pow_succ, Nat.add_zero, Nat.mul_comm 6, Nat.mul_assoc, Nat.mul_comm _ 6, ← Nat.mul_assoc]
   exact Nat.le_refl _
  ·rw [if_neg h6, if_neg h6, Nat.add_zero]
   by_cases h10 : x.1 = 10
   ·rw [if_pos h10, if_pos h10, Nat.pow_succ, Nat.mul_comm 2, Nat.mul_assoc]
    exact Nat.le_refl _
   ·rw [if_neg h10, if_neg h10, Nat.one_mul, Nat.add_zero]
    exact Nat.le_refl _
theorem zvj {b : zaE} {side : Int} {w : zaV} {x : Int × Int} : ∀ v ∈ ziJ b side w x, za4 v.acts 10 ≤ za4 w.acts 10 + zs7 x 10 := by
 intro v hv
 unfold ziJ at hv
 unfold zs7
 split at hv
 ·rename_i h17
  split at hv
  ·simp at hv
  ·split at hv
   ·simp only [List.mem_singleton] at hv
    subst hv
    simp only [onP, List.append_nil]
    omega
   ·simp only [List.mem_singleton] at hv
    subst hv
    simp only [onP, zbF, zdy]
    rw [if_neg (by decide)]
    omega
 ·split at hv
  ·obtain ⟨more, e1, e2, e3, e4⟩ := zfV hv
   rw [List.append_nil] at e1
   rw [e1, zbF, zh5 e4 (by omega)]
   omega
  ·split at hv
   ·simp only [List.mem_singleton] at hv
    subst hv
    simp only [onP, zbF, zdy]
    omega
   ·simp only [List.mem_singleton] at hv
    subst hv
    simp only [onP, zbF, zdy]
    omega
theorem zll {b : zaE} {side : Int} : ∀ {prog : List (Int × Int)} {now : List zaV} {t : Nat}, (∀ w ∈ now, za4 w.acts 10 ≤ t) → ∀ w ∈ prog.foldl (zki b side) now, za4 w.acts 10 ≤ t + prog.length
 | [], now, t, h, w, hw => by simpa using h w hw
 | x :: prog, now, t, h, w, hw => by
  rw [List.foldl_cons] at hw
  have := zll (prog := prog) (now := zki b side now x) (t := t + 1) (fun v hv => by
   obtain ⟨u, hu, hv⟩ := List.mem_flatMap.1 hv
   have h1 := zvj v hv
   have h2 := h u hu
   have h3 : zs7 x 10 ≤ 1 := by unfold zs7; split <;> omega
   omega) w hw
  simp only [List.length_cons]
  omega
theorem zly {g : zae} (hg : GOk g) {side : Int} {k : zfZ} (hk : k ∈ g.kinds) {cell : Int} : ∀ w ∈ zbw g.board side k.progs cell, za4 w.acts 10 ≤ 8 := by
 intro w hw
 obtain ⟨p, hp, hw⟩ := List.mem_flatMap.1 hw
 have ok := (hg.pr k hk p hp).len
 have := zll (b := g.board) (side := side) (prog := p) (now := [⟨[], cell⟩]) (t := 0) (fun v hv => by
  simp only [List.mem_singleton] at hv
  subst hv
  simp [za4]) w hw
 omega
theorem zfR {a m n : Nat} (ha : 1 ≤ a) (h : m ≤ n) : a ^ m ≤ a ^ n := Nat.pow_le_pow_right ha h
theorem zjj {g : zae} (hg : GOk g) {side : Int} {p : zah} {k c : Nat} (hk : k < g.kinds.length) (hc : (c : Int) < g.cells) : ∀ w ∈ zbw g.board side (nth g.kinds k).progs c, (zcx g side { p with at_ := p.at_.set w.to.toNat 0, side := side } w.acts.reverse).length ≤ 9216 := by
 intro w hw
 have h1 := (zg5 hg (side := side) (zaj hk) (cell := (c : Int)) ⟨by omega, hc⟩ w hw).take
 have h2 := zly hg (side := side) (zaj hk) (cell := (c : Int)) w hw
 have hr : ∀ op, za4 w.acts.reverse op = za4 w.acts op := fun op => by unfold za4; exact List.countP_reverse ..
 have h3 := zkp hg side w.acts.reverse { p with at_ := p.at_.set w.to.toNat 0, side := side }
 rw [hr, hr] at h3
 exact Nat.le_trans h3 (Nat.mul_le_mul (zfR (n := 2) (by omega) h1) (zfR (n := 8) (by omega) h2))
theorem zxo {g : zae} (hg : GOk g) {side : Int} (hs : side = 0 ∨ side = 1) {p : zah} (hp : POk g p) : ∀ q ∈ zeG g side p, POk g q := by
 intro q hq
 unfold zeG at hq
 obtain ⟨k, hk, hq⟩ := List.mem_flatMap.1 hq
 obtain ⟨c, hc, hq⟩ := List.mem_flatMap.1 hq
 obtain ⟨w, hw, hq⟩ := List.mem_flatMap.1 hq
 have hk := List.mem_range.1 hk
 have hc := List.mem_range.1 hc
 unfold zfe at hq
 split at hq
 ·obtain ⟨r, hr, rfl⟩ := List.mem_map.1 hq
  have hr := (List.mem_filter.1 hr).1
  have hpo := zg5 hg (side := side) (zaj hk) (cell := (c : Int)) ⟨by omega, by omega⟩ w hw
  have h1 : POk g { p with at_ := p.at_.set w.to.toNat 0, side := side } := by
   have := hp.setAt w.to.toNat (v := 0) (by omega)
   exact ⟨this.al, this.av, this.h0, this.h1, this.r0, this.r1, hs⟩
  obtain ⟨h2, _⟩ := zhj hg hs h1 (l := w.acts.reverse) (fun a ha => hpo.acts a (List.mem_reverse.1 ha)) r hr
  have hcd := zh3 hg hk hs
  exact h2.setAt c (by omega)
 ·cases hq
theorem zlx {g : zae} (hg : GOk g) (hs : zbm g) (side : Int) {k : Nat} (hk : k < g.kinds.length) (c : Int) : (zbw g.board side (nth g.kinds k).progs c).length ≤ 72 := by
 have hkm := zaj hk
 have c9 := hg.c9
 have c1 := hg.c1
 have := za1 (fun p => zbB g.board side p c) 9 (nth g.kinds k).progs fun p hp => by
  have h := zhN hg.board hg.c1 side p c
  have h2 : g.board.cells.toNat ≤ 9 := by have : g.board.cells = g.cells := rfl; omega
  have h1 := hs _ hkm p hp
  rcases (show zaB p 2 = 0 ∨ zaB p 2 = 1 by omega) with e | e <;> rw [e] at h <;> simp at h <;> omega
 have h8 := hg.pn _ hkm
 unfold zbw
 omega
theorem zhr {g : zae} (hg : GOk g) (hs : zbm g) {p : zah} (hp : POk g p) : (zc0 g p).length ≤ 35831817 := by
 have c9 := hg.c9
 have c1 := hg.c1
 have k6 := hg.k6
 have hal := hp.al
 have h1 : (zeG g (1 - p.side) p).length ≤ 35831808 := by
  have := za1 (fun (k : Nat) => (List.range g.cells.toNat).flatMap fun (c : Nat) => (zbw g.board (1 - p.side) (nth g.kinds k).progs c).flatMap (zfe g (1 - p.side) p k c)) (9 * (72 * 9216)) (List.range g.kinds.length) fun k hk => by
   have hk := List.mem_range.1 hk
   have := za1 (fun (c : Nat) => (zbw g.board (1 - p.side) (nth g.kinds k).progs c).flatMap (zfe g (1 - p.side) p k c)) (72 * 9216) (List.range g.cells.toNat) fun c hc => by
    have hc := List.mem_range.1 hc
    have h2 := zlx hg hs (1 - p.side) hk c
    have := za1 (zfe g (1 - p.side) p k c) 9216 (zbw g.board (1 - p.side) (nth g.kinds k).progs c) fun w hw => by
     have h3 := zjj hg (side := 1 - p.side) (p := p) hk (show (c : Int) < g.cells by omega) w hw
     unfold zfe
     split
     ·rw [List.length_map]
      exact Nat.le_trans (List.length_filter_le _ _) h3
     ·simp
    refine Nat.le_trans this ?_
    omega
   rw [List.length_range] at this
   refine Nat.le_trans this ?_
   omega
  rw [List.length_range] at this
  unfold zeG
  omega
 have h2 : (zgo g (1 - p.side) p).length ≤ 9 := by
  unfold zgo
  rw [List.length_map]
  have := List.length_filter_le (fun c => decide ((zao (nth p.at_ c)).2 = 1 - p.side) && (nth g.kinds (zao (nth p.at_ c)).1.toNat).keep) (List.range p.at_.length)
  rw [List.length_range] at this
  omega
 unfold zc0
 rw [List.length_append]
 omega
def SzP (g : zae) (q : zah) : Prop := (q.at_.length : Int) = g.cells ∧ q.h0.length = g.kinds.length ∧ q.h1.length = g.kinds.length
theorem zrm {g : zae} {p : zah} (hp : POk g p) (side : Int) (c : Nat) : SzP g (ziw side p c) := by
 have h1 := hp.al
 have h2 := hp.h0.len
 have h3 := hp.h1.len
 unfold ziw SzP zah.withHand zah.hand
 simp only
 split <;> simp [List.length_set, h1, h2, h3]
theorem zre {g : zae} (hg : GOk g) {p : zah} (hp : POk g p) : (∀ q ∈ zc0 g p, SzP g q) ∧ ∀ q ∈ zc1 g p, SzP g q := by
 have hs := hp.s
 have hA : ∀ q ∈ zeG g (1 - p.side) p, SzP g q := fun q hq => by
  have := zxo hg (side := 1 - p.side) (by omega) hp q hq
  exact ⟨this.al, this.h0.len, this.h1.len⟩
 refine ⟨fun q hq => ?_, fun q hq => ?_⟩
 ·rcases List.mem_append.1 hq with h | h
  ·exact hA q h
  ·obtain ⟨c, _, rfl⟩ := List.mem_map.1 h
   exact zrm hp _ _
 ·rcases List.mem_append.1 hq with h | h
  ·exact hA q h
  ·obtain ⟨c, _, rfl⟩ := List.mem_map.1 h
   exact zrm hp _ _
def zq7 (g : zae) (p : zah) (l : List zah) (i : Nat) : List zah := (l.take i).filter fun q => zer g q && decide (p ∈ zaK g q)
theorem znJ (g : zae) (p : zah) (l : List zah) : zq7 g p l 0 = [] := by simp [zq7]
theorem znI {g : zae} {p : zah} {l : List zah} {i : Nat} (hi : i < l.length) : zq7 g p l (i + 1) = if zer g (nth l i) = true ∧ p ∈ zaK g (nth l i) then zq7 g p l i ++ [nth l i] else zq7 g p l i := by
 unfold zq7
 rw [List.take_add_one, List.getElem?_eq_getElem hi, ← zaC _ _ hi, Option.toList_some, List.filter_append]
 by_cases h : zer g (nth l i) = true ∧ p ∈ zaK g (nth l i)
 ·rw [if_pos h]
  simp [h.1, h.2]
 ·rw [if_neg h]
  have : (zer g (nth l i) && decide (p ∈ zaK g (nth l i))) = false := by
   rw [Bool.eq_false_iff]
   intro h2
   rw [Bool.and_eq_true, decide_eq_true_eq] at h2
   exact h h2
  simp [this]
theorem zxg (g : zae) (p : zah) : zq7 g p (zbh zbx (zc0 g p)) (zbh zbx (zc0 g p)).length = zaM g p := by
 unfold zq7 zaM
 rw [List.take_length]
theorem zq8 (g : zae) (p : zah) (l : List zah) (i : Nat) : (zq7 g p l i).length ≤ l.length := by
 unfold zq7
 have h1 := List.length_filter_le (fun q => zer g q && decide (p ∈ zaK g q)) (l.take i)
 rw [List.length_take] at h1
 omega
theorem znO {g : zae} {n : Nat} {l : List zah} {q : zah} (hq : q ∈ l) (h : 4000 < (zaM g q).length) : zb0 g (n + 1) l = ([], 2) := by
 rw [zb0, if_neg]
 intro h2
 have := of_decide_eq_true (List.all_eq_true.1 h2 q hq)
 omega
theorem zrf {g : zae} {n : Nat} {l : List zah} (h : ∀ q ∈ l, (zaM g q).length ≤ 4000) : zb0 g (n + 1) l = if 4000 < (zbh zbx (l.flatMap (zaM g))).length then ([], 2) else zb0 g n (zbh zbx (l.flatMap (zaM g))) := by
 rw [zb0, if_pos (List.all_eq_true.2 fun q hq => decide_eq_true (h q hq))]
def zvY (g : zae) (l : List zah) (k : Nat) : List zah := (l.take k).flatMap (zaM g)
theorem zoF (g : zae) (l : List zah) : zvY g l 0 = [] := rfl
theorem zoE (g : zae) {l : List zah} {k : Nat} (hk : k < l.length) : zvY g l (k + 1) = zvY g l k ++ zaM g (nth l k) := by
 unfold zvY
 rw [List.take_add_one, List.getElem?_eq_getElem hk, ← zaC _ _ hk, Option.toList_some, List.flatMap_append]
 simp
theorem zrr (g : zae) (l : List zah) : zvY g l l.length = l.flatMap (zaM g) := by
 unfold zvY
 rw [List.take_length]
theorem zrs {g : zae} {l : List zah} {k : Nat} (h : ∀ j, j < k → j < l.length → (zaM g (nth l j)).length ≤ 4000) : (zvY g l k).length ≤ l.length * 4000 := by
 unfold zvY
 have := za1 (zaM g) 4000 (l.take k) fun q hq => by
  obtain ⟨j, hj, rfl⟩ := zjQ hq
  rw [List.length_take] at hj
  have e : nth (l.take k) j = nth l j := by
   unfold nth
   rw [List.getD_eq_getElem?_getD, List.getD_eq_getElem?_getD, List.getElem?_take_of_lt (by omega)]
  rw [e]
  exact h j (by omega) (by omega)
 rw [List.length_take] at this
 exact Nat.le_trans this (Nat.mul_le_mul_right _ (Nat.min_le_right _ _))
theorem zvZ {g : zae} (hg : GOk g) {l : List zah} {k : Nat} : ∀ q ∈ zvY g l k, POk g q := fun q hq => by
 obtain ⟨r, _, hq⟩ := List.mem_flatMap.1 hq
 exact zei hg hq
theorem zq6 {g : zae} {p : zah} (h : (zaM g p).length ≤ 4000) : zbQ g p = (zaM g p, 0) := by
 unfold zbQ
 rw [if_neg (by omega)]
theorem znF {g : zae} {p : zah} (h : 4000 < (zaM g p).length) : zbQ g p = ([], 2) := by
 unfold zbQ
 rw [if_pos h]
def tkF (g : zae) (side : Int) (p : zah) (a i : Nat) : List zah := ((List.range g.kinds.length).drop i).flatMap (tkL g side p a)
theorem zym {g : zae} (side : Int) (p : zah) (a : Nat) {i : Nat} (hi : i < g.kinds.length) : tkF g side p a i = tkL g side p a i ++ tkF g side p a (i + 1) := by
 unfold tkF
 have e : (List.range g.kinds.length).drop i = i :: (List.range g.kinds.length).drop (i + 1) := by
  rw [List.drop_eq_getElem_cons (by simpa using hi)]; simp
 rw [e, List.flatMap_cons]
theorem zAe (g : zae) (side : Int) (p : zah) (a : Nat) : tkF g side p a g.kinds.length = [] := by
 unfold tkF
 rw [List.drop_eq_nil_of_le (by simp)]
 rfl
end Go.Av
end
section
/- Our library: ranges zdP functions, and iterators: equations and steps. -/
namespace Go.Av
open Go
section
variable {P : Program} {n0 : Nat} {Q : zbW} {e : Env} {h : zar} {n : Nat} {ops rest : List Oper}
def zeh (P : Program) (n0 : Nat) (ps : List Tmp) (a b : Code) (Q : zbW) (v : AV) (e : Env) (h : zar) (n : Nat) : Prop :=
 (∃ f caps caps' more rows h', v = .fn (.func f) [] caps ∧ Frz h h' ∧ zam h h' n caps caps' ∧ (∀ c ∈ caps', Bel 0 c) ∧ znb P f caps' more rows ∧
  (∀ xs ∈ rows, xs.length = ps.length) ∧ Fgt n0 (zbu n0 more ps (fun n1 => awp P n1 a) (fun n1 => awp P n1 b) Q rows) e h' n) ∨
 (∃ f caps caps' o gn sz rs rs' more rows h', v = .fn (.func f) [] caps ∧ Frz h h' ∧ h' o = some (.rows true gn sz rs) ∧ zai h h' n rs rs' ∧ (∀ r ∈ rs', ∀ c ∈ r, Bel 0 c) ∧
  zgh h h' n o caps caps' ∧ zo7 P f caps' [(0, .rows true gn sz rs')] 1 more rows ∧
  (∀ xs ∈ rows, xs.length = ps.length) ∧ Fgt n0 (zbu n0 more ps (fun n1 => awp P n1 a) (fun n1 => awp P n1 b) Q rows) e (upd h' o none) n)
theorem zmn (g : Operand) (ps : List Tmp) (a b : Code) : awp P n0 (.rangeFunc g ps.toArray a b) Q e h n = zeh P n0 ps a b Q (ev e g) e h n := rfl
@[congr] theorem zyv {ps : List Tmp} {a b : Code} {v v' : AV} (hv : v = v') : zeh P n0 ps a b Q v e h n = zeh P n0 ps a b Q v' e h n := by subst hv; rfl
theorem zeh.mk {ps : List Tmp} {a b : Code} {f : FuncId} {caps : List AV} (caps' : List AV) (h' : zar) {more : Nat} {rows : List (List AV)} (C : znb P f caps' more rows) (hfz : Frz h h') (hle : zam h h' n caps caps') (hb : ∀ c ∈ caps', Bel 0 c)
  (hlen : ∀ xs ∈ rows, xs.length = ps.length) (hk : Fgt n0 (zbu n0 more ps (fun n1 => awp P n1 a) (fun n1 => awp P n1 b) Q rows) e h' n) : zeh P n0 ps a b Q (.fn (.func f) [] caps) e h n :=
 .inl ⟨f, caps, caps', more, rows, h', rfl, hfz, hle, hb, C, hlen, hk⟩
theorem zeh.give {ps : List Tmp} {a b : Code} {f : FuncId} {caps : List AV} (caps' : List AV) (h' : zar) (o : Nat) {gn sz : Nat} {rs : List (List AV)} (rs' : List (List AV)) {more : Nat} {rows : List (List AV)}
  (C : zo7 P f caps' [(0, .rows true gn sz rs')] 1 more rows) (hfz : Frz h h') (ho : h' o = some (.rows true gn sz rs)) (hr : zai h h' n rs rs') (hbr : ∀ r ∈ rs', ∀ c ∈ r, Bel 0 c) (hg : zgh h h' n o caps caps')
  (hlen : ∀ xs ∈ rows, xs.length = ps.length) (hk : Fgt n0 (zbu n0 more ps (fun n1 => awp P n1 a) (fun n1 => awp P n1 b) Q rows) e (upd h' o none) n) : zeh P n0 ps a b Q (.fn (.func f) [] caps) e h n :=
 .inr ⟨f, caps, caps', o, gn, sz, rs, rs', more, rows, h', rfl, hfz, ho, hr, hbr, hg, C, hlen, hk⟩
theorem zAN {ps : List Tmp} {a b : Code} {more : Nat} {xs : List AV} {rs : List (List AV)} (hn : n0 ≤ n)
  (hk : awp P n a (zt2 (awp P n b (ziY (Fgt n0 (zbu n0 more ps (fun n1 => awp P n1 a) (fun n1 => awp P n1 b) Q rs)) Q e))) (zfA ps xs e) h n) :
  zbu n0 more ps (fun n1 => awp P n1 a) (fun n1 => awp P n1 b) Q (xs :: rs) e h n := ⟨hn, hk⟩
theorem Fgt.to {K : Env → zar → Nat → Prop} {E : List (Nat × AV)} {HH : List (Nat × zbq)} {n' : Nat} (hk : K (mkE E) (mkH HH) n') (hw : Wk e h n E HH n') (hn : n0 ≤ n') : Fgt n0 K e h n := .inr ⟨E, HH, n', hw, hn, hk⟩
theorem zAK {α : Type} (S : α → List (Nat × AV) × List (Nat × zbq) × Nat) (inv : List (List AV) → α → Prop) {ps : List Tmp} {A B : Nat → zbW → Env → zar → Nat → Prop} {more : Nat}
  (h0 : ∀ d, inv [] d → more = 0 ∧ Q .normal (mkE (S d).1) (mkH (S d).2.1) (S d).2.2)
  (h1 : ∀ xs rs d, inv (xs :: rs) d → (∀ d', inv rs d' → zbu n0 more ps A B Q rs (mkE (S d').1) (mkH (S d').2.1) (S d').2.2) → zbu n0 more ps A B Q (xs :: rs) (mkE (S d).1) (mkH (S d).2.1) (S d).2.2) :
  ∀ rows d, inv rows d → zbu n0 more ps A B Q rows (mkE (S d).1) (mkH (S d).2.1) (S d).2.2
 | [], d, hi => h0 d hi
 | xs :: rs, d, hi => h1 xs rs d hi fun d' hi' => zAK S inv h0 h1 rs d' hi'
theorem znd {K : Env → zar → Nat → Prop} : zt2 K .normal e h n = K e h n := rfl
theorem zl5 {K : Env → zar → Nat → Prop} {e0 : Env} : ziY K Q e0 .normal e h n = K (upd e0 GH (e GH)) h n := rfl
theorem zrX {K : Env → zar → Nat → Prop} {e0 : Env} : ziY K Q e0 .ret e h n = Q .ret (upd e0 GH (e GH)) h n := rfl
theorem zpb {K : Env → zar → Nat → Prop} {e0 : Env} {id : Nat} : ziY K Q e0 (.exit id) e h n = Q (.exit id) (upd e0 GH (e GH)) h n := rfl
theorem zwc {xs : List AV} : zfA [] xs e = e := by simp [zfA]
theorem ztx {t : Tmp} {ps : List Tmp} {x : AV} {xs : List AV} : zfA (t :: ps) (x :: xs) e = zfA ps xs (upd e t x) := rfl
theorem zpr {rs : List ResultVar} {l more : Nat} : RetI P rs l more .normal e h n = ((zm3 P e h rs).1 ∧ ((more = 0 ∧ e GH = zba l 0 []) ∨ e GH = zba l 2 [])) := rfl
theorem zwP {rs : List ResultVar} {l more : Nat} : RetI P rs l more .ret e h n = ((zm3 P e h rs).1 ∧ ((more = 0 ∧ e GH = zba l 0 []) ∨ e GH = zba l 2 [])) := rfl
theorem zr8.mk {dst : Option Tmp} {l more : Nat} {args xs : List AV} {rs : List (List AV)} (h' : zar) (hg : e GH = zba l more (xs :: rs)) (hfz : Frz h h') (hle : zam h h' n args xs) (hb : ∀ c ∈ xs, Bel 0 c)
  (hT : zbk P ops Q rest (put (upd e GH (zba l more rs)) dst (.v (.bool true))) h' n) (hF : zbk P ops Q rest (put (upd e GH (zba l 2 [])) dst (.v (.bool false))) h' n) : zr8 P ops Q rest dst l args e h n :=
 ⟨l, more, xs :: rs, rfl, hg, h', hfz, hle, hb, hT, hF⟩
theorem zr8.exh {dst : Option Tmp} {l : Nat} {args : List AV} (hg : e GH = zba l 1 []) : zr8 P ops Q rest dst l args e h n := ⟨l, 1, [], rfl, hg, rfl⟩
theorem aGC.yld {dst : Option Tmp} {l more : Nat} {args xs : List AV} {rs : List (List AV)} (h' : zar) (hg : e GH = zba l more (xs :: rs)) (hfz : Frz h h') (hle : zam h h' n args xs) (hb : ∀ c ∈ xs, Bel 0 c)
  (hT : zbk P ops Q rest (put (upd e GH (zba l more rs)) dst (.gd true (.v (.bool true)))) h' n) (hF : zbk P ops Q rest (put (upd e GH (zba l 2 [])) dst (.gd true (.v (.bool false)))) h' n) :
  aGC P ops Q rest dst true (.fn (.yield l) [] []) args e h n := .inr (.inr ⟨rfl, l, more, xs :: rs, rfl, hg, h', hfz, hle, hb, hT, hF⟩)
theorem aGC.exh {dst : Option Tmp} {l : Nat} {args : List AV} (hg : e GH = zba l 1 []) : aGC P ops Q rest dst true (.fn (.yield l) [] []) args e h n := .inr (.inr ⟨rfl, l, 1, [], rfl, hg, rfl⟩)
theorem zm7 {h h' : zar} {o : Nat} : zgh h h' n o [] [] = True := eq_true .nil
theorem zm8 {h h' : zar} {o g sz i off : Nat} {xs ys : List AV} : zgh h h' n o (.ref o g sz i off :: xs) (.ref 0 g sz i off :: ys) = zgh h h' n o xs ys := by
 refine propext ⟨fun hg => ?_, .ref⟩
 cases hg with
 | ref t => exact t
 | le hx hb t => cases hb with | ref hb => exact absurd hb (Nat.not_lt_zero _)
theorem zqV {h h' : zar} {o : Nat} {x : AV} {cells xs ys : List AV} : zgh h h' n o (x :: xs) (.fp cells :: ys) = (LeV h h' n x (.fp cells) ∧ (∀ c ∈ cells, Bel 0 c) ∧ zgh h h' n o xs ys) := by
 refine propext ⟨fun hg => ?_, fun ⟨h1, h2, h3⟩ => .le h1 (.fp h2) h3⟩
 cases hg with
 | le hx hb t => cases hb with | fp hb => exact ⟨hx, hb, t⟩
attribute [go_sem] zm7 zm8 zqV
attribute [go_sem] zmn znd zl5 zrX zpb zwc ztx zpr zwP zpv
end
end Go.Av
end
section
open Go Go.Proofs
namespace Go.Av
def zcj (b : zaE) (side d : Int) : Nat → Int → List Int
 | 0, _ => []
 | k + 1, x => if 0 ≤ x then x :: zcj b side d k (toB b side d x) else []
def zbs (b : zaE) (side d : Int) : Nat → Int → Nat
 | 0, x => if 0 ≤ x then 1 else 0
 | k + 1, x => if 0 ≤ x then zbs b side d k (toB b side d x) else 0
theorem zkh {b : zaE} {side d : Int} : ∀ {k : Nat} {x : Int}, zbs b side d k x ≠ 2
 | 0, x => by unfold zbs; split <;> omega
 | k + 1, x => by unfold zbs; split; exact zkh; omega
theorem ztL (b : zaE) (hb : zaY b) (side d c : Int) (k : Nat) : znb Tryz.prog 306 [.fp (zcZ b), .fp [.v (.int .i64 side)], .fp [.v (.int .i64 d)], .fp [.v (.int .i64 c)]]
  (zbs b side d k (toB b side d c)) ((zcj b side d k (toB b side d c)).map zb5) := by
 refine zAM (by kernel_rfl) Tryz.func306 rfl rfl (Nat.le_of_ble_eq_true rfl) (by kernel_rfl) (fun l => ?_) (hm2 := zkh)
 have hbl : ∀ n, (∀ c' ∈ zcZ b, Bel n c') = True := fun n => by simp [go_sem]
 have hel : (zcZ b).length = 3 := rfl
 have hT : ∀ x, zaL Tryz.prog 243 [.agg (zcZ b), .v (.int .i64 side), .v (.int .i64 d), .v (.int .i64 x)] (.v (.int .i64 (toB b side d x))) := fun x => ziF b hb side d x
 have hg : ∀ (n k : Nat) (x : Int), Bel n (zba l (zbs b side d k x) ((zcj b side d k x).map zb5)) := fun n k x => by
  simp only [zba, zqS, zlY, List.forall_mem_cons, zwJ, zcc]
  simp [go_sem]
 obtain ⟨eb, heb⟩ : ∃ eb, eb = zcZ b := ⟨_, rfl⟩
 rw [← heb] at hbl hel hT ⊢
 have hte : eb.take 3 = eb := List.take_of_length_le (by omega)
 repeat first|refine wV fun _=>?_|simp [go_sem, hel, GH, hte]
 refine zAs (hT c) (by simp [go_sem, hbl]) ?_
 repeat first|refine wV fun _=>?_|simp [go_sem, hel, GH, hte]
 refine zAr (zAv (α := Nat × Int) (fun a => ⟨[(0, .fn (.yield l) [] []), (1, .fp eb), (2, .fp [.v (.int .i64 side)]), (3, .fp [.v (.int .i64 d)]), (6, .v (.int .i64 a.2)), (1000000007, zba l (zbs b side d a.1 a.2) ((zcj b side d a.1 a.2).map zb5))], [], 0⟩)
  (fun f a => f = a.1 ∧ zbs b side d a.1 a.2 = zbs b side d k (toB b side d c)) ?_ k (k, toB b side d c) ?_) ?_ ?_
 ·rintro f ⟨k', x⟩ ⟨i1, i2⟩ hrec
  simp only at i1 i2
  subst i1
  repeat first|refine wV fun _=>?_|simp [go_sem, hel, GH, hte]
  by_cases hx : 0 ≤ x
  ·simp only [hx, decide_true]
   cases f with
   | zero => exact aGC.exh (by simp [upd, GH, zbs, zcj, hx])
   | succ f =>
    refine aGC.yld (more := zbs b side d f (toB b side d x)) (xs := [.v (.int .i64 x)]) (rs := (zcj b side d f (toB b side d x)).map zb5) noH (by simp [upd, GH, zbs, zcj, hx, zb5]) (.refl _) (.refl _ _ _ _) (by simp [go_sem]) ?_ ?_
    ·repeat first|refine wV fun _=>?_|simp [go_sem, hel, GH, hte]
     refine zAs (hT x) (by simp [go_sem, hbl]) ?_
     repeat first|refine wV fun _=>?_|simp [go_sem, hel, GH, hte]
     rw [zbs, if_pos hx] at i2
     refine zAr (hrec f (by omega) (f, toB b side d x) ⟨rfl, i2⟩) ?_ (by simp)
     simp [go_sem, zaf, hbl, hg, GH]
    ·repeat first|refine wV fun _=>?_|simp [go_sem, hel, GH, hte]
  ·have hm : zbs b side d f x = 0 := by cases f <;> simp [zbs, hx]
   have hr : zcj b side d f x = [] := by cases f <;> simp [zcj, hx]
   simp only [hx, decide_false]
   refine aGC.skip (.v (.bool false)) ?_
   repeat first|refine wV fun _=>?_|simp [go_sem, hel, GH, hte]
   rw [← i2, hm, hr]
   exact .inl ⟨rfl, rfl⟩
 ·exact ⟨rfl, rfl⟩
 ·simp [go_sem, zaf, hbl, hg, GH]
 ·simp
def zoV (n : Nat) : AV := .fn (.func 306) [] [.ref n 0 3 0 0, .ref (n + 1) 0 1 0 0, .ref (n + 2) 0 1 0 0, .ref (n + 3) 0 1 0 0]
def zoU (b : zaE) (side d c : Int) (n : Nat) : List (Nat × zbq) := [(n, .rows true 0 3 [zcZ b]), (n + 1, .rows true 0 1 [[.v (.int .i64 side)]]), (n + 2, .rows true 0 1 [[.v (.int .i64 d)]]), (n + 3, .rows true 0 1 [[.v (.int .i64 c)]])]
theorem ztM (b : zaE) (side d c : Int) : zgi Tryz.prog 290 [.agg (zcZ b), .v (.int .i64 side), .v (.int .i64 d), .v (.int .i64 c)] zoV (zoU b side d c) 4 := by
 refine ⟨?_, fun n => ⟨by simp [go_sem, zoV], by simp [go_sem, zoU]⟩⟩
 refine zAw (by kernel_rfl) Tryz.func290 rfl rfl (Nat.le_of_ble_eq_true rfl) (by kernel_rfl) ?_
 repeat first|refine wV fun _=>?_|simp [go_sem, zoV, zoU]
 simp [go_sem, zaf]
theorem zk8 (b : zaE) (hb : zaY b) (side d c : Int) : zaL Tryz.prog 244 [.agg (zcZ b), .v (.int .i64 side), .v (.int .i64 d), .v (.int .i64 c)] (zap (zft b side d c)) := by
 refine pF Tryz.func244 ?_
 have hbl : ∀ n, (∀ c' ∈ zcZ b, Bel n c') = True := fun n => by simp [go_sem]
 have hel : (zcZ b).length = 3 := rfl
 have hS : zgi Tryz.prog 290 [.agg (zcZ b), .v (.int .i64 side), .v (.int .i64 d), .v (.int .i64 c)] (fun n => zoV n) (fun n => zoU b side d c n) 4 := ztM b side d c
 have hQ := fun k => ztL b hb side d c k
 simp only [zoV, zoU] at hS
 have hte : (zcZ b).take 3 = zcZ b := rfl
 obtain ⟨eb, heb⟩ : ∃ eb, eb = zcZ b := ⟨_, rfl⟩
 rw [← heb] at hbl hel hS hQ hte ⊢
 have hc1 := hb.c1
 have hc0 := hb.c0
 repeat first|refine wV fun _=>?_|simp [go_sem, hel, hte, GH]
 refine zAx hS (by simp [go_sem, hbl]) ?_
 repeat first|refine wV fun _=>?_|simp [go_sem, hel, hte, GH]
 refine zeh.mk [.fp eb, .fp [.v (.int .i64 side)], .fp [.v (.int .i64 d)], .fp [.v (.int .i64 c)]] (za5 _ [3, 4, 5, 6]) (hQ (b.cells.toNat + 1)) (zcU _ _) ?_ (by simp [go_sem, hbl]) (by simp [zb5]) ?_
 ·refine zam.cons (.frzP rfl ?_ ?_ ?_ ?_) (zam.cons (.frzP rfl ?_ ?_ ?_ ?_) (zam.cons (.frzP rfl ?_ ?_ ?_ ?_) (zam.cons (.frzP rfl ?_ ?_ ?_ ?_) .nil))) <;> first | exact zam.refl _ _ _ _ | simp [za5, zbb, upd]
 refine Fgt.to (zAK (α := Nat × Int × List Int) (fun a => ([(7, .ref 1 0 1 0 0), (9, .ref 2 0 1 0 0)], [(1, .rows true 0 1 [[.v (.int .i64 c)]]), (2, .rows true 0 1 [[.sl 7 a.2.2.length 1 0 a.2.2.length]]), (7, .rows true a.2.2.length 1 (a.2.2.map zb5))], 8))
  (fun rows a => rows = (zcj b side d a.1 a.2.1).map zb5 ∧ zbs b side d a.1 a.2.1 = zbs b side d (b.cells.toNat + 1) (toB b side d c) ∧ a.1 + a.2.2.length = b.cells.toNat + 1 ∧ a.2.1 < b.cells ∧ a.2.2.Nodup ∧
   (∀ y ∈ a.2.2, 0 ≤ y ∧ y < b.cells) ∧ zft b side d c = zdJ b side d c a.1 a.2.1 a.2.2) ?_ ?_ _ (b.cells.toNat + 1, toB b side d c, []) ?_) ?_ ?_
 ·rintro ⟨f, x, seen⟩ ⟨i0, i1, i2, i3, i4, i5, i6⟩
  simp only at i0 i1 i2 i3 i4 i5 i6
  have hsl : seen.length ≤ b.cells.toNat := zfQ _ _ i4 (fun y hy => by have := i5 y hy; omega)
  obtain ⟨f, rfl⟩ : ∃ f', f = f' + 1 := ⟨f - 1, by omega⟩
  have hx : ¬ 0 ≤ x := fun hx => by simp [zcj, hx] at i0
  rw [zbs, if_neg hx] at i1
  rw [zdJ, if_neg (fun h => hx h.1)] at i6
  refine ⟨i1.symm, ?_⟩
  rw [i6]
  repeat first|refine wV fun _=>?_|simp [go_sem, hel]
  exact frX
 ·rintro xs rs ⟨f, x, seen⟩ ⟨i0, i1, i2, i3, i4, i5, i6⟩ hrec
  simp only at i0 i1 i2 i3 i4 i5 i6
  have hsl : seen.length ≤ b.cells.toNat := zfQ _ _ i4 (fun y hy => by have := i5 y hy; omega)
  cases f with
  | zero => simp [zcj] at i0
  | succ f =>
  have hx : 0 ≤ x := by
   by_cases hx : 0 ≤ x
   ·exact hx
   ·simp [zcj, hx] at i0
  rw [zcj, if_pos hx] at i0
  simp only [List.map_cons, List.cons.injEq] at i0
  obtain ⟨rfl, rfl⟩ := i0
  rw [zbs, if_pos hx] at i1
  rw [zdJ] at i6
  refine zAN (Nat.zero_le _) ?_
  repeat first|refine wV fun _=>?_|simp [go_sem, hel, GH, zb5]
  refine zA4 [zap seen, .v (.int .i64 x)] (.v (.bool (decide (x ∈ seen)))) (fun _ => zl3 seen x (by omega)) (.v _) ?_ (by simp [go_sem]) ?_
  ·refine zam.cons ?_ (zam.cons (.refl _) zam.nil)
   refine LeV.frz rfl ?_ ?_ (zAB ?_) <;> simp [noH, List.take_of_length_le]
  repeat first|refine wV fun _=>?_|simp [go_sem, hel, GH]
  refine zAt (fun hc => ?_) (fun hc => ?_) <;> simp at hc
  ·rw [if_neg (by rintro ⟨h1, h2, h3⟩; rcases hc with h | h <;> contradiction)] at i6
   rw [i6]
   repeat first|refine wV fun _=>?_|simp [go_sem, hel, GH]
   exact frX
  ·rw [if_pos ⟨hx, by simpa using hc⟩] at i6
   repeat first|refine wV fun _=>?_|simp [go_sem, hel, GH]
   refine Fgt.to (hrec (f, toB b side d x, seen ++ [x]) ⟨rfl, i1, by simp only [List.length_append, List.length_singleton]; omega, zfE hb _ _ _, ?_, ?_, i6⟩) ?_ (by simp)
   ·refine List.nodup_append.2 ⟨i4, by simp, ?_⟩
    intro y hy z hz
    simp at hz
    subst hz
    rintro rfl
    exact hc.2 hy
   ·intro y hy
    rcases List.mem_append.1 hy with h | h
    ·exact i5 y h
    ·simp at h; omega
   ·simp [go_sem, zaf, GH] <;> (first|done|exact blX)
 ·exact ⟨rfl, rfl, by simp, zfE hb _ _ _, by simp, by simp, rfl⟩
 ·simp [go_sem, zaf]
 ·simp
theorem zfq (c : Int) : zaL Tryz.prog 126 [.v (.int .i64 c)] (.tup [.v (.int .i64 (zao c).1), .v (.int .i64 (zao c).2)]) := by
 refine pF Tryz.func126 ?_
 unfold zao
 by_cases h1 : c < 1
 ·rw [if_neg (by omega)]
  repeat first|refine wV fun _=>?_|simp [go_sem, h1]
 ·by_cases h2 : 12 < c
  ·rw [if_neg (by omega)]
   repeat first|refine wV fun _=>?_|simp [go_sem, h1, h2]
  ·rw [if_pos (by omega)]
   have e1 : (c - 1).tdiv 2 = (c - 1) / 2 := Int.tdiv_eq_ediv_of_nonneg (by omega)
   have e2 : (c - 1).tmod 2 = (c - 1) % 2 := Int.tmod_eq_emod_of_nonneg (by omega)
   have b1 : 0 ≤ (c - 1).tdiv 2 ∧ (c - 1).tdiv 2 ≤ 12 := by omega
   have b2 : 0 ≤ (c - 1).tmod 2 ∧ (c - 1).tmod 2 ≤ 12 := by omega
   clear e1 e2
   repeat first|refine wV fun _=>?_|simp [go_sem, h1, h2]
theorem zdz (k s : Int) : zaL Tryz.prog 133 [.v (.int .i64 k), .v (.int .i64 s)] (.v (.int .i64 (zaF k s))) := by
 refine pF Tryz.func133 ?_
 unfold zaF
 by_cases h1 : k < 0
 ·rw [if_neg (by omega)]
  repeat first|refine wV fun _=>?_|simp [go_sem, h1]
 by_cases h2 : 6 ≤ k
 ·rw [if_neg (by omega)]
  repeat first|refine wV fun _=>?_|simp [go_sem, h1, h2]
 by_cases h3 : s < 0
 ·rw [if_neg (by omega)]
  repeat first|refine wV fun _=>?_|simp [go_sem, h1, h2, h3]
 by_cases h4 : 1 < s
 ·rw [if_neg (by omega)]
  repeat first|refine wV fun _=>?_|simp [go_sem, h1, h2, h3, h4]
 ·rw [if_pos (by omega), show 2 * k + 1 + s = 1 + 2 * k + s by omega]
  repeat first|refine wV fun _=>?_|simp [go_sem, h1, h2, h3, h4]
theorem zlv (x : Int) : zaL Tryz.prog 147 [.v (.int .i64 x)] (.v (.bool false)) := by
 refine pF Tryz.func147 ?_
 repeat first|refine wV fun _=>?_|simp [go_sem]
theorem zdt (a b : Int) : zaL Tryz.prog 92 [.v (.int .i64 a), .v (.int .i64 b)] (.v (.int .i64 (za6 a b))) := by
 refine pF Tryz.func92 ?_
 repeat first|refine wV fun _=>?_|simp [go_sem]
 refine zAs (zlv a) (by simp [go_sem]) ?_
 repeat first|refine wV fun _=>?_|simp [go_sem]
 refine zAs (zlv b) (by simp [go_sem]) ?_
 unfold za6
 by_cases h1 : a < b
 ·rw [if_pos h1]
  repeat first|refine wV fun _=>?_|simp [go_sem, h1]
 ·by_cases h2 : b < a
  ·rw [if_neg h1, if_pos h2]
   repeat first|refine wV fun _=>?_|simp [go_sem, h1, h2]
  ·rw [if_neg h1, if_neg h2]
   repeat first|refine wV fun _=>?_|simp [go_sem, h1, h2]
def orI : List Int → Int
 | [] => 0
 | x :: l => if x = 0 then orI l else x
theorem zrd (l : List Int) (hl : ze5 l) : zaL Tryz.prog 90 [zap l] (.v (.int .i64 (orI l))) := by
 refine pF Tryz.func90 ?_
 unfold ze5 at hl
 repeat first|refine wV fun _=>?_|simp [go_sem]
 refine zAr (zAv (α := Nat) (fun j => ⟨[(3, .v (.int .i64 0)), (6, zap l), (7, .v (.int .i64 l.length)), (8, .v (.int .i64 j))], [], 0⟩)
  (fun d j => j + d = l.length ∧ orI l = orI (l.drop j)) ?_ l.length 0 ?_) ?_ ?_
 ·rintro d j ⟨i1, i2⟩ hrec
  repeat first|refine wV fun _=>?_|simp [go_sem]
  refine zAt (fun hj => ?_) (fun hj => ?_) <;> simp at hj
  ·rw [zfj hj, orI] at i2
   repeat first|refine wV fun _=>?_|simp [go_sem, hj]
   by_cases h0 : nth l j = 0
   ·rw [if_pos h0] at i2
    repeat first|refine wV fun _=>?_|simp [go_sem, h0]
    refine zAr (hrec (d - 1) (by omega) (j + 1) ⟨by omega, i2⟩) ?_ (by simp)
    simp [go_sem, zaf]
   ·rw [if_neg h0] at i2
    rw [i2]
    repeat first|refine wV fun _=>?_|simp [go_sem, h0]
  ·rw [List.drop_eq_nil_of_le hj, orI] at i2
   rw [i2]
   repeat first|refine wV fun _=>?_|simp [go_sem]
 ·simp
 ·simp [go_sem, zaf]
 ·simp
theorem zeW (a b : List Int) (ha : ze5 a) (hb : ze5 b) : zaL Tryz.prog 91 [zap a, zap b] (.v (.int .i64 (zej a b))) := by
 refine pF Tryz.func91 ?_
 unfold ze5 at ha hb
 repeat first|refine wV fun _=>?_|simp [go_sem]
 refine zAr (zAv (α := Nat) (fun j => ⟨[(0, zap a), (1, zap b), (9, zap a), (10, .v (.int .i64 a.length)), (11, .v (.int .i64 j))], [], 0⟩)
  (fun d j => j + d = a.length ∧ j ≤ b.length ∧ zej a b = zej (a.drop j) (b.drop j)) ?_ a.length 0 ?_) ?_ ?_
 ·rintro d j ⟨i1, i2, i3⟩ hrec
  repeat first|refine wV fun _=>?_|simp [go_sem]
  refine zAt (fun hj => ?_) (fun hj => ?_) <;> simp at hj
  ·rw [zfj hj] at i3
   repeat first|refine wV fun _=>?_|simp [go_sem, hj]
   by_cases hk : j < b.length
   ·rw [zfj hk, zej] at i3
    have hk' : ¬ b.length ≤ j := by omega
    repeat first|refine wV fun _=>?_|simp [go_sem, hj, hk, hk']
    refine zAs (zdt _ _) (by simp [go_sem]) ?_
    by_cases he : nth a j = nth b j
    ·rw [if_pos he] at i3
     have hn : za6 (nth a j) (nth b j) = 0 := by simp [za6, he]
     rw [hn]
     repeat first|refine wV fun _=>?_|simp [go_sem]
     refine zAr (hrec (d - 1) (by omega) (j + 1) ⟨by omega, by omega, i3⟩) ?_ (by simp)
     simp [go_sem, zaf]
    ·rw [if_neg he] at i3
     have hn : za6 (nth a j) (nth b j) ≠ 0 := by unfold za6; split <;> (try split) <;> omega
     rw [i3]
     repeat first|refine wV fun _=>?_|simp [go_sem, hn]
   ·have hk' : b.length ≤ j := by omega
    rw [List.drop_eq_nil_of_le hk', zf9] at i3
    have : zej a b = 1 := by rw [i3]; unfold za6; rw [if_neg (by simp only [List.length_cons]; omega), if_pos (by simp only [List.length_cons]; omega)]
    rw [this]
    repeat first|refine wV fun _=>?_|simp [go_sem, hj, hk, hk']
  ·have hja : j = a.length := by omega
   subst hja
   rw [List.drop_eq_nil_of_le (Nat.le_refl _), zgU] at i3
   rw [i3]
   unfold za6
   by_cases hb' : a.length < b.length
   ·rw [if_pos (by simp; omega)]
    repeat first|refine wV fun _=>?_|simp [go_sem, hb']
   ·rw [if_neg (by simp; omega), if_neg (by omega)]
    repeat first|refine wV fun _=>?_|simp [go_sem, hb']
 ·simp
 ·simp [go_sem, zaf]
 ·simp
theorem zzA (p q : zah) : orI [zej p.at_ q.at_, zej p.h0 q.h0, zej p.h1 q.h1, za6 p.rights q.rights, za6 p.side q.side] = zbx p q := by
 unfold zbx
 simp only [orI]
 repeat' split
 all_goals first | rfl | omega
theorem zbG (p q : zah) (hp : zaU p) (hq : zaU q) : zaL Tryz.prog 37 [.agg (zad p), .agg (zad q)] (.v (.int .i64 (zbx p q))) := by
 refine pF Tryz.func37 ?_
 obtain ⟨p1, p2, p3⟩ := hp
 obtain ⟨q1, q2, q3⟩ := hq
 rw [← zzA]
 have c1 := zeW _ _ p1 q1
 have c2 := zeW _ _ p2 q2
 have c3 := zeW _ _ p3 q3
 have c4 := zdt p.rights q.rights
 have c5 := zdt p.side q.side
 generalize zej p.at_ q.at_ = x1 at *
 generalize zej p.h0 q.h0 = x2 at *
 generalize zej p.h1 q.h1 = x3 at *
 generalize za6 p.rights q.rights = x4 at *
 generalize za6 p.side q.side = x5 at *
 repeat first|refine wV fun _=>?_|simp [go_sem]
 refine zAu c1 (by simp [go_sem]) ?_
 repeat first|refine wV fun _=>?_|simp [go_sem]
 refine zAu c2 (by simp [go_sem]) ?_
 repeat first|refine wV fun _=>?_|simp [go_sem]
 refine zAu c3 (by simp [go_sem]) ?_
 repeat first|refine wV fun _=>?_|simp [go_sem]
 refine zAu c4 (by simp [go_sem]) ?_
 repeat first|refine wV fun _=>?_|simp [go_sem]
 refine zAu c5 (by simp [go_sem]) ?_
 repeat first|refine wV fun _=>?_|simp [go_sem]
 refine zav.frz [zap [x1, x2, x3, x4, x5]] _ [31] [(31, some (.rows false 0 1 ([x1, x2, x3, x4, x5].map zb5)))] (zrd _ (by unfold ze5; simp)) ?_ ?_ (by simp [go_sem]) ?_
 ·intro p hp
  simp only [List.mem_singleton] at hp
  subst hp
  exact ⟨by simp, 0, 1, _, rfl, by simp [upd, go_sem]⟩
 ·intro h₁ hS
  have h7 := hS 31 (by simp)
  simp [go_sem] at h7
  exact .cons (zas h7.symm (by simp) (by simp [zal, upd]) (by simp [go_sem])) .nil
 ·repeat first|refine wV fun _=>?_|simp [go_sem]
end Go.Av
end
section
/- Contracts, runs of the program: own, man, provided, and the steps. -/
open Go Go.Proofs
namespace Go.Av
def zrx (n : Nat) (s : StD) : AV := .agg [.sl (n + 2) 1 1 0 s.p.at_.length, .sl (n + 81) 1 1 0 s.p.h0.length, .sl (n + 161) 1 1 0 s.p.h1.length, .v (.int .i64 s.p.rights), .v (.int .i64 s.p.side), .v (.int .i64 s.kind), .v (.int .i64 s.cursor), .v (.bool s.took)]
def zoJ (n : Nat) (s : StD) : List (Nat × zbq) := [(n + 2, .rows true 1 1 (s.p.at_.map zb5)), (n + 81, .rows true 1 1 (s.p.h0.map zb5)), (n + 161, .rows true 1 1 (s.p.h1.map zb5))]
attribute [go_sem] zrx zoJ
theorem zg9 (s : StD) (ha : zaU s.p) : zgi Tryz.prog 132 [.agg (zan s)] (fun n => zrx n s) (fun n => zoJ n s) 241 := by
 refine ⟨zAw (by kernel_rfl) Tryz.func132 rfl rfl (Nat.le_of_ble_eq_true rfl) (by kernel_rfl) ?_, fun n => ⟨by simp [go_sem], by simp [go_sem]⟩⟩
 obtain ⟨a1, a2, a3⟩ := ha
 have h1 := zdx s.p.at_ a1
 have h2 := zdx s.p.h0 a2
 have h3 := zdx s.p.h1 a3
 repeat first|refine wV fun _=>?_|simp [go_sem]
 refine zAx h1 (by simp [go_sem]) ?_
 repeat first|refine wV fun _=>?_|simp [go_sem]
 refine zAS 81 (by rfl) (h2) (by decide) (by simp [go_sem]) (by simp [go_sem]) (fun _ => zam.refl _ _ _ _) (by simp [go_sem]) (by simp [go_sem]) ?_
 repeat first|refine wV fun _=>?_|simp [go_sem]
 refine zAS 161 (by rfl) (h3) (by decide) (by simp [go_sem]) (by simp [go_sem]) (fun _ => zam.refl _ _ _ _) (by simp [go_sem]) (by simp [go_sem]) ?_
 ((repeat (first|with_reducible (first|refine wL fun _=>?_|refine wD fun _=>?_|refine wZ ?_)|simp [go_sem])); refine zAU (by kernel_rfl) ?_)
 repeat first|refine wV fun _=>?_|simp [go_sem]
 simp [go_sem, zaf]
theorem zmO (s : StD) (hc : s.cursor.toNat < s.p.at_.length) (h0 : 0 ≤ s.cursor) : zaL Tryz.prog 299 [.agg (zan s)] (.tup [.v (.int .i64 (zao (nth s.p.at_ s.cursor.toNat)).1), .v (.int .i64 (zao (nth s.p.at_ s.cursor.toNat)).2)]) := by
 refine pF Tryz.func299 ?_
 have hO := zfq (nth s.p.at_ s.cursor.toNat)
 generalize zao (nth s.p.at_ s.cursor.toNat) = m at *
 repeat first|refine wV fun _=>?_|simp [go_sem, hc]
 refine zAs hO (by simp [go_sem]) ?_
 repeat first|refine wV fun _=>?_|simp [go_sem]
theorem zct (s : StD) (b : Bool) : zaL Tryz.prog 298 [.agg (zan s), .v (.bool b)] (za0 (zcJ s b)) := by
 refine pF Tryz.func298 ?_
 cases b
 ·repeat first|refine wV fun _=>?_|simp [go_sem, zcJ]
 ·repeat first|refine wV fun _=>?_|simp [go_sem, zcJ]
  exact frX
abbrev zkz (f : FuncId) (g : zae) (s : StD) (n : Int) (r : List StD) : Prop := zaL Tryz.prog f [.agg (zan s), .agg (zac g), .v (.int .i64 n)] (za0 r)
section
variable (g : zae) (hg : GOk g) (s : StD) (hs : ze7 g s) (n : Int)
theorem zwz (hg : GOk g) : zkz 264 g s n (zcJ { s with cursor := toB g.board s.p.side n s.cursor } (decide (0 ≤ toB g.board s.p.side n s.cursor))) := by
 refine pF Tryz.func264 ?_
 have hT := ziF g.board hg.board s.p.side n s.cursor
 have hP := zct { s with cursor := toB g.board s.p.side n s.cursor }
 repeat first|refine wV fun _=>?_|simp [go_sem]
 refine zAs hT (by simp [go_sem]) ?_
 repeat first|refine wV fun _=>?_|simp [go_sem]
 refine zAs (hP _) (by simp [go_sem]) ?_
 repeat first|refine wV fun _=>?_|simp [go_sem]
theorem ztF (hg : GOk g) (hs : ze7 g s) : zkz 265 g s n (zkc g.board s n) := by
 refine pF Tryz.func265 ?_
 have hL := zk8 g.board hg.board s.p.side n s.cursor
 have hlm := zeq hg.board (side := s.p.side) (d := n) (c := s.cursor)
 have hll := zjJ (b := g.board) (side := s.p.side) (d := n) (c := s.cursor)
 have c9 := hg.c9
 have c1 := hg.c1
 have hal := hs.p.al
 rw [show g.board.cells = g.cells from rfl] at hlm hll
 unfold zkc
 generalize zft g.board s.p.side n s.cursor = line at *
 generalize hR : zbL s line = R
 repeat first|refine wV fun _=>?_|simp [go_sem]
 refine zAs hL (by simp [go_sem]) ?_
 repeat first|refine wV fun _=>?_|simp [go_sem]
 refine zAr (zAv (α := Nat × List StD) (fun a => ⟨[(3, .ref 0 0 8 0 0), (7, .sl 2 a.2.length 8 0 a.2.length), (19, zap line), (20, .v (.int .i64 line.length)), (21, .v (.int .i64 a.1))], [(0, .rows true 0 8 [zan s]), (2, .rows true a.2.length 8 (a.2.map zan))], 3⟩)
  (fun d a => a.1 + d = line.length ∧ a.2.length = a.1 ∧ R = a.2 ++ zbL s (line.drop a.1)) ?_ line.length (0, []) ?_) ?_ ?_
 ·rintro d ⟨i, out⟩ ⟨i1, i2, i3⟩ hrec
  simp only at i1 i2 i3
  repeat first|refine wV fun _=>?_|simp [go_sem]
  refine zAt (fun hi => ?_) (fun hi => ?_) <;> simp at hi
  ·have hli := hlm _ (zaj hi)
   have hlt : (nth line i).toNat < s.p.at_.length := by omega
   rw [zaH hi, zbL] at i3
   repeat first|refine wV fun _=>?_|simp [go_sem, hi, hlt]
   refine zAt (fun hz => ?_) (fun hz => ?_) <;> simp at hz
   ·rw [if_neg (by simpa using hz)] at i3
    repeat first|refine wV fun _=>?_|simp [go_sem]
    rw [i3]
    exact frX
   ·rw [if_pos (by simpa using hz)] at i3
    repeat first|refine wV fun _=>?_|simp [go_sem]
    refine zAr (hrec (d - 1) (by omega) (i + 1, out ++ [{ s with cursor := nth line i }]) ⟨by simp only; omega, by simp; omega, by simpa using i3⟩) ?_ (by simp)
    simp [go_sem, zaf]
  ·rw [List.drop_eq_nil_of_le hi, zbL] at i3
   repeat first|refine wV fun _=>?_|simp [go_sem]
   rw [i3]
   exact frX
 ·simp [hR]
 ·simp [go_sem, zaf]
 ·simp
theorem zoy (hg : GOk g) (hs : ze7 g s) : s.cursor.toNat < s.p.at_.length ∧ 0 ≤ s.cursor ∧ (nth s.p.at_ s.cursor.toNat = 0 ∧ zao (nth s.p.at_ s.cursor.toNat) = (-1, -1) ∨ nth s.p.at_ s.cursor.toNat ≠ 0 ∧ 0 ≤ (zao (nth s.p.at_ s.cursor.toNat)).1 ∧ (zao (nth s.p.at_ s.cursor.toNat)).1 < g.kinds.length ∧
  ((zao (nth s.p.at_ s.cursor.toNat)).2 = 0 ∨ (zao (nth s.p.at_ s.cursor.toNat)).2 = 1)) ∧ (s.p.side = 0 ∨ s.p.side = 1) := by
 have hal := hs.p.al
 have hc0 := hs.c0
 have hc1 := hs.c1
 have hcur : s.cursor.toNat < s.p.at_.length := by omega
 have hat := hs.p.at (i := s.cursor.toNat) (by omega)
 have hman := zaR hat.1 hat.2 hg.k6
 refine ⟨hcur, hc0, ?_, hs.p.s⟩
 rcases hman with ⟨h1, h2⟩ | ⟨h1, h2, h3, h4, _⟩
 ·exact .inl ⟨h1, h2⟩
 ·exact .inr ⟨h1, h2, h3, h4⟩
theorem zsT (hg : GOk g) (hs : ze7 g s) : zkz 266 g s n (zcJ s (decide ((zao (nth s.p.at_ s.cursor.toNat)).1 < 0))) := by
 refine pF Tryz.func266 ?_
 obtain ⟨hcur, h0, hm, hsd⟩ := zoy g s hg hs
 have e : decide ((zao (nth s.p.at_ s.cursor.toNat)).1 < 0) = decide (nth s.p.at_ s.cursor.toNat = 0) := by
  rcases hm with ⟨h1, h2⟩ | ⟨h1, h2, _, _⟩
  ·rw [h2]; simp [h1]
  ·simp; omega
 rw [e]
 have hP := zct s
 repeat first|refine wV fun _=>?_|simp [go_sem, hcur]
 refine zAu (hP _) (by simp [go_sem]) ?_
 repeat first|refine wV fun _=>?_|simp [go_sem]
theorem zsV (hg : GOk g) (hs : ze7 g s) : zkz 267 g s n (zcJ s (decide (0 ≤ (zao (nth s.p.at_ s.cursor.toNat)).1 ∧ (zao (nth s.p.at_ s.cursor.toNat)).2 ≠ s.p.side))) := by
 refine pF Tryz.func267 ?_
 obtain ⟨hcur, h0, hm, hsd⟩ := zoy g s hg hs
 have hO := zmO s hcur h0
 have hP := zct s
 have e : decide (0 ≤ (zao (nth s.p.at_ s.cursor.toNat)).1 ∧ (zao (nth s.p.at_ s.cursor.toNat)).2 ≠ s.p.side) = decide ((zao (nth s.p.at_ s.cursor.toNat)).2 = 1 - s.p.side) := by
  rcases hm with ⟨h1, h2⟩ | ⟨h1, h2, _, _⟩
  ·rw [h2]; simp; omega
  ·simp only [decide_eq_decide]; omega
 rw [e]
 generalize zao (nth s.p.at_ s.cursor.toNat) = m at *
 repeat first|refine wV fun _=>?_|simp [go_sem]
 refine zAs hO (by simp [go_sem]) ?_
 repeat first|refine wV fun _=>?_|simp [go_sem]
 refine zAs (hP _) (by simp [go_sem]) ?_
 repeat first|refine wV fun _=>?_|simp [go_sem]
theorem zp7 (hg : GOk g) (hs : ze7 g s) : zkz 268 g s n (zcJ s (decide (0 ≤ (zao (nth s.p.at_ s.cursor.toNat)).1 ∧ (zao (nth s.p.at_ s.cursor.toNat)).2 = s.p.side))) := by
 refine pF Tryz.func268 ?_
 obtain ⟨hcur, h0, hm, hsd⟩ := zoy g s hg hs
 have hO := zmO s hcur h0
 have hP := zct s
 have e : decide (0 ≤ (zao (nth s.p.at_ s.cursor.toNat)).1 ∧ (zao (nth s.p.at_ s.cursor.toNat)).2 = s.p.side) = decide ((zao (nth s.p.at_ s.cursor.toNat)).2 = s.p.side) := by
  rcases hm with ⟨h1, h2⟩ | ⟨h1, h2, _, _⟩
  ·rw [h2]; simp; omega
  ·simp only [decide_eq_decide]; omega
 rw [e]
 generalize zao (nth s.p.at_ s.cursor.toNat) = m at *
 repeat first|refine wV fun _=>?_|simp [go_sem]
 refine zAs hO (by simp [go_sem]) ?_
 repeat first|refine wV fun _=>?_|simp [go_sem]
 refine zAs (hP _) (by simp [go_sem]) ?_
 repeat first|refine wV fun _=>?_|simp [go_sem]
theorem zwq (hg : GOk g) (hs : ze7 g s) : zkz 269 g s n (zmZ g s) := by
 refine pF Tryz.func269 ?_
 obtain ⟨hcur, h0, hm, hsd⟩ := zoy g s hg hs
 have hO := zmO s hcur h0
 have hP := zct
 have hcp := zg9 s (hs.p.fits hg)
 unfold zmZ
 generalize hme : zao (nth s.p.at_ s.cursor.toNat) = m at *
 obtain ⟨mk, ms⟩ := m
 simp only [Prod.mk.injEq] at hm
 repeat first|refine wV fun _=>?_|simp [go_sem]
 refine zAs hO (by simp [go_sem]) ?_
 repeat first|refine wV fun _=>?_|simp [go_sem]
 refine zAt (fun hc => ?_) (fun hc => ?_) <;> simp at hc
 ·rw [if_pos (by omega)]
  repeat first|refine wV fun _=>?_|simp [go_sem]
 ·rw [if_neg (by omega)]
  repeat first|refine wV fun _=>?_|simp [go_sem]
  refine zAx hcp (by simp [go_sem]) ?_
  have hmk : mk.toNat < g.kinds.length := by omega
  have hmk' : 0 ≤ mk := by omega
  repeat first|refine wV fun _=>?_|simp [go_sem, hcur, hmk]
  refine zAt (fun hk => ?_) (fun hk => ?_)
  ·rw [if_neg (by simpa using hk)]
   repeat first|refine wV fun _=>?_|simp [go_sem, clr]
   (first|done|exact dpX)
  ·rw [if_pos (by simpa using hk)]
   have hl0 := hs.p.h0.len
   have hl1 := hs.p.h1.len
   rcases hsd with hsd | hsd
   ·have hmk0 : mk.toNat < s.p.h0.length := by omega
    have hv := hs.p.h0.v _ hmk0
    obtain ⟨u, hu⟩ : ∃ u : StD, u = { s with p := (clr s.p s.cursor).withHand s.p.side ((s.p.hand s.p.side).set mk.toNat (nth (s.p.hand s.p.side) mk.toNat + 1)), took := true } := ⟨_, rfl⟩
    have hres : (if 8 < nth (s.p.hand s.p.side) mk.toNat + 1 then [] else [u]) = zcJ u (decide (nth s.p.h0 mk.toNat + 1 ≤ 8)) := by
     have : s.p.hand s.p.side = s.p.h0 := by simp [zah.hand, hsd]
     rw [this]
     unfold zcJ
     by_cases h8 : 8 < nth s.p.h0 mk.toNat + 1
     ·rw [if_pos h8, if_neg (by simp; omega)]
     ·rw [if_neg h8, if_pos (by simp; omega)]
    rw [← hu, hres]
    have hue : zan u = [.lst 1 ((s.p.at_.map zb5).set s.cursor.toNat [.v (.int .i64 0)]), .lst 1 ((s.p.h0.map zb5).set mk.toNat [.v (.int .i64 (nth s.p.h0 mk.toNat + 1))]), .lst 1 (s.p.h1.map zb5), .v (.int .i64 s.p.rights), .v (.int .i64 s.p.side), .v (.int .i64 s.kind), .v (.int .i64 s.cursor), .v (.bool true)] := by
     rw [hu]; simp [zan, zah.withHand, zah.hand, clr, hsd, zap, zb5, List.map_set]
    have hP' := hP u
    rw [hue, hsd] at hP'
    (repeat (first|with_reducible (first|refine wL fun _=>?_|refine wD fun _=>?_|refine wE ?_)|simp [go_sem, hsd, hmk0, hcur]))
    refine znq.frz (za5 _ [4, 83, 163]) (zcU _ _) ?_
    repeat first|refine wV fun _=>?_|simp [go_sem, hsd, hmk0, hcur, za5, zbb]
    refine zav.frz _ _ [4, 83, 163] [] (hP' (decide (nth s.p.h0 mk.toNat + 1 ≤ 8))) (by simp) ?_ (by simp [go_sem]) ?_
    ·intro h₁ hS
     have e4 := hS 4 (by simp)
     have e5 := hS 83 (by simp)
     have e6 := hS 163 (by simp)
     simp [upd, za5, zbb] at e4 e5 e6
     refine .cons (.agg (.cons (zas e4.symm (by simp) (by simp [zal, ← e4]) (by simp; exact List.take_of_length_le (by simp))) (.cons (zas e5.symm (by simp) (by simp [zal, ← e5]) (by simp; exact List.take_of_length_le (by simp))) (.cons (zas e6.symm (by simp) (by simp [zal, ← e6]) (by simp; exact List.take_of_length_le (by simp))) (.refl _ _ _ _))))) (.refl _ _ _ _)
    ·repeat first|refine wV fun _=>?_|simp [go_sem]
   ·have hmk0 : mk.toNat < s.p.h1.length := by omega
    have hv := hs.p.h1.v _ hmk0
    obtain ⟨u, hu⟩ : ∃ u : StD, u = { s with p := (clr s.p s.cursor).withHand s.p.side ((s.p.hand s.p.side).set mk.toNat (nth (s.p.hand s.p.side) mk.toNat + 1)), took := true } := ⟨_, rfl⟩
    have hres : (if 8 < nth (s.p.hand s.p.side) mk.toNat + 1 then [] else [u]) = zcJ u (decide (nth s.p.h1 mk.toNat + 1 ≤ 8)) := by
     have : s.p.hand s.p.side = s.p.h1 := by simp [zah.hand, hsd]
     rw [this]
     unfold zcJ
     by_cases h8 : 8 < nth s.p.h1 mk.toNat + 1
     ·rw [if_pos h8, if_neg (by simp; omega)]
     ·rw [if_neg h8, if_pos (by simp; omega)]
    rw [← hu, hres]
    have hue : zan u = [.lst 1 ((s.p.at_.map zb5).set s.cursor.toNat [.v (.int .i64 0)]), .lst 1 (s.p.h0.map zb5), .lst 1 ((s.p.h1.map zb5).set mk.toNat [.v (.int .i64 (nth s.p.h1 mk.toNat + 1))]), .v (.int .i64 s.p.rights), .v (.int .i64 s.p.side), .v (.int .i64 s.kind), .v (.int .i64 s.cursor), .v (.bool true)] := by
     rw [hu]; simp [zan, zah.withHand, zah.hand, clr, hsd, zap, zb5, List.map_set]
    have hP' := hP u
    rw [hue, hsd] at hP'
    (repeat (first|with_reducible (first|refine wL fun _=>?_|refine wD fun _=>?_|refine wE ?_)|simp [go_sem, hsd, hmk0, hcur]))
    refine znq.frz (za5 _ [4, 83, 163]) (zcU _ _) ?_
    repeat first|refine wV fun _=>?_|simp [go_sem, hsd, hmk0, hcur, za5, zbb]
    refine zav.frz _ _ [4, 83, 163] [] (hP' (decide (nth s.p.h1 mk.toNat + 1 ≤ 8))) (by simp) ?_ (by simp [go_sem]) ?_
    ·intro h₁ hS
     have e4 := hS 4 (by simp)
     have e5 := hS 83 (by simp)
     have e6 := hS 163 (by simp)
     simp [upd, za5, zbb] at e4 e5 e6
     refine .cons (.agg (.cons (zas e4.symm (by simp) (by simp [zal, ← e4]) (by simp; exact List.take_of_length_le (by simp))) (.cons (zas e5.symm (by simp) (by simp [zal, ← e5]) (by simp; exact List.take_of_length_le (by simp))) (.cons (zas e6.symm (by simp) (by simp [zal, ← e6]) (by simp; exact List.take_of_length_le (by simp))) (.refl _ _ _ _))))) (.refl _ _ _ _)
    ·repeat first|refine wV fun _=>?_|simp [go_sem]
theorem zwb (hg : GOk g) (hs : ze7 g s) : zkz 270 g s n (zmV g s n) := by
 refine pF Tryz.func270 ?_
 have hT := ziF g.board hg.board s.p.side n s.cursor
 have hal := hs.p.al
 have hc0 := hs.c0
 have hc1 := hs.c1
 have hcur : s.cursor.toNat < s.p.at_.length := by omega
 have hcp := zg9 s (hs.p.fits hg)
 have hto := zfE hg.board s.p.side n s.cursor
 rw [show g.board.cells = g.cells from rfl] at hto
 unfold zmV
 generalize toB g.board s.p.side n s.cursor = to at *
 repeat first|refine wV fun _=>?_|simp [go_sem]
 refine zAs hT (by simp [go_sem]) ?_
 by_cases ht : to < 0
 ·rw [if_pos (.inr (.inl ht))]
  have ht0 : to.toNat = 0 := by omega
  have h0l : 0 < s.p.at_.length := by omega
  repeat first|refine wV fun _=>?_|simp [go_sem, hcur, ht, ht0, h0l]
 ·have htl : to.toNat < s.p.at_.length := by omega
  have ht' : 0 ≤ to := by omega
  repeat first|refine wV fun _=>?_|simp [go_sem, hcur, ht, htl]
  refine zAt (fun hc => ?_) (fun hc => ?_) <;> simp at hc
  ·rw [if_pos (by by_cases h : nth s.p.at_ s.cursor.toNat = 0; exact .inl h; exact .inr (hc.resolve_left h))]
   repeat first|refine wV fun _=>?_|simp [go_sem]
  ·rw [if_neg (by rintro (h | h); exact hc.1 h; exact h hc.2)]
   repeat first|refine wV fun _=>?_|simp [go_sem, hcur]
   refine zAx hcp (by simp [go_sem]) ?_
   repeat first|refine wV fun _=>?_|simp [go_sem, hcur, htl]
   (first|done|exact dpX)
theorem zpR : zkz 271 g s n [{ s with kind := n }] := by
 refine pF Tryz.func271 ?_
 repeat first|refine wV fun _=>?_|simp [go_sem]
 exact frX
theorem zvV (h0 : 0 ≤ n) (h4 : n < 64) : zkz 272 g s n (zcJ s (decide (zit .i64 (s.p.rights.fdiv (2 ^ n.toNat)) 1 = 1))) := by
 refine pF Tryz.func272 ?_
 have hP := zct s
 repeat first|refine wV fun _=>?_|simp [go_sem]
 refine zAu (hP _) (by simp [go_sem]) ?_
 repeat first|refine wV fun _=>?_|simp [go_sem]
theorem zvI (h0 : 0 ≤ n) (h4 : n ≤ 4) : zkz 273 g s n [{ s with p := { s.p with rights := zbZ .i64 s.p.rights (2 ^ n.toNat) } }] := by
 refine pF Tryz.func273 ?_
 have hpn := ziR h0 h4
 repeat first|refine wV fun _=>?_|simp [go_sem]
 exact frX
end
end Go.Av
end
section
open Go Go.Proofs
namespace Go.Av
theorem zwo (g : zae) (hg : GOk g) (s : StD) (hs : ze7 g s) (x : Int × Int) (hx : zeg g.next.length g.kinds.length g.rights x) :
  zaL Tryz.prog 228 [.agg (zac g), .agg (zan s), .agg (zaA x)] (za0 (zbU g s x)) := by
 refine pF Tryz.func228 ?_
 have r4 := hg.r4
 obtain ⟨op, n⟩ := x
 obtain ⟨xo, xd, xz, xk, xr⟩ := hx
 simp only at xo xd xz xk xr
 rcases (show op = 1 ∨ op = 2 ∨ op = 3 ∨ op = 4 ∨ op = 5 ∨ op = 6 ∨ op = 7 ∨ op = 8 ∨ op = 9 ∨ op = 10 by omega) with rfl | rfl | rfl | rfl | rfl | rfl | rfl | rfl | rfl | rfl
 ·have hS := zwz g s n hg
  repeat first|refine wV fun _=>?_|simp [go_sem]
  refine zAu hS (by simp [go_sem]) ?_
  repeat first|refine wV fun _=>?_|simp [go_sem]
  exact zAE (by simp [zbU, za0, zan, zap])
 ·have hS := ztF g s n hg hs
  repeat first|refine wV fun _=>?_|simp [go_sem]
  refine zAu hS (by simp [go_sem]) ?_
  repeat first|refine wV fun _=>?_|simp [go_sem]
  exact zAE (by simp [zbU, za0, zan, zap])
 ·have hS := zsT g s n hg hs
  repeat first|refine wV fun _=>?_|simp [go_sem]
  refine zAu hS (by simp [go_sem]) ?_
  repeat first|refine wV fun _=>?_|simp [go_sem]
  exact zAE (by simp [zbU, za0, zan, zap])
 ·have hS := zsV g s n hg hs
  repeat first|refine wV fun _=>?_|simp [go_sem]
  refine zAu hS (by simp [go_sem]) ?_
  repeat first|refine wV fun _=>?_|simp [go_sem]
  exact zAE (by simp [zbU, za0, zan, zap])
 ·have hS := zp7 g s n hg hs
  repeat first|refine wV fun _=>?_|simp [go_sem]
  refine zAu hS (by simp [go_sem]) ?_
  repeat first|refine wV fun _=>?_|simp [go_sem]
  exact zAE (by simp [zbU, za0, zan, zap])
 ·have hS := zwq g s n hg hs
  repeat first|refine wV fun _=>?_|simp [go_sem]
  refine zAu hS (by simp [go_sem]) ?_
  repeat first|refine wV fun _=>?_|simp [go_sem]
  exact zAE (by simp [zbU, za0, zan, zap])
 ·have hS := zwb g s n hg hs
  repeat first|refine wV fun _=>?_|simp [go_sem]
  refine zAu hS (by simp [go_sem]) ?_
  repeat first|refine wV fun _=>?_|simp [go_sem]
  exact zAE (by simp [zbU, za0, zan, zap])
 ·have hS := zpR g s n
  repeat first|refine wV fun _=>?_|simp [go_sem]
  refine zAu hS (by simp [go_sem]) ?_
  repeat first|refine wV fun _=>?_|simp [go_sem]
  exact zAE (by simp [zbU, za0, zan, zap])
 ·have hn := xr (by omega)
  have hS := zvV g s n hn.1 (by omega)
  repeat first|refine wV fun _=>?_|simp [go_sem]
  refine zAu hS (by simp [go_sem]) ?_
  repeat first|refine wV fun _=>?_|simp [go_sem]
  exact zAE (by simp [zbU, za0, zan, zap])
 ·have hn := xr (by omega)
  have hS := zvI g s n hn.1 (by omega)
  repeat first|refine wV fun _=>?_|simp [go_sem]
  refine zAu hS (by simp [go_sem]) ?_
  repeat first|refine wV fun _=>?_|simp [go_sem]
  exact zAE (by simp [zbU, za0, zan, zap])
end Go.Av
end
section
namespace Go.Av
open Go
theorem zaa.clear {P : Program} {f : FuncId} {args : List AV} {h : zar} {n : Nat} {K : zcF}
  (hc : zaa P f args h n (fun r h' n' => ∃ o mt g sz rs, sz ≠ 2 ∧ h' o = some (.rows mt g sz rs) ∧ K r (upd h' o (some (.rows mt g sz []))) n')) : zaa P f args h n K := by
 refine ⟨hc.1, fun M0 φ w vs hH hargs => (hc.2 M0 φ w vs hH hargs).mono ?_⟩
 rintro e w' ⟨v, φ', r, h', n', rfl, ⟨o, mt, g, sz, rs, hsz, ho, hK⟩, hH', hx, st⟩
 have hmut : Mut φ' (upd h' o (some (.rows mt g sz []))) = Mut φ' h' := by
  funext k
  refine propext ⟨?_, ?_⟩
  ·rintro ⟨o1, g1, sz1, rs1, g', a, bs, h1, h2, h3⟩
   by_cases he : o1 = o
   ·subst he
    rw [zax] at h1
    simp only [Option.some.injEq, zbq.rows.injEq] at h1
    obtain ⟨rfl, rfl, rfl, _⟩ := h1
    exact ⟨o1, g, sz, rs, g', a, bs, ho, h2, h3⟩
   ·rw [zbp _ _ he] at h1
    exact ⟨o1, g1, sz1, rs1, g', a, bs, h1, h2, h3⟩
  ·rintro ⟨o1, g1, sz1, rs1, g', a, bs, h1, h2, h3⟩
   by_cases he : o1 = o
   ·subst he
    rw [ho] at h1
    simp only [Option.some.injEq, zbq.rows.injEq] at h1
    obtain ⟨rfl, rfl, rfl, _⟩ := h1
    exact ⟨o1, g, sz, [], g', a, bs, by rw [zax], h2, h3⟩
   ·exact ⟨o1, g1, sz1, rs1, g', a, bs, by rw [zbp _ _ he]; exact h1, h2, h3⟩
 have hold : ∀ o1 mt1 g1 sz1 rs1, upd h' o (some (.rows mt g sz [])) o1 = some (.rows mt1 g1 sz1 rs1) → ∃ rs2, h' o1 = some (.rows mt1 g1 sz1 rs2) ∧ (rs1 = rs2 ∨ rs1 = []) := by
  intro o1 mt1 g1 sz1 rs1 h1
  by_cases he : o1 = o
  ·subst he
   rw [zax] at h1
   simp only [Option.some.injEq, zbq.rows.injEq] at h1
   obtain ⟨rfl, rfl, rfl, rfl⟩ := h1
   exact ⟨rs, ho, .inr rfl⟩
  ·rw [zbp _ _ he] at h1
   exact ⟨rs1, h1, .inl rfl⟩
 refine ⟨v, φ', r, _, n', rfl, hK, ⟨hH'.m0, hH'.fresh, fun o1 mt1 g1 sz1 rs1 h1 => ?_, fun o1 o2 mt1 g1 sz1 rs1 mt2 g2 sz2 rs2 a a' b b' h1 h2 => ?_, by rw [hmut]; exact hH'.glob⟩, by rw [hmut]; exact hx, st.le, by rw [hmut]; exact st.or, st.fr, by rw [hmut]; exact st.mutd⟩
 ·obtain ⟨rs2, h2, h3⟩ := hold _ _ _ _ _ h1
  obtain ⟨A, hA, hobj⟩ := hH'.obj _ _ _ _ _ h2
  rcases h3 with rfl | rfl
  ·rw [hmut]; exact ⟨A, hA, hobj⟩
  ·by_cases he : o1 = o
   ·subst he
    rw [ho] at h2
    simp only [Option.some.injEq, zbq.rows.injEq] at h2
    obtain ⟨rfl, rfl, rfl, rfl⟩ := h2
    refine ⟨A, hA, hobj.imp (fun h => ⟨h.1, rfl⟩) ?_⟩
    rintro ⟨a, bs, e1, e3, ⟨C, T, e2, e4, e5, e6, e7, e8, e9⟩ | ⟨es, clk, e2, e4, e5, e6, e9⟩⟩
    ·exact ⟨a, bs, e1, e3, .inl ⟨C, T, e2, e4, e5, by simp, by simp; omega, by simp, by simpa using zaI.nil⟩⟩
    ·exact absurd e6.1 hsz
   ·rw [zbp _ _ he] at h1
    rw [h1] at h2
    simp only [Option.some.injEq, zbq.rows.injEq] at h2
    obtain ⟨_, _, _, rfl⟩ := h2
    rw [hmut]; exact ⟨A, hA, hobj⟩
 ·obtain ⟨rs3, h3, _⟩ := hold _ _ _ _ _ h1
  obtain ⟨rs4, h4, _⟩ := hold _ _ _ _ _ h2
  exact hH'.inj _ _ _ _ _ _ _ _ _ _ _ _ _ _ h3 h4
end Go.Av
end
section
open Go Go.Proofs
namespace Go.Av
theorem zrS (m : Int) (h0 : 0 ≤ m) (h1 : m ≤ 17179869184) : zgi Tryz.prog 209 [zAz, .v (.int .i64 m)] (fun n => .sl n 0 1 0 0) (fun n => [(n, .rows true 0 1 [])]) 1 := by
 refine ⟨?_, fun n => ⟨by simp [go_sem], by simp [go_sem]⟩⟩
 by_cases hm : m = 0
 ·subst hm
  refine zAw (by kernel_rfl) Tryz.func209 rfl rfl (Nat.le_of_ble_eq_true rfl) (by kernel_rfl) ?_
  repeat first|refine wV fun _=>?_|simp [go_sem]
  simp [go_sem, zaf]
 ·refine zaa.clear ?_
  refine zAw (by kernel_rfl) Tryz.func209 rfl rfl (Nat.le_of_ble_eq_true rfl) (by kernel_rfl) ?_
  repeat first|refine wV fun _=>?_|simp [go_sem]
  (refine zAt (fun hF => by first | omega | (simp at hF; omega)) (fun hF => ?_); clear hF)
  repeat first|refine wV fun _=>?_|simp [go_sem]
  (refine zAt (fun hT => ?_) (fun hT => by first | omega | (simp at hT; omega)); clear hT)
  repeat first|refine wV fun _=>?_|simp [go_sem]
  refine ⟨0, 0, 1, by decide, ⟨rfl, rfl, rfl⟩, ?_⟩
  simp [go_sem, zaf]
theorem zm6 (a b c d : List Int) (ha : a.length ≤ 1000) (hb : b.length ≤ 1000) (hc : c.length ≤ 1000) (hd : d.length ≤ 1000) : zaL Tryz.prog 157 [.lst 1 [[zap a], [zap b], [zap c], [zap d]]] (zap (a ++ b ++ c ++ d)) := by
 refine pF Tryz.func157 ?_
 repeat first|refine wV fun _=>?_|simp [go_sem]
 refine zAA ?_
 repeat first|refine wV fun _=>?_|simp [go_sem]
 (refine zAt (fun hF => by first | omega | (simp at hF; omega)) (fun hF => ?_); clear hF)
 repeat first|refine wV fun _=>?_|simp [go_sem]
 refine zAA ?_
 repeat first|refine wV fun _=>?_|simp [go_sem]
 (refine zAt (fun hF => by first | omega | (simp at hF; omega)) (fun hF => ?_); clear hF)
 repeat first|refine wV fun _=>?_|simp [go_sem]
 refine zAA ?_
 repeat first|refine wV fun _=>?_|simp [go_sem]
 (refine zAt (fun hF => by first | omega | (simp at hF; omega)) (fun hF => ?_); clear hF)
 repeat first|refine wV fun _=>?_|simp [go_sem]
 refine zAA ?_
 repeat first|refine wV fun _=>?_|simp [go_sem]
 (refine zAt (fun hF => by first | omega | (simp at hF; omega)) (fun hF => ?_); clear hF)
 repeat first|refine wV fun _=>?_|simp [go_sem]
 refine zAA ?_
 repeat first|refine wV fun _=>?_|simp [go_sem]
 refine zAx (zrS _ (by omega) (by omega)) (by simp [go_sem]) ?_
 repeat first|refine wV fun _=>?_|simp [go_sem]
 refine zAA ?_
 repeat first|refine wV fun _=>?_|simp [go_sem]
 refine zAA ?_
 repeat first|refine wV fun _=>?_|simp [go_sem]
 refine zAA ?_
 repeat first|refine wV fun _=>?_|simp [go_sem]
 refine zAA ?_
 repeat first|refine wV fun _=>?_|simp [go_sem]
 refine zAA ?_
 repeat first|refine wV fun _=>?_|simp [go_sem]
 exact frX

theorem znK : ∀ l : List Int, zd6 (l.map znY) = some l
 | [] => rfl
 | n :: l => by rw [List.map_cons, znY, zd6, znK l]; rfl
def zq3 (p : zah) : List Int := p.at_ ++ p.h0 ++ p.h1 ++ [p.rights, p.side]
def zyM (p : zah) : ByteArray := zew (zq3 p)
theorem zwK (p : zah) (ha : p.at_.length ≤ 100) (hb : p.h0.length ≤ 100) (hc : p.h1.length ≤ 100) (hv : ∀ x ∈ zq3 p, 0 ≤ x ∧ x ≤ 255) : zaL Tryz.prog 107 [.agg (zad p)] (.v (.string (zyM p))) := by
 refine pF Tryz.func107 ?_
 have hC : zaL Tryz.prog 157 [.lst 1 [[.lst 1 (p.at_.map zb5)], [.lst 1 (p.h0.map zb5)], [.lst 1 (p.h1.map zb5)], [.lst 1 [[.v (.int .i64 p.rights)], [.v (.int .i64 p.side)]]]]] (zap (p.at_ ++ p.h0 ++ p.h1 ++ [p.rights, p.side])) :=
  zm6 p.at_ p.h0 p.h1 [p.rights, p.side] (by omega) (by omega) (by omega) (by simp)
 have hll : (zq3 p).length ≤ 302 := by simp [zq3]; omega
 unfold zyM
 rw [show p.at_ ++ p.h0 ++ p.h1 ++ [p.rights, p.side] = zq3 p from rfl] at hC
 generalize zq3 p = l at *
 repeat first|refine wV fun _=>?_|simp [go_sem]
 refine zAy [1, 2] hC ?_ (by simp [go_sem]) ?_
 ·(first|done|exact leX)
 repeat first|refine wV fun _=>?_|simp [go_sem]
 refine zAr (zAv (α := Nat) (fun i => ⟨[(3, .sl 3 i 1 0 i), (20, zap l), (21, .v (.int .i64 l.length)), (22, .v (.int .i64 i))], [(3, .rows true i 1 ((l.take i).map znY))], 4⟩)
  (fun d i => i + d = l.length) ?_ l.length 0 ?_) ?_ ?_
 ·rintro d i i1 hrec
  repeat first|refine wV fun _=>?_|simp [go_sem]
  refine zAt (fun hi => ?_) (fun hi => ?_) <;> simp at hi
  ·have hx := hv _ (zaj hi)
   have hem : (nth l i).emod 256 = nth l i := Int.emod_eq_of_lt hx.1 (by omega)
   have hem2 : nth l i % 256 = nth l i := hem
   repeat first|refine wV fun _=>?_|simp [go_sem, hi, hem, hem2]
   refine zAr (hrec (d - 1) (by omega) (i + 1) (by omega)) ?_ (by simp)
   rw [List.take_add_one, List.getElem?_eq_getElem hi, ← zaC _ _ hi]
   simp [go_sem, zaf, znY, hem, hem2]
   intro x hx c hc
   obtain ⟨y, _, rfl⟩ := List.mem_map.1 (List.mem_of_mem_take hx)
   simp only [znY, List.mem_singleton] at hc
   subst hc
   exact .v _
  ·have hb : zd6 (List.take i (List.map znY l)) = some l := by rw [List.take_of_length_le (by simp; omega)]; exact znK l
   have hb2 : zd6 (List.take i (List.take i (List.map znY l))) = some l := by rw [List.take_take, Nat.min_self]; exact hb
   repeat first|refine wV fun _=>?_|simp [go_sem, hb, hb2]
 ·omega
 ·simp [go_sem, zaf]
 ·simp
def zjs (n : Int) : ByteArray := zew [48 + n]
theorem zqD (n : Int) (h0 : 0 ≤ n) (h1 : n < 10) : zaL Tryz.prog 328 [.v (.int .i64 n)] (.v (.string (zjs n))) := by
 refine pF Tryz.func328 ?_
 rcases (show n = 0 ∨ n = 1 ∨ n = 2 ∨ n = 3 ∨ n = 4 ∨ n = 5 ∨ n = 6 ∨ n = 7 ∨ n = 8 ∨ n = 9 by omega) with rfl | rfl | rfl | rfl | rfl | rfl | rfl | rfl | rfl | rfl <;> ((repeat (first|refine wV fun _=>?_|simp [go_sem]))) <;> exact zAE (by kernel_rfl)
theorem zoR (n : Int) (h0 : 0 ≤ n) (h1 : n < 10) : zaL Tryz.prog 312 [.v (.int .i64 n), .v (.int .i64 10)] (.v (.string (zjs n))) := by
 refine pF Tryz.func312 ?_
 have hS := zqD n h0 h1
 have h1' : n < 100 := by omega
 repeat first|refine wV fun _=>?_|simp [go_sem, h0, h1']
 refine zAs hS (by simp [go_sem]) ?_
 repeat first|refine wV fun _=>?_|simp [go_sem]
theorem ztE (n : Int) (h0 : 0 ≤ n) (h1 : n < 10) : zaL Tryz.prog 300 [.v (.int .i64 n)] (.v (.string (zjs n))) := by
 refine pF Tryz.func300 ?_
 have hS := zoR n h0 h1
 repeat first|refine wV fun _=>?_|simp [go_sem]
 refine zAs hS (by simp [go_sem]) ?_
 repeat first|refine wV fun _=>?_|simp [go_sem]
theorem zm9 (n : Int) (h0 : 0 ≤ n) (h1 : n < 10) : zaL Tryz.prog 274 [.v (.int .i64 n)] (.v (.string (zjs n))) := by
 refine pF Tryz.func274 ?_
 have hS := ztE n h0 h1
 repeat first|refine wV fun _=>?_|simp [go_sem]
 refine zAs hS (by simp [go_sem]) ?_
 repeat first|refine wV fun _=>?_|simp [go_sem]
theorem ztD (b : Bool) : zaL Tryz.prog 301 [.v (.bool b)] (.v (.string (if b then zew [116, 114, 117, 101] else zew [102, 97, 108, 115, 101]))) := by
 refine pF Tryz.func301 ?_
 cases b
 ·repeat first|refine wV fun _=>?_|simp [go_sem]
  exact zAE (by kernel_rfl)
 ·repeat first|refine wV fun _=>?_|simp [go_sem]
  exact zAE (by kernel_rfl)
theorem zt0 (b : Bool) : zaL Tryz.prog 275 [.v (.bool b)] (.v (.string (if b then zew [116, 114, 117, 101] else zew [102, 97, 108, 115, 101]))) := by
 refine pF Tryz.func275 ?_
 have hS := ztD b
 repeat first|refine wV fun _=>?_|simp [go_sem]
 refine zAs hS (by simp [go_sem]) ?_
 repeat first|refine wV fun _=>?_|simp [go_sem]
theorem zij : ∀ (l : List Int) (r : ByteArray), (l.foldl (fun r n => r.push (UInt8.ofNat n.toNat)) r).data.toList = r.data.toList ++ l.map fun n => UInt8.ofNat n.toNat
 | [], r => by simp
 | n :: l, r => by
  rw [List.foldl_cons, zij l]
  simp [ByteArray.push]
theorem zik (l : List Int) : (zew l).data.toList = l.map fun n => UInt8.ofNat n.toNat := by
 unfold zew; rw [zij]; rfl
theorem zfW (l : List Int) : (zew l).size = l.length := by
 rw [← ByteArray.size_data, ← Array.length_toList, zik, List.length_map]
def ziv (s : StD) : ByteArray := zjs s.kind ++ zew [32] ++ zjs s.cursor ++ zew [32] ++ (if s.took then zew [116, 114, 117, 101] else zew [102, 97, 108, 115, 101]) ++ zew [32] ++ zyM s.p
theorem zxO (s : StD) (hk : 0 ≤ s.kind ∧ s.kind < 10) (hc : 0 ≤ s.cursor ∧ s.cursor < 10) (h1 : s.p.at_.length ≤ 100) (h2 : s.p.h0.length ≤ 100) (h3 : s.p.h1.length ≤ 100) (hv : ∀ x ∈ zq3 s.p, 0 ≤ x ∧ x ≤ 255) :
  zaL Tryz.prog 229 [.agg (zan s)] (.v (.string (ziv s))) := by
 refine pF Tryz.func229 ?_
 have hK := zm9 s.kind hk.1 hk.2
 have hC := zm9 s.cursor hc.1 hc.2
 have hB := zt0 s.took
 have hP := zwK s.p h1 h2 h3 hv
 have hdk : (zjs s.kind).size = 1 := zfW _
 have hdc : (zjs s.cursor).size = 1 := zfW _
 have hdb : (if s.took then zew [116, 114, 117, 101] else zew [102, 97, 108, 115, 101]).size ≤ 5 := by split <;> simp [zfW]
 have hdp : (zyM s.p).size ≤ 302 := by unfold zyM; rw [zfW]; simp [zq3]; omega
 have h32 : (ByteArray.mk ⟨[32]⟩).size = 1 := rfl
 unfold ziv
 rw [show zew [32] = ByteArray.mk ⟨[32]⟩ from rfl]
 generalize zjs s.kind = dk at *
 generalize zjs s.cursor = dc at *
 generalize (if s.took then zew [116, 114, 117, 101] else zew [102, 97, 108, 115, 101]) = db at *
 generalize zyM s.p = dp at *
 generalize ByteArray.mk ⟨[32]⟩ = sp at *
 repeat first|refine wV fun _=>?_|simp [go_sem]
 refine zAu hK (by simp [go_sem]) ?_
 repeat first|refine wV fun _=>?_|simp [go_sem]
 refine zAu hC (by simp [go_sem]) ?_
 repeat first|refine wV fun _=>?_|simp [go_sem]
 refine zAu hB (by simp [go_sem]) ?_
 repeat first|refine wV fun _=>?_|simp [go_sem]
 refine zAu hP (by simp [go_sem]) ?_
 repeat first|refine wV fun _=>?_|simp [go_sem]
def zeP (side : Int) (x : Int × Int) (s : StD) (l : List zcl) : List zcl := if x.1 = 0 then l ++ (zgd side s).toList else l
def zxW (p : zah) (l : List zcl) : List (Nat × zbq) := [(0, .rows true 0 5 [zad p]), (1, .rows true 0 1 [[.sl 2 l.length 6 0 l.length]]), (2, .rows true l.length 6 (l.map zay))]
theorem zvF (g : zae) (hg : GOk g) (p : zah) (hp : POk g p) (s : StD) (hs : ze7 g s) (hsd : s.p.side = p.side) (x : Int × Int) (l : List zcl) (hl : l.length ≤ 100000000) :
  ziq Tryz.prog 184 [.agg (zan s), .agg (zaA x), .ref 0 0 5 0 0, .ref 1 0 1 0 0] (zxW p l) 3 (.tup []) (zxW p (zeP p.side x s l)) 3 := by
 unfold ziq zxW
 refine zAw (by kernel_rfl) Tryz.func184 rfl rfl (Nat.le_of_ble_eq_true rfl) (by kernel_rfl) ?_
 obtain ⟨hcur, h0, hm, _⟩ := zoy g s hg hs
 have hcp := zg9 s (hs.p.fits hg)
 have hC := zdz s.kind p.side
 have hps := hp.s
 obtain ⟨op, xn⟩ := x
 repeat first|refine wV fun _=>?_|simp [go_sem, hcur]
 refine zAt (fun hc => ?_) (fun hc => ?_) <;> simp at hc
 ·have e : zeP p.side (op, xn) s l = l := by
   unfold zeP zgd
   by_cases h : op = 0
   ·rw [if_pos h, if_neg (hc.resolve_left fun hn => hn h)]; simp
   ·rw [if_neg h]
  rw [e]
  repeat first|refine wV fun _=>?_|simp [go_sem]
  simp [go_sem, zaf]
 ·have e : zeP p.side (op, xn) s l = l ++ [⟨{ s.p with at_ := s.p.at_.set s.cursor.toNat (zaF s.kind p.side), side := 1 - p.side }, s.took⟩] := by
   unfold zeP zgd
   rw [if_pos hc.1, if_pos hc.2]; rfl
  rw [e]
  generalize zaF s.kind p.side = code at *
  repeat first|refine wV fun _=>?_|simp [go_sem, hcur]
  refine zAx hcp (by simp [go_sem]) ?_
  repeat first|refine wV fun _=>?_|simp [go_sem, hcur]
  refine zAu hC (by simp [go_sem]) ?_
  repeat first|refine wV fun _=>?_|simp [go_sem, hcur]
  simp [go_sem, zaf]
  (first|done|exact rwX)
theorem zcH {n : Nat} (l : List zcl) : ∀ r ∈ l.map zay, ∀ c ∈ r, Bel n c := by
 intro r hr c hc
 obtain ⟨x, _, rfl⟩ := List.mem_map.1 hr
 revert c
 simp [go_sem]
def zos (h : zar) (a b c : Nat) (p : zah) (l : List zcl) : zar := upd (upd (upd h a (some (.rows true 0 5 [zad p]))) b (some (.rows true 0 1 [[.sl c l.length 6 0 l.length]]))) c (some (.rows true l.length 6 (l.map zay)))
theorem zot (g : zae) (hg : GOk g) (p : zah) (hp : POk g p) (s : StD) (hs : ze7 g s) (hsd : s.p.side = p.side) (x : Int × Int) (l : List zcl) (hl : l.length ≤ 100000000) {h : zar} {n a b c : Nat}
  (hd : [a, b, c].Nodup) (hlt : ∀ j ∈ [a, b, c], j < n) (ha : h a = some (.rows true 0 5 [zad p])) (hb : h b = some (.rows true 0 1 [[.sl c l.length 6 0 l.length]])) (hc : h c = some (.rows true l.length 6 (l.map zay))) {K : zcF}
  (hK : K (.tup []) (zos h a b c p (zeP p.side x s l)) n) :
  zaa Tryz.prog 184 [.agg (zan s), .agg (zaA x), .ref a 0 5 0 0, .ref b 0 1 0 0] h n K := by
 have hbs : ∀ m, Bel m (.agg (zan s)) := fun m => by simp [go_sem]
 have hbx : ∀ m, Bel m (.agg (zaA x)) := fun m => by simp [go_sem]
 have hbp : ∀ m, ∀ c ∈ zad p, Bel m c := fun m => by simp [go_sem]
 refine zAL (args' := [.agg (zan s), .agg (zaA x), .ref a 0 5 0 0, .ref b 0 1 0 0])
  (HH := [(a, .rows true 0 5 [zad p]), (b, .rows true 0 1 [[.sl c (zeP p.side x s l).length 6 0 (zeP p.side x s l).length]]), (c, .rows true (zeP p.side x s l).length 6 ((zeP p.side x s l).map zay))])
  [a, b, c] h (zvF g hg p hp s hs hsd x l hl) hd hlt rfl (Nat.le_refl _) (.refl _) ?_ ?_ (.refl _ _ _ _) ?_ ?_ ?_ (.same ?_) ?_ ?_
 ·intro j hj
  rcases (show j = 0 ∨ j = 1 ∨ j = 2 by omega) with rfl | rfl | rfl
  ·exact ⟨_, _, rfl, ha, .rows (.same (by intro r hr; simp only [List.mem_singleton] at hr; subst hr; exact hbp _))⟩
  ·exact ⟨_, _, rfl, hb, .rows (.cons (.cons (.sl rfl) .nil) .nil)⟩
  ·exact ⟨_, _, rfl, hc, .rows (.same (zcH _))⟩
 ·intro q hq
  simp only [zxW, List.mem_cons, List.not_mem_nil, or_false] at hq
  rcases hq with rfl | rfl | rfl
  ·exact ⟨Nat.le_of_ble_eq_true rfl, by intro r hr; simp only [List.mem_singleton] at hr; subst hr; exact hbp _⟩
  ·exact ⟨Nat.le_of_ble_eq_true rfl, by simp [go_sem, zyU]⟩
  ·exact ⟨Nat.le_of_ble_eq_true rfl, zcH _⟩
 ·intro y hy
  simp only [List.mem_cons, List.not_mem_nil, or_false] at hy
  rcases hy with rfl | rfl | rfl | rfl
  ·exact hbs _
  ·exact hbx _
  ·exact .ref (hlt a (by simp))
  ·exact .ref (hlt b (by simp))
 ·exact .cons (.same (hbs _)) (.cons (.same (hbx _)) (.cons (.ref rfl) (.cons (.ref rfl) .nil)))
 ·intro y hy
  simp only [List.mem_cons, List.not_mem_nil, or_false] at hy
  rcases hy with rfl | rfl | rfl | rfl
  ·exact hbs _
  ·exact hbx _
  ·exact .ref (by decide)
  ·exact .ref (by decide)
 ·exact .tup (by simp)
 ·exact .cons rfl (.rows (.same (by intro r hr; simp only [List.mem_singleton] at hr; subst hr; exact hbp _))) (.cons rfl (.rows (.cons (.cons (.sl rfl) .nil) .nil)) (.cons rfl (.rows (.same (zcH _))) .nil))
 ·have e : zdP [(a, .rows true 0 5 [zad p]), (b, .rows true 0 1 [[.sl c (zeP p.side x s l).length 6 0 (zeP p.side x s l).length]]), (c, .rows true (zeP p.side x s l).length 6 ((zeP p.side x s l).map zay))] (zlO [a, b, c] h) = zos h a b c p (zeP p.side x s l) := by
   simp only [List.nodup_cons, List.mem_cons, List.not_mem_nil, or_false, not_or, List.nodup_nil, and_true, not_false_eq_true] at hd
   obtain ⟨⟨d1, d2⟩, d3⟩ := hd
   funext j
   simp only [zdP, zlO, zos, upd]
   by_cases j1 : j = a
   ·subst j1; simp [d1, d2]
   ·by_cases j2 : j = b
    ·subst j2; simp [d3, j1]
    ·by_cases j3 : j = c
     ·subst j3; simp [j1, j2]
     ·simp [j1, j2, j3]
  rw [e]
  exact hK
def zzP (s : StD) : List Int := [48 + s.kind, 32, 48 + s.cursor, 32] ++ ((if s.took then [116, 114, 117, 101] else [102, 97, 108, 115, 101]) ++ ([32] ++ zq3 s.p))
theorem zjI (s : StD) : (ziv s).data.toList = (zzP s).map fun n => UInt8.ofNat n.toNat := by
 unfold ziv zjs zyM zzP
 cases s.took <;> simp [ByteArray.data_append, zik]
theorem u8_inj {x y : Int} (hx : 0 ≤ x ∧ x ≤ 255) (hy : 0 ≤ y ∧ y ≤ 255) (h : UInt8.ofNat x.toNat = UInt8.ofNat y.toNat) : x = y := by
 have h1 := congrArg UInt8.toNat h
 rw [UInt8.toNat_ofNat', UInt8.toNat_ofNat'] at h1
 omega
theorem zlG : ∀ {l l' : List Int}, (∀ x ∈ l, 0 ≤ x ∧ x ≤ 255) → (∀ x ∈ l', 0 ≤ x ∧ x ≤ 255) → (l.map fun n => UInt8.ofNat n.toNat) = (l'.map fun n => UInt8.ofNat n.toNat) → l = l'
 | [], [], _, _, _ => rfl
 | [], _ :: _, _, _, h => by simp at h
 | _ :: _, [], _, _, h => by simp at h
 | x :: l, y :: l', h1, h2, h => by
  simp only [List.map_cons, List.cons.injEq] at h
  rw [u8_inj (h1 x (by simp)) (h2 y (by simp)) h.1, zlG (fun z hz => h1 z (by simp [hz])) (fun z hz => h2 z (by simp [hz])) h.2]
theorem zuq {g : zae} (hg : GOk g) {p : zah} (hp : POk g p) : ∀ x ∈ zq3 p, 0 ≤ x ∧ x ≤ 255 := by
 have k6 := hg.k6
 have r0 := hp.r0
 have r1 := hp.r1
 have hr : (2 : Int) ^ g.rights.toNat ≤ 16 := by
  have h1 := hg.r0
  have h2 := hg.r4
  rcases (show g.rights = 0 ∨ g.rights = 1 ∨ g.rights = 2 ∨ g.rights = 3 ∨ g.rights = 4 by omega) with h | h | h | h | h <;> rw [h] <;> decide
 have hh : ∀ l, zef g l → ∀ x ∈ l, 0 ≤ x ∧ x ≤ 255 := by
  intro l hl x hx
  obtain ⟨i, hi, rfl⟩ := List.mem_iff_getElem.1 hx
  have := hl.v i hi
  rw [zaC _ _ hi] at this
  omega
 intro x hx
 simp only [zq3, List.mem_append, List.mem_cons, List.not_mem_nil, or_false] at hx
 rcases hx with ((hx | hx) | hx) | hx | hx
 ·have := hp.av x hx; omega
 ·exact hh _ hp.h0 x hx
 ·exact hh _ hp.h1 x hx
 ·omega
 ·have := hp.s; omega
theorem zxN {g : zae} (hg : GOk g) {a b : StD} (ha : ze7 g a) (hb : ze7 g b) (h : ziv a = ziv b) : a = b := by
 have k6 := hg.k6
 have c9 := hg.c9
 have hv : ∀ s, ze7 g s → ∀ x ∈ zzP s, 0 ≤ x ∧ x ≤ 255 := by
  intro s hs x hx
  have hk := hs.k
  have h0 := hs.c0
  have h1 := hs.c1
  unfold zzP at hx
  rcases List.mem_append.1 hx with hx | hx
  ·simp at hx; omega
  rcases List.mem_append.1 hx with hx | hx
  ·by_cases ht : s.took = true <;> simp [ht] at hx <;> omega
  rcases List.mem_append.1 hx with hx | hx
  ·simp at hx; omega
  ·exact zuq hg hs.p x hx
 have h1 : zzP a = zzP b := zlG (hv a ha) (hv b hb) (by rw [← zjI, ← zjI, h])
 obtain ⟨pa, ka, ca, ta⟩ := a
 obtain ⟨pb, kb, cb, tb⟩ := b
 unfold zzP at h1
 simp only [List.cons_append, List.nil_append, List.cons.injEq, true_and] at h1
 obtain ⟨e1, e2, h1⟩ := h1
 obtain rfl : ka = kb := by omega
 obtain rfl : ca = cb := by omega
 have h2 : ta = tb ∧ zq3 pa = zq3 pb := by
  cases ta <;> cases tb <;> simp at h1 ⊢
  ·exact h1
  ·exact h1
 obtain ⟨rfl, h2⟩ := h2
 have a1 := ha.p.al
 have b1 := hb.p.al
 have a2 := ha.p.h0.len
 have b2 := hb.p.h0.len
 have a3 := ha.p.h1.len
 have b3 := hb.p.h1.len
 obtain ⟨pat, ph0, ph1, pr, ps⟩ := pa
 obtain ⟨qat, qh0, qh1, qr, qs⟩ := pb
 simp only [zq3, List.append_assoc] at h2 a1 b1 a2 b2 a3 b3
 obtain ⟨e3, h3⟩ := List.append_inj h2 (by omega)
 obtain ⟨e4, h4⟩ := List.append_inj h3 (by omega)
 obtain ⟨e5, h5⟩ := List.append_inj h4 (by omega)
 simp only [List.cons.injEq, and_true] at h5
 rw [e3, e4, e5, h5.1, h5.2]
def ze3 (s : StD) : List AV := [.v (.string (ziv s)), .v (.bool true)]
theorem zxj {n : Nat} {l : List StD} : (∀ r ∈ l.map ze3, ∀ c ∈ r, Bel n c) = True := by
 refine eq_true ?_
 intro r hr c hc
 obtain ⟨x, _, rfl⟩ := List.mem_map.1 hr
 simp only [ze3, List.mem_cons, List.not_mem_nil, or_false] at hc
 rcases hc with rfl | rfl <;> exact .v _
attribute [go_sem ↓] zxj
theorem zoe (t : StD) : ∀ (next : List StD), (∀ s ∈ next, ziv t = ziv s → t = s) → zeb .string (.v (.string (ziv t))) (next.map ze3) = some (if t ∈ next then some (.v (.bool true)) else none)
 | [], _ => by simp [zeb]
 | s :: next, h => by
  rw [List.map_cons, zeb]
  have e : zqe .string (.v (.string (ziv t))) (cel (ze3 s) 0) = some (ziv t == ziv s) := rfl
  rw [e, znL]
  by_cases hk : ziv t = ziv s
  ·have := h s (by simp) hk
   subst this
   simp [ze3, cel]
  ·have hne : t ≠ s := fun e => hk (by rw [e])
   rw [decide_eq_false hk]
   simp only
   rw [zoe t next (fun u hu => h u (by simp [hu]))]
   simp [hne]
theorem zrC (t : StD) : ∀ (next : List StD), (∀ s ∈ next, ziv t = ziv s → t = s) → t ∉ next → zg6 .string (.v (.string (ziv t))) (.v (.bool true)) (next.map ze3) = some ((next ++ [t]).map ze3)
 | [], _, _ => by simp [zg6, ze3]
 | s :: next, h, hn => by
  rw [List.map_cons, zg6]
  have e : zqe .string (.v (.string (ziv t))) (cel (ze3 s) 0) = some (ziv t == ziv s) := rfl
  rw [e, znL]
  have hk : ziv t ≠ ziv s := fun e => hn (by rw [h s (by simp) e]; simp)
  rw [decide_eq_false hk]
  simp only
  rw [zrC t next (fun u hu => h u (by simp [hu])) (fun hm => hn (by simp [hm]))]
  simp
def zdr (g : zae) (p : zah) (cell i : Int) : List zcl := (zd9 g p cell (za2 g p cell i)).filterMap (zgd p.side)
theorem zyg (g : zae) (hg : GOk g) (p : zah) (hp : POk g p) (cell i : Int) (hc : zcf g p cell i) :
  ziq Tryz.prog 183 [.agg (zac g), .agg (zad p), .v (.int .i64 cell), .v (.int .i64 i), .fn (.func 184) [] [.ref 0 0 5 0 0, .ref 1 0 1 0 0]]
   [(0, .rows true 0 5 [zad p]), (1, .rows true 0 1 [[zAz]])] 2 (.v (.int .i64 0))
   [(0, .rows true 0 5 [zad p]), (1, .rows true 0 1 [[.sl 247 (zdr g p cell i).length 6 0 (zdr g p cell i).length]]), (247, .rows true (zdr g p cell i).length 6 ((zdr g p cell i).map zay))] 248 := by
 unfold ziq
 refine zAw (by kernel_rfl) Tryz.func183 rfl rfl (Nat.le_of_ble_eq_true rfl) (by kernel_rfl) ?_
 have hal := hp.al
 obtain ⟨c0, c1, cm, cs, i0, i1⟩ := hc
 have hcur : cell.toNat < p.at_.length := by omega
 have hat := hp.at (i := cell.toNat) (by omega)
 have hO := zfq (nth p.at_ cell.toNat)
 have hman := zaR hat.1 hat.2 hg.k6
 have hV := zk2 g (by have := hg.k6; unfold zfY; omega) ⟨hg.r0, by have := hg.r4; omega⟩ p (hp.fits hg)
 rw [zfy.2 hp] at hV
 have hkl : (zao (nth p.at_ cell.toNat)).1.toNat < g.kinds.length := by
  rcases hman with ⟨_, e⟩ | ⟨_, a, b, _⟩
  ·rw [e] at cm; simp at cm
  ·omega
 have hil : i.toNat < (nth g.kinds (zao (nth p.at_ cell.toNat)).1.toNat).progs.length := by omega
 have hpg := hg.pr _ (zaj hkl) _ (zaj hil)
 have hst := fun n hn => zhg hg hp c0 c1 cm (prog := za2 g p cell i) hpg.st n hn
 have hz := zgF g p cell (za2 g p cell i)
 have hsu := fun n hn => zgE g p cell (za2 g p cell i) (n := n) hn
 have hla := zgD g p cell (za2 g p cell i)
 have hp8 := hpg.len
 have hpst := hpg.st
 have hpe : za2 g p cell i = nth (nth g.kinds (zao (nth p.at_ cell.toNat)).1.toNat).progs i.toNat := rfl
 rw [← hpe] at hp8 hpst
 have hlo : zdr g p cell i = (zd9 g p cell (za2 g p cell i)).filterMap (zgd p.side) := rfl
 rw [hlo]
 obtain ⟨prog, hprog⟩ : ∃ q, q = za2 g p cell i := ⟨_, rfl⟩
 rw [← hprog] at hst hz hsu hp8 hpst hpe hla ⊢
 have hcp := zg9 ⟨p, (zao (nth p.at_ cell.toNat)).1, cell, false⟩ (hp.fits hg)
 generalize hm : zao (nth p.at_ cell.toNat) = m at *
 obtain ⟨mk, ms⟩ := m
 simp only at cm cs i1 hkl hil hpe hcp
 repeat first|refine wV fun _=>?_|simp [go_sem]
 refine zAs hV (by simp [go_sem]) ?_
 repeat first|refine wV fun _=>?_|simp [go_sem, hcur]
 (refine zAt (fun hF => by first | omega | (simp at hF; omega)) (fun hF => ?_); clear hF)
 repeat first|refine wV fun _=>?_|simp [go_sem, hcur]
 refine zAs hO (by simp [go_sem]) ?_
 repeat first|refine wV fun _=>?_|simp [go_sem, hkl, hil, cs]
 (refine zAt (fun hF => by first | omega | (simp at hF; omega)) (fun hF => ?_); clear hF)
 repeat first|refine wV fun _=>?_|simp [go_sem]
 refine zAx hcp (by simp [go_sem]) ?_
 repeat first|refine wV fun _=>?_|simp [go_sem, hcur, hkl, hil]
 rw [← hpe]
 have hsz : ∀ n, n ≤ prog.length → (zbM g p cell prog n).length ≤ 100000000 := fun n hn => Nat.le_trans (hst n hn).2 (ziQ (by omega))
 have hst0 : za0 (zbM g p cell prog 0) = .lst 8 [[.lst 1 ((p.at_.map zb5).set cell.toNat [.v (.int .i64 0)]), zap p.h0, zap p.h1, .v (.int .i64 p.rights), .v (.int .i64 p.side), .v (.int .i64 mk), .v (.int .i64 cell), .v (.bool false)]] := by
  rw [hz]; simp [za0, zev, zan, clr, hm, zap, zb5, List.map_set]
 refine zAr (zAv (α := Nat) (fun k => ⟨[(4, .fn (.func 184) [] [.ref 0 0 5 0 0, .ref 1 0 1 0 0]), (5, .ref 2 0 9 0 0), (14, za0 (zbM g p cell prog k)), (87, zau prog), (88, .v (.int .i64 prog.length)), (89, .v (.int .i64 k))],
   [(0, .rows true 0 5 [zad p]), (1, .rows true 0 1 [[.sl 247 0 6 0 0]]), (2, .rows true 0 9 [zac g]), (247, .rows true 0 6 [])], 248⟩)
  (fun d k => k + d = prog.length) ?_ prog.length 0 ?_) ?_ ?_
 ·rintro d k k1 hrec
  repeat first|refine wV fun _=>?_|simp [go_sem]
  refine zAt (fun hk => ?_) (fun hk => ?_) <;> simp at hk
  ·have hkk := hst k (by omega)
   have hks := hsz k (by omega)
   have hks' := hsz (k + 1) (by omega)
   have hsk := hsu k hk
   have hxs := hpst _ (zaj hk)
   have hpo := fun n hn => zmT hg hxs hkk.1 n hn
   have hpa := zj0 g (zbM g p cell prog k) (nth prog k)
   have hpz := zlM g (zbM g p cell prog k) (nth prog k)
   have hps := fun n hn => zhK g (zbM g p cell prog k) (nth prog k) (n := n) hn
   rw [← hsk] at hpa
   obtain ⟨now, hnow⟩ : ∃ now, now = zbM g p cell prog k := ⟨_, rfl⟩
   rw [← hnow] at hkk hks hpo hpa hpz hps ⊢
   obtain ⟨x, hx⟩ : ∃ x, x = nth prog k := ⟨_, rfl⟩
   rw [← hx] at hxs hpo hpa hpz hps
   repeat first|refine wV fun _=>?_|simp [go_sem, hk, ← hx]
   refine zAr (zAv (α := Nat) (fun n => ⟨[(4, .fn (.func 184) [] [.ref 0 0 5 0 0, .ref 1 0 1 0 0]), (5, .ref 2 0 9 0 0), (16, .ref 248 0 2 0 0), (17, .sl 250 (zcX g now x n).length 8 0 (zcX g now x n).length), (18, .mp 249), (87, zau prog), (88, .v (.int .i64 prog.length)), (89, .v (.int .i64 k)), (94, za0 now), (95, .v (.int .i64 now.length)), (96, .v (.int .i64 n))],
     [(0, .rows true 0 5 [zad p]), (1, .rows true 0 1 [[.sl 247 0 6 0 0]]), (2, .rows true 0 9 [zac g]), (247, .rows true 0 6 []), (248, .rows true 0 2 [zaA x]), (249, .rows true 0 2 ((zcX g now x n).map ze3)), (250, .rows true (zcX g now x n).length 8 ((zcX g now x n).map zan))], 251⟩)
    (fun d n => n + d = now.length) ?_ now.length 0 ?_) ?_ ?_
   ·rintro d2 n n1 hrec2
    repeat first|refine wV fun _=>?_|simp [go_sem]
    refine zAt (fun hn => ?_) (fun hn => ?_) <;> simp at hn
    ·have hsn := hkk.1 _ (zaj hn)
     have hpn := hps n hn
     have hpoN := hpo n (by omega)
     have hpoS := hpo (n + 1) (by omega)
     have hSt := zwo g hg (nth now n) hsn.1 x hxs
     have hsl := zkj hg (nth now n) x
     have hso := zhh hg hsn.1 hxs
     have hlk : zeP p.side x (nth now n) [] = [] := by unfold zeP; rw [if_neg (by have := hxs.1; omega)]
     obtain ⟨s, hs⟩ : ∃ s, s = nth now n := ⟨_, rfl⟩
     rw [← hs] at hsn hpn hSt hsl hso hlk
     obtain ⟨more, hmore⟩ : ∃ more, more = zbU g s x := ⟨_, rfl⟩
     rw [← hmore] at hpn hSt hsl hso
     have hat := fun j hj => znk (zcX g now x n) more (i := j) hj
     have hal' := fun j => zgN (more.take j) (zcX g now x n)
     have haok : ∀ j, ∀ u ∈ zee (zcX g now x n) (more.take j), ze7 g u := fun j => ziC (fun u hu => (hpoN.1 u hu).1) (fun u hu => (hso u (List.mem_of_mem_take hu)).1)
     have haz : zee (zcX g now x n) (more.take 0) = zcX g now x n := by simp [zq0]
     have haa : zee (zcX g now x n) (more.take more.length) = zcX g now x (n + 1) := by rw [List.take_length, hpn]
     obtain ⟨nx, hnx⟩ : ∃ nx : Nat → List StD, nx = fun j => zee (zcX g now x n) (more.take j) := ⟨_, rfl⟩
     have hnx' : ∀ j, zee (zcX g now x n) (more.take j) = nx j := fun j => by rw [hnx]
     simp only [hnx'] at hat hal' haok haz haa
     clear hnx hnx'
     repeat first|refine wV fun _=>?_|simp [go_sem, hn, ← hs]
     refine zot g hg p hp s hsn.1 hsn.2 x [] (by simp) (a := 0) (b := 1) (c := 247) (by decide) (by simp) (by simp [upd, zad, zap]) (by simp [upd]) (by simp [upd]) ?_
     rw [hlk]
     simp only [zos]
     repeat first|refine wV fun _=>?_|simp [go_sem]
     refine zAs hSt (by simp [go_sem]) ?_
     repeat first|refine wV fun _=>?_|simp [go_sem]
     refine zAr (zAv (α := Nat) (fun j => ⟨[(4, .fn (.func 184) [] [.ref 0 0 5 0 0, .ref 1 0 1 0 0]), (5, .ref 2 0 9 0 0), (16, .ref 248 0 2 0 0), (17, .sl 250 (nx j).length 8 0 (nx j).length), (18, .mp 249), (87, zau prog), (88, .v (.int .i64 prog.length)), (89, .v (.int .i64 k)), (94, za0 now), (95, .v (.int .i64 now.length)), (96, .v (.int .i64 n)), (107, za0 more), (108, .v (.int .i64 more.length)), (109, .v (.int .i64 j))],
       [(0, .rows true 0 5 [zad p]), (1, .rows true 0 1 [[.sl 247 0 6 0 0]]), (2, .rows true 0 9 [zac g]), (247, .rows true 0 6 []), (248, .rows true 0 2 [zaA x]), (249, .rows true 0 2 ((nx j).map ze3)), (250, .rows true (nx j).length 8 ((nx j).map zan))], 252⟩)
      (fun d j => j + d = more.length) ?_ more.length 0 ?_) ?_ ?_
     ·rintro d3 j j1 hrec3
      repeat first|refine wV fun _=>?_|simp [go_sem]
      refine zAt (fun hj => ?_) (fun hj => ?_) <;> simp at hj
      ·have htj := (hso _ (zaj hj)).1
       have hatj := hat j hj
       have halj := hal' j
       have hmj : (more.take j).length ≤ 10 := by rw [List.length_take]; omega
       obtain ⟨t, ht⟩ : ∃ t, t = nth more j := ⟨_, rfl⟩
       rw [← ht] at htj hatj
       have hk6 := hg.k6
       have hc9 := hg.c9
       have hta := htj.p.al
       have ht0 := htj.p.h0.len
       have ht1 := htj.p.h1.len
       have htk := htj.k
       have htc0 := htj.c0
       have htc1 := htj.c1
       have hKey := zxO t (by omega) (by omega) (by omega) (by omega) (by omega) (zuq hg htj.p)
       have hin : ∀ u ∈ nx j, ziv t = ziv u → t = u := fun u hu e => zxN hg htj (haok j u hu) e
       have hfind := zoe t (nx j) hin
       have hput := zrC t (nx j) hin
       repeat first|refine wV fun _=>?_|simp [go_sem, hj, ← ht]
       refine zAs hKey (by simp [go_sem]) ?_
       by_cases hmem : t ∈ nx j
       ·rw [if_pos hmem] at hatj hfind
        repeat first|refine wV fun _=>?_|simp [go_sem, hfind]
        refine zAr (hrec3 (d3 - 1) (by omega) (j + 1) (by omega)) ?_ (by simp)
        simp [go_sem, zaf, hatj]
       ·rw [if_neg hmem] at hatj hfind
        have hput := hput hmem
        repeat first|refine wV fun _=>?_|simp [go_sem, hfind, hput]
        refine zAr (hrec3 (d3 - 1) (by omega) (j + 1) (by omega)) ?_ (by simp)
        simp [go_sem, zaf, hatj]
        intro c hc
        simp only [ze3, List.mem_cons, List.not_mem_nil, or_false] at hc
        rcases hc with rfl | rfl <;> exact .v _
      ·have hnl : j = more.length := by omega
       subst hnl
       rw [haa]
       repeat first|refine wV fun _=>?_|simp [go_sem]
       refine zAr (hrec2 (d2 - 1) (by omega) (n + 1) (by omega)) ?_ (by simp)
       simp [go_sem, zaf]
     ·omega
     ·simp [go_sem, zaf, haz]
     ·simp
    ·have hnl : n = now.length := by omega
     subst hnl
     rw [hpa]
     repeat first|refine wV fun _=>?_|simp [go_sem]
     refine zAr (hrec (d - 1) (by omega) (k + 1) (by omega)) ?_ (by simp)
     simp [go_sem, zaf]
     exact frX
   ·omega
   ·simp [go_sem, zaf, hpz]
   ·simp
  ·have hkl' : k = prog.length := by omega
   subst hkl'
   rw [hla]
   have hl8 := hsz prog.length (Nat.le_refl _)
   have hlok := (hst prog.length (Nat.le_refl _)).1
   rw [hla] at hl8 hlok
   generalize zd9 g p cell prog = last at *
   repeat first|refine wV fun _=>?_|simp [go_sem]
   refine zAr (zAv (α := Nat) (fun j => ⟨[(4, .fn (.func 184) [] [.ref 0 0 5 0 0, .ref 1 0 1 0 0]), (129, za0 last), (130, .v (.int .i64 last.length)), (131, .v (.int .i64 j))],
     [(0, .rows true 0 5 [zad p]), (1, .rows true 0 1 [[.sl 247 ((last.take j).filterMap (zgd p.side)).length 6 0 ((last.take j).filterMap (zgd p.side)).length]]), (247, .rows true ((last.take j).filterMap (zgd p.side)).length 6 (((last.take j).filterMap (zgd p.side)).map zay))], 248⟩)
    (fun d j => j + d = last.length) ?_ last.length 0 ?_) ?_ ?_
   ·rintro d4 j j1 hrec4
    repeat first|refine wV fun _=>?_|simp [go_sem]
    refine zAt (fun hj => ?_) (fun hj => ?_) <;> simp at hj
    ·have hsj := hlok _ (zaj hj)
     have hol : ((last.take j).filterMap (zgd p.side)).length ≤ 100000000 := Nat.le_trans (List.length_filterMap_le _ _) (by rw [List.length_take]; omega)
     have hse : (last.take (j + 1)).filterMap (zgd p.side) = zeP p.side (0, 0) (nth last j) ((last.take j).filterMap (zgd p.side)) := by
      rw [List.take_add_one, List.getElem?_eq_getElem hj, zaC _ _ hj, List.filterMap_append]
      simp only [Option.toList_some, List.filterMap_cons, List.filterMap_nil, zeP, if_true]
      cases zgd p.side last[j] <;> rfl
     obtain ⟨out, hout⟩ : ∃ out, out = (last.take j).filterMap (zgd p.side) := ⟨_, rfl⟩
     rw [← hout] at hol hse ⊢
     obtain ⟨t, ht⟩ : ∃ t, t = nth last j := ⟨_, rfl⟩
     rw [← ht] at hsj hse
     repeat first|refine wV fun _=>?_|simp [go_sem, hj, ← ht]
     refine zot g hg p hp t hsj.1 hsj.2 (0, 0) out hol (a := 0) (b := 1) (c := 247) (by decide) (by simp) (by simp [upd, zad, zap]) (by simp [upd]) (by simp [upd]) ?_
     rw [← hse]
     simp only [zos]
     repeat first|refine wV fun _=>?_|simp [go_sem]
     refine zAr (hrec4 (d4 - 1) (by omega) (j + 1) (by omega)) ?_ (by simp)
     simp [go_sem, zaf]
    ·have hnl : j = last.length := by omega
     subst hnl
     rw [List.take_length]
     repeat first|refine wV fun _=>?_|simp [go_sem]
     simp [go_sem, zaf]
   ·omega
   ·simp [go_sem, zaf]
   ·simp
 ·omega
 ·simp [go_sem, zaf]
  rw [show AV.lst 8 (List.map zan (zbM g p cell prog 0)) = _ from hst0]
  (first|done|exact dpX)
 ·simp
end Go.Av
end
