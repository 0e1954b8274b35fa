/- Texts of ours, part 11: contracts and facts for this claim. -/
import Derived.Test.YtkahkcakggflaaaGreatDoorB11
import Derived.Test.YtkahkcakggflaaaGreatDoorSIx10
set_option linter.unusedSimpArgs false
set_option linter.unusedVariables false
set_option maxRecDepth 100000
set_option maxHeartbeats 40000000
section
open Go Go.Proofs
namespace Go.Av
theorem zuQ (x : zgA) (hx : zjs x) (hl : x.c.length ≤ 1099511627776) (hl0 : x.k0.length ≤ 1099511627776) (hl1 : x.k1.length ≤ 1099511627776) : zaC Tryz.prog 43 [.agg (zcE x)] (.agg (zab (zfm (zhF x)))) := by
 refine pF Tryz.func43 ?_
 have hM := zjo (zhF x) (zsq hx) hl hl0 (by simp [zhF])
 have u1 := (znA hx.w).2
 have u2 := (znA hx.h).2
 have u3 := (znA hx.f0).2
 unfold U8 at u1 u2 u3
 generalize zfm (zhF x) = G at *
 repeat first|with_reducible refine wV fun _=>?_|simp [go_sem]
 refine zBt [] hM ?_ (by simp [go_sem]) ?_
 ·unfold zhF zcE
  refine .cons (.agg ?_) .nil
  refine .cons (.refl _) (.cons (.refl _) (.cons (.refl _) (.cons (.refl _) (.cons (.nil _) (.refl _ _ _ _)))))
 repeat first|with_reducible refine wV fun _=>?_|simp [go_sem]
def boP (l : List Int) : zaj := ⟨l, [0], [0], 0, 0⟩
def boE (c i j : Nat) : List zaj := (((zaT c).take i).flatMap (fun l => [l ++ [0], l ++ [1], l ++ [2]]) ++ ((List.range j).map fun (x : Nat) => nth (zaT c) i ++ [(x : Int)])).map boP
theorem zyb (c : Nat) : boE c 0 0 = [] := rfl
theorem zya (c i j : Nat) : boE c i (j + 1) = boE c i j ++ [boP (nth (zaT c) i ++ [(j : Int)])] := by
 unfold boE
 rw [List.range_succ]
 simp
theorem zx9 {c i : Nat} (h : i < (zaT c).length) : boE c i 3 = boE c (i + 1) 0 := by
 unfold boE
 rw [zdu h, List.flatMap_append]
 simp [List.range_succ]
theorem zAo (c : Nat) : boE c (zaT c).length 0 = (zaT (c + 1)).map boP := by
 unfold boE
 rw [List.take_length]
 simp [zaT]
theorem zAp {c i j : Nat} (hi : i ≤ (zaT c).length) : (boE c i j).length = 3 * i + j := by
 unfold boE
 rw [List.length_map, List.length_append, List.length_map, List.length_range, List.length_flatMap]
 have : ((zaT c).take i).map (fun l : List Int => ([l ++ [0], l ++ [1], l ++ [2]] : List (List Int)).length) = ((zaT c).take i).map fun _ => 3 := rfl
 rw [this, List.map_const', List.sum_replicate_nat, List.length_take]
 omega
def evE (g : zaf) (i r j : Nat) : List zaj := ((zaT g.cells.toNat).take i).flatMap (zei g) ++ ((List.range r).flatMap (fun (r : Nat) => [(⟨nth (zaT g.cells.toNat) i, [0], [0], (r : Int), 0⟩ : zaj), ⟨nth (zaT g.cells.toNat) i, [0], [0], (r : Int), 1⟩]) ++ (List.range j).map fun (s : Nat) => (⟨nth (zaT g.cells.toNat) i, [0], [0], (r : Int), (s : Int)⟩ : zaj))
theorem zyy (g : zaf) : evE g 0 0 0 = [] := rfl
theorem zyx (g : zaf) (i r j : Nat) : evE g i r (j + 1) = evE g i r j ++ [⟨nth (zaT g.cells.toNat) i, [0], [0], (r : Int), (j : Int)⟩] := by
 unfold evE
 rw [List.range_succ]
 simp
theorem zyw (g : zaf) (i r : Nat) : evE g i r 2 = evE g i (r + 1) 0 := by
 unfold evE
 rw [show List.range (r + 1) = List.range r ++ [r] from List.range_succ, List.flatMap_append]
 simp [List.range_succ]
theorem zAE {g : zaf} {i : Nat} (h : i < (zaT g.cells.toNat).length) : evE g i (2 ^ g.rights.toNat) 0 = evE g (i + 1) 0 0 := by
 unfold evE
 rw [zdu h, List.flatMap_append]
 simp [zei]
theorem zAC (g : zaf) : evE g (zaT g.cells.toNat).length 0 0 = zb4 g := by
 unfold evE zb4
 rw [List.take_length]
 simp
theorem zAD {g : zaf} {i r j : Nat} (hi : i ≤ (zaT g.cells.toNat).length) : (evE g i r j).length = i * (2 * 2 ^ g.rights.toNat) + (2 * r + j) := by
 unfold evE
 have h2 : ∀ (n : Nat) (f : Nat → List zaj), (∀ k, (f k).length = 2) → ((List.range n).flatMap f).length = 2 * n := fun n f hf => by
  induction n with
  | zero => rfl
  | succ n ih => rw [List.range_succ, List.flatMap_append, List.length_append, ih]; simp [hf]; omega
 have h1 : ∀ l : List (List Int), (l.flatMap (zei g)).length = l.length * (2 * 2 ^ g.rights.toNat) := fun l => by
  induction l with
  | nil => simp
  | cons a l ih =>
   rw [List.flatMap_cons, List.length_append, ih, List.length_cons, Nat.add_mul, Nat.one_mul]
   unfold zei
   rw [h2 _ _ fun _ => rfl]
   omega
 rw [List.length_append, h1, List.length_append, h2 _ _ fun _ => rfl, List.length_map, List.length_range, List.length_take, Nat.min_eq_left hi]
theorem zsy (g : zaf) (h : znU g) : zaC Tryz.prog 44 [.agg (zab g)] (zaz (zb4 g)) := by
 refine pF Tryz.func44 ?_
 have hg := h.ok
 have c4 := h.c4
 have c1 := hg.c1
 have r1 := h.r1
 have r0 := hg.r0
 obtain ⟨cn, hcn⟩ : ∃ cn : Nat, g.cells = cn := ⟨g.cells.toNat, by omega⟩
 have hcn2 : g.cells.toNat = cn := by omega
 have hbl : ∀ c, c ≤ 4 → (zaT c).length ≤ 81 := fun c hc => by
  rw [zeW]
  exact Nat.le_trans (Nat.pow_le_pow_right (by decide) hc) (by decide)
 have hbm : ∀ c l, l ∈ zaT c → l.length = c := fun c l hl => (ze5.1 hl).1
 have hpw : (2 : Int) ^ g.rights.toNat = ((2 ^ g.rights.toNat : Nat) : Int) ∧ 2 ^ g.rights.toNat ≤ 2 ∧ 1 ≤ 2 ^ g.rights.toNat := by
  rcases (show g.rights.toNat = 0 ∨ g.rights.toNat = 1 by omega) with e | e <;> rw [e] <;> decide
 have hgb : ∀ n, (∀ c ∈ zab g, Bel n c) = True := fun n => by simp [go_sem]
 have hgl : (zab g).length = 9 := rfl
 have hg0 : cel (zab g) 0 = .v (.int .i64 cn) := by rw [← hcn]; rfl
 have hg4 : cel (zab g) 4 = .v (.int .i64 g.rights) := rfl
 have hEz := zyy g
 have hEs := fun i r j => zyx g i r j
 have hEn := fun i r => zyw g i r
 have hEr := fun i h => zAE (g := g) (i := i) h
 have hEa := zAC g
 have hEl := fun i r j h => zAD (g := g) (i := i) (r := r) (j := j) h
 have hCo : ∀ q : zaj, za0 q → zgp Tryz.prog 97 [.agg (zad q)] (fun n => zpm n q) (fun n => zkq n q) 9 := fun q hq => zfz q hq
 simp only [zpm, zkq] at hCo
 rw [hcn2] at hEs hEr hEa hEl
 obtain ⟨R, hR⟩ : ∃ R, R = zb4 g := ⟨_, rfl⟩
 rw [← hR] at hEa ⊢
 generalize evE g = eE at *
 generalize hpn : 2 ^ g.rights.toNat = pn at *
 generalize zab g = eg at *
 generalize g.rights = rt at *
 obtain ⟨bP, hbP⟩ : ∃ bP : Nat → List zaj, ∀ c, bP c = (zaT c).map boP := ⟨_, fun _ => rfl⟩
 have hb0 : bP 0 = [⟨[], [0], [0], 0, 0⟩] := by rw [hbP]; rfl
 repeat first|with_reducible refine wV fun _=>?_|simp [go_sem, hgl]
 refine zBm (zBr (α := Nat) (fun c => ⟨[(1, .ref 0 0 9 0 0), (3, zaz (bP c)), (4, .v (.int .i64 c))], [(0, .rows true 0 9 [eg])], 1⟩)
  (fun d c => c + d = cn) ?_ cn 0 ?_) ?_ ?_
 ·rintro d c i1 hrec
  repeat first|with_reducible refine wV fun _=>?_|simp [go_sem, hgl, hg0]
  refine zBo (fun hc => ?_) (fun hc => ?_) <;> simp at hc
  ·have hbc := hbl c (by omega)
   have hm3 := hbm c
   have hz := zyb c
   have hs := fun i j => zya c i j
   have hn := fun i h => zx9 (c := c) (i := i) h
   have ha := zAo c
   rw [← hbP] at ha
   have hl := fun i j h => zAp (c := c) (i := i) (j := j) h
   have hBl : (bP c).length = (zaT c).length := by rw [hbP]; simp
   have hBn : ∀ i, i < (zaT c).length → nth (bP c) i = boP (nth (zaT c) i) := fun i hi => by rw [hbP]; exact zbg _ _ _ hi
   have hNm : ∀ i, i < (zaT c).length → (nth (zaT c) i).length = c := fun i hi => hm3 _ (zan hi)
   generalize bP c = BP at *
   generalize boE c = bE at *
   generalize zaT c = B at *
   repeat first|with_reducible refine wV fun _=>?_|simp [go_sem, hgl, hg0]
   refine zBm (zBr (α := Nat) (fun i => ⟨[(1, .ref 0 0 9 0 0), (3, zaz BP), (4, .v (.int .i64 c)), (5, .sl 1 (3 * i) 5 0 (bE i 0).length), (6, .v (.int .i64 i))], [(0, .rows true 0 9 [eg]), (1, .rows true (3 * i) 5 ((bE i 0).map zad))], 2⟩)
    (fun d i => i + d = B.length) ?_ B.length 0 ?_) ?_ ?_
   ·rintro d2 i i2 hrec2
    repeat first|with_reducible refine wV fun _=>?_|simp [go_sem, hBl]
    refine zBo (fun hi => ?_) (fun hi => ?_) <;> simp at hi
    ·have hNi := hNm i hi
     have hBi := hBn i hi
     have hli := fun j => hl i j (by omega)
     have hni := hn i hi
     have hsi := hs i
     generalize nth B i = b at *
     have hCb := hCo ⟨b, [0], [0], 0, 0⟩ ⟨by show b.length ≤ _; omega, by simp [zeS], by simp [zeS]⟩
     repeat first|with_reducible refine wV fun _=>?_|simp [go_sem, hBl]
     refine zBm (zBr (α := Nat) (fun j => ⟨[(1, .ref 0 0 9 0 0), (3, zaz BP), (4, .v (.int .i64 c)), (5, .sl 1 (3 * i + j) 5 0 (bE i j).length), (6, .v (.int .i64 i)), (7, .v (.int .i64 j))], [(0, .rows true 0 9 [eg]), (1, .rows true (3 * i + j) 5 ((bE i j).map zad))], 2⟩)
      (fun d j => j + d = 3) ?_ 3 0 ?_) ?_ ?_
     ·rintro d3 j j3 hrec3
      have hlj := hli j
      repeat first|with_reducible refine wV fun _=>?_|simp [go_sem]
      refine zBo (fun hj => ?_) (fun hj => ?_) <;> simp at hj
      ·have hsij := hsi j
       have hbe : boP (b ++ [(j : Int)]) = ⟨b ++ [(j : Int)], [0], [0], 0, 0⟩ := rfl
       rw [hbe] at hsij
       have hbi : i < BP.length := by omega
       repeat first|with_reducible refine wV fun _=>?_|simp [go_sem, hBl, hi, hBi, boP]
       refine zBs hCb (by simp [go_sem]) ?_
       repeat first|with_reducible refine wV fun _=>?_|simp [go_sem]
       refine zBm (hrec3 (d3 - 1) (by omega) (j + 1) (by omega)) ?_ (by simp)
       simp [go_sem, zah, hgb, hsij, Nat.add_assoc]
       refine zag (.refl _) (.cons (.cons ?_ (.cons ?_ (.cons ?_ (.cons (.refl _) (.cons (.refl _) .nil))))) .nil)
       ·exact frX
       ·refine LeV.frz rfl (by simp) (by simp [noH, upd]) ?_
        exact .refl _
       ·refine LeV.frz rfl (by simp) (by simp [noH, upd]) ?_
        exact .refl _
      ·obtain rfl : j = 3 := by omega
       rw [hni]
       repeat first|with_reducible refine wV fun _=>?_|simp [go_sem]
       refine zBm (hrec2 (d2 - 1) (by omega) (i + 1) (by omega)) ?_ (by simp)
       have he3 : 3 * i + 3 = 3 * (i + 1) := by omega
       simp [go_sem, zah, hgb, he3]
     ·omega
     ·simp [go_sem, zah, hgb]
     ·simp
    ·obtain rfl : i = B.length := by omega
     rw [ha]
     repeat first|with_reducible refine wV fun _=>?_|simp [go_sem]
     refine zBm (hrec (d - 1) (by omega) (c + 1) (by omega)) ?_ (by simp)
     generalize bP (c + 1) = b1 at *
     simp [go_sem, zah, hgb]
     exact frX
   ·omega
   ·simp [go_sem, zah, hgb, hz]
   ·simp
  ·obtain rfl : c = cn := by omega
   have hbc := hbl c (by omega)
   have hBl : (bP c).length = (zaT c).length := by rw [hbP]; simp
   have hBn : ∀ i, i < (zaT c).length → nth (bP c) i = boP (nth (zaT c) i) := fun i hi => by rw [hbP]; exact zbg _ _ _ hi
   generalize bP c = BP at *
   generalize zaT c = B at *
   repeat first|with_reducible refine wV fun _=>?_|simp [go_sem, hgl, hg0]
   refine zBm (zBr (α := Nat) (fun i => ⟨[(1, .ref 0 0 9 0 0), (3, zaz BP), (9, .sl 1 (i * (2 * pn)) 5 0 (eE i 0 0).length), (10, .v (.int .i64 i))], [(0, .rows true 0 9 [eg]), (1, .rows true (i * (2 * pn)) 5 ((eE i 0 0).map zad))], 2⟩)
    (fun d i => i + d = B.length) ?_ B.length 0 ?_) ?_ ?_
   ·rintro d2 i i2 hrec2
    repeat first|with_reducible refine wV fun _=>?_|simp [go_sem, hBl]
    refine zBo (fun hi => ?_) (fun hi => ?_) <;> simp at hi
    ·have hBi := hBn i hi
     have hli := fun r j => hEl i r j (by omega)
     have hri := hEr i hi
     have hsi := hEs i
     have hni := hEn i
     have hbi : i < BP.length := by omega
     have hib : i * (2 * pn) ≤ 81 * 4 := Nat.mul_le_mul (by omega) (by omega)
     generalize nth B i = b at *
     repeat first|with_reducible refine wV fun _=>?_|simp [go_sem, hBl]
     refine zBm (zBr (α := Nat) (fun r => ⟨[(1, .ref 0 0 9 0 0), (3, zaz BP), (9, .sl 1 (i * (2 * pn) + 2 * r) 5 0 (eE i r 0).length), (10, .v (.int .i64 i)), (11, .v (.int .i64 r))], [(0, .rows true 0 9 [eg]), (1, .rows true (i * (2 * pn) + 2 * r) 5 ((eE i r 0).map zad))], 2⟩)
      (fun d r => r + d = pn) ?_ pn 0 ?_) ?_ ?_
     ·rintro d3 r r3 hrec3
      have hsr := hsi r
      have hnr := hni r
      have hlr := hli r
      repeat first|with_reducible refine wV fun _=>?_|simp [go_sem, hgl, hg4, hpw.1]
      refine zBo (fun hr => ?_) (fun hr => ?_) <;> simp at hr
      ·repeat first|with_reducible refine wV fun _=>?_|simp [go_sem]
       refine zBm (zBr (α := Nat) (fun j => ⟨[(1, .ref 0 0 9 0 0), (3, zaz BP), (9, .sl 1 (i * (2 * pn) + (2 * r + j)) 5 0 (eE i r j).length), (10, .v (.int .i64 i)), (11, .v (.int .i64 r)), (12, .v (.int .i64 j))], [(0, .rows true 0 9 [eg]), (1, .rows true (i * (2 * pn) + (2 * r + j)) 5 ((eE i r j).map zad))], 2⟩)
        (fun d j => j + d = 2) ?_ 2 0 ?_) ?_ ?_
       ·rintro d4 j j4 hrec4
        have hlj := hlr j
        have hsj := hsr j
        repeat first|with_reducible refine wV fun _=>?_|simp [go_sem]
        refine zBo (fun hj => ?_) (fun hj => ?_) <;> simp at hj
        ·repeat first|with_reducible refine wV fun _=>?_|simp [go_sem, hBl, hi, hBi, hbi, boP]
         refine zBm (hrec4 (d4 - 1) (by omega) (j + 1) (by omega)) ?_ (by simp)
         simp [go_sem, zah, hgb, hsj, Nat.add_assoc]
        ·obtain rfl : j = 2 := by omega
         rw [hnr]
         repeat first|with_reducible refine wV fun _=>?_|simp [go_sem]
         refine zBm (hrec3 (d3 - 1) (by omega) (r + 1) (by omega)) ?_ (by simp)
         have he2 : i * (2 * pn) + (2 * r + 2) = i * (2 * pn) + 2 * (r + 1) := by omega
         simp [go_sem, zah, hgb, he2]
       ·omega
       ·simp [go_sem, zah, hgb]
       ·simp
      ·obtain rfl : r = pn := by omega
       rw [hri]
       repeat first|with_reducible refine wV fun _=>?_|simp [go_sem]
       refine zBm (hrec2 (d2 - 1) (by omega) (i + 1) (by omega)) ?_ (by simp)
       have he1 : i * (2 * r) + 2 * r = (i + 1) * (2 * r) := by rw [Nat.add_mul, Nat.one_mul]
       simp [go_sem, zah, hgb, he1]
     ·omega
     ·simp [go_sem, zah, hgb]
     ·simp
    ·obtain rfl : i = B.length := by omega
     rw [hEa]
     repeat first|with_reducible refine wV fun _=>?_|simp [go_sem]
     exact frX
   ·omega
   ·simp [go_sem, zah, hgb, hEz]
   ·simp
 ·omega
 ·simp [go_sem, zah, hgb, hb0]
  refine LeV.frz rfl (by simp) (by simp [noH, upd]) (.cons (.cons (.nil _) (.cons ?_ (.cons ?_ (.cons (.refl _) (.cons (.refl _) .nil))))) .nil)
  ·refine LeV.frz rfl (by simp) (by simp [noH, upd]) ?_
   exact .refl _
  ·refine LeV.frz rfl (by simp) (by simp [noH, upd]) ?_
   exact .refl _
 ·simp
theorem znF (l : List zaj) (hi : Inc l) (hl : l.length ≤ 17179869184) (hf : ∀ q ∈ l, za0 q) (p : zaj) (hp : za0 p) :
  zaC Tryz.prog 98 [zaz l, .agg (zad p), .fn (.func 42) [] []] (.tup [.v (.int .i64 (znm l p)), .v (.bool (decide (p ∈ l)))]) := by
 refine pF Tryz.func98 ?_
 have hle := zws l p
 have hmem := zr1 hi p
 have hiff := fun h hn => zr0 hi p (h := h) hn
 generalize znm l p = w at *
 repeat first|with_reducible refine wV fun _=>?_|simp [go_sem]
 refine zBm (zBr (α := Nat × Nat) (fun a => ⟨[(0, zaz l), (2, .fn (.func 42) [] []), (4, .ref 0 0 5 0 0), (8, .v (.int .i64 l.length)), (9, .v (.int .i64 a.1)), (10, .v (.int .i64 a.2))], [(0, .rows true 0 5 [zad p])], 1⟩)
  (fun d a => a.2 - a.1 ≤ d ∧ a.1 ≤ w ∧ w ≤ a.2 ∧ a.2 ≤ l.length) ?_ l.length (0, l.length) ?_) ?_ ?_
 ·rintro d ⟨i, j⟩ ⟨i1, i2, i3, i4⟩ hrec
  simp only at i1 i2 i3 i4
  have hdiv : ((i : Int) + j).fdiv 2 = ((i + j) / 2 : Nat) := by rw [Int.fdiv_eq_ediv_of_nonneg _ (by omega)]; omega
  repeat first|with_reducible refine wV fun _=>?_|simp [go_sem]
  refine zBo (fun hlt => ?_) (fun hlt => ?_) <;> simp at hlt
  ·have hm : (i + j) / 2 < l.length := by omega
   have hm2 : i ≤ (i + j) / 2 ∧ (i + j) / 2 < j := by omega
   generalize hmid : (i + j) / 2 = mid at *
   repeat first|with_reducible refine wV fun _=>?_|simp [go_sem, hdiv, hm]
   refine zBq (zbL (nth l mid) p (hf _ (zan hm)) hp) (by simp [go_sem]) ?_
   have hi2 := hiff mid hm
   generalize zbB (nth l mid) p = c at *
   repeat first|with_reducible refine wV fun _=>?_|simp [go_sem]
   refine zBo (fun hc => ?_) (fun hc => ?_) <;> simp at hc
   ·have := hi2.1 hc
    repeat first|with_reducible refine wV fun _=>?_|simp [go_sem]
    refine zBm (hrec (d - 1) (by omega) (mid + 1, j) ⟨by simp only; omega, by simp only; omega, by simp only; omega, by simp only; omega⟩) ?_ (by simp)
    simp [go_sem, zah]
   ·have : ¬ mid < w := fun h => by have := hi2.2 h; omega
    repeat first|with_reducible refine wV fun _=>?_|simp [go_sem]
    refine zBm (hrec (d - 1) (by omega) (i, mid) ⟨by simp only; omega, by simp only; omega, by simp only; omega, by simp only; omega⟩) ?_ (by simp)
    simp [go_sem, zah]
  ·obtain rfl : i = w := by omega
   by_cases hw : i < l.length
   ·have hC := zbL (nth l i) p (hf _ (zan hw)) hp
    have e : decide (p ∈ l) = decide (zbB (nth l i) p = 0) := by
     rw [decide_eq_decide, hmem, zbd.eq]
     exact ⟨fun h => h.2, fun h => ⟨hw, h⟩⟩
    rw [e]
    generalize zbB (nth l i) p = c at *
    repeat first|with_reducible refine wV fun _=>?_|simp [go_sem, hw]
    refine zBz _ (fun _ => hC) (by simp [go_sem]) ?_
    repeat first|with_reducible refine wV fun _=>?_|simp [go_sem, hw]
   ·have e : decide (p ∈ l) = false := decide_eq_false fun h => hw (hmem.1 h).1
    rw [e]
    repeat first|with_reducible refine wV fun _=>?_|simp [go_sem, hw]
    refine dGC.skip (.v (.int .i64 0)) ?_
    repeat first|with_reducible refine wV fun _=>?_|simp [go_sem, hw]
 ·exact ⟨by simp, by simp, hle, by simp⟩
 ·simp [go_sem, zah]
 ·simp
theorem zmi (l : List zaj) (hi : Inc l) (hl : l.length ≤ 17179869184) (hf : ∀ q ∈ l, za0 q) (p : zaj) (hp : za0 p) :
  zaC Tryz.prog 45 [zaz l, .agg (zad p)] (.v (.int .i64 (zyB l p))) := by
 refine pF Tryz.func45 ?_
 have hB := znF l hi hl hf p hp
 rw [zyC hi]
 repeat first|with_reducible refine wV fun _=>?_|simp [go_sem]
 refine zBn hB (by simp [go_sem]) ?_
 repeat first|with_reducible refine wV fun _=>?_|simp [go_sem]
 by_cases h : p ∈ l
 ·rw [if_pos h]
  repeat first|with_reducible refine wV fun _=>?_|simp [go_sem, h]
 ·rw [if_neg h]
  repeat first|with_reducible refine wV fun _=>?_|simp [go_sem, h]
end Go.Av
end
