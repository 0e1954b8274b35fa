/- IndexLimits: the call gives true. -/
import Derived.Test.YtmmboiafelbgbaaCB
import Derived.Test.YtmmboiafelbgbaaIdxL
set_option linter.unusedSimpArgs false
set_option linter.unusedVariables false
open Go Go.Proofs
set_option maxRecDepth 20000
set_option maxHeartbeats 4000000
namespace Go.Av
def mat3 (x y z h r : Int) : PosD := ⟨[x, y, z], [h], [0], r, 1⟩
theorem fill3 (x y z : Int) : fillL 0 [x, y, z] = List.replicate x.toNat 0 ++ (List.replicate y.toNat 1 ++ List.replicate z.toNat 2) := by simp [fillL]
theorem matOk3 {c : Nat} {x y z h r : Int} (hx : 0 ≤ x) (hy : 0 ≤ y) (hz : 0 ≤ z) : matOk (blankG c 1) (mat3 x y z h r) = (decide (x + y + z = c) && decide (0 ≤ h ∧ h ≤ 8) && decide (0 ≤ r ∧ r < 4)) := by
  have hlen : (((fillL 0 [x, y, z]).length : Nat) : Int) = x + y + z := by rw [fill3]; simp; omega
  have hc : ∀ k ∈ fillL 0 [x, y, z], contOk (blankG c 1) k = true := by
    intro k hk
    rw [fill3] at hk
    simp only [List.mem_append, List.mem_replicate] at hk
    rcases hk with ⟨_, rfl⟩ | ⟨_, rfl⟩ | ⟨_, rfl⟩ <;> simp [contOk, blankG]
  have hcn : (fillL 0 [x, y, z]).any (fun k => !contOk (blankG c 1) k) = false := by simp; exact hc
  have hH0 : handOk (blankG c 1) [h] = decide (0 ≤ h ∧ h ≤ 8) := by
    simp [handOk, blankG, handGo, blankK, List.range_succ]
  have hH1 : handOk (blankG c 1) [0] = true := by simp [handOk, blankG, handGo, blankK, List.range_succ]
  unfold matOk posOk
  simp only [filledP, mat3, hcn, hlen, hH0, hH1]
  by_cases hr : 0 ≤ r
  · rw [Bool.eq_iff_iff]
    simp [blankG, oddN, hr]
    omega
  · rw [Bool.eq_iff_iff]
    simp [blankG, oddN, hr]
theorem matOk3_neg {c : Nat} {x y z h r : Int} (hx : x < 0 ∨ y < 0 ∨ z < 0) : matOk (blankG c 1) (mat3 x y z h r) = false := by
  have : (mat3 x y z h r).at_.any (oddN (blankG c 1)) = true := by simp [mat3, oddN, blankG]; omega
  unfold matOk
  simp [this]
def lesO (W : Int) : Int × Int := if W = big then (0, 2) else (W, 0)
theorem size3 {c : Nat} {x y z h r : Int} (hm : matOk (blankG c 1) (mat3 x y z h r) = true) : sizeOf_ (blankG c 1) (mat3 x y z h r) = lesO (ways [x, y, z]) := by
  unfold sizeOf_ lesO
  rw [if_neg (by simp [hm])]; rfl
theorem size3_no {c : Nat} {x y z h r : Int} (hm : matOk (blankG c 1) (mat3 x y z h r) = false) : sizeOf_ (blankG c 1) (mat3 x y z h r) = (0, 140) := by
  unfold sizeOf_
  rw [if_pos hm]
theorem ways3 {x y z : Int} (hx : 0 ≤ x) (hy : 0 ≤ y) (hz : 0 ≤ z) (hs : x + y + z ≤ 64) : waysR [x, y, z] = ways [x, y, z] ∧ 1 ≤ ways [x, y, z] ∧ ways [x, y, z] ≤ 1099511627777 := by
  have hn : ∀ k ∈ [x, y, z], 0 ≤ k := by simp; omega
  have h1 := ways_toN hn (by simp [toN]; omega)
  have h2 := waysR_toN hn
  have := arr_pos 0 (toN [x, y, z])
  refine ⟨by rw [h1, h2], ?_, (ways_bound _).2⟩
  rw [h1]; unfold capped; omega
theorem IndexLimits_pure (w0 w1 w2 le : Int) (p0 : 0 ≤ w0 ∧ w0 ≤ 255) (p1 : 0 ≤ w1 ∧ w1 ≤ 255) (p2 : 0 ≤ w2 ∧ w2 ≤ 255) (p3 : -128 ≤ le ∧ le ≤ 127) :
    Pure Try.prog 11 [.agg [.v (.int .u8 w0), .v (.int .u8 w1), .v (.int .u8 w2)], .v (.int .i8 le)] (.v (.bool true)) := by
  have n0 := Int.tmod_nonneg 64 p0.1
  have n1 := Int.tmod_lt_of_pos w0 (show (0 : Int) < 64 by decide)
  obtain ⟨c, hc⟩ : ∃ c : Nat, (1 + w0.tmod 64) = c := ⟨(1 + w0.tmod 64).toNat, by omega⟩
  have n2 := Int.tmod_nonneg ((c : Int) + 1) p1.1
  have n3 := Int.tmod_lt_of_pos w1 (show (0 : Int) < (c : Int) + 1 by omega)
  generalize hya : w1.tmod ((c : Int) + 1) = y at *
  have n4 := Int.tmod_nonneg ((c : Int) - y + 1) p2.1
  have n5 := Int.tmod_lt_of_pos w2 (show (0 : Int) < (c : Int) - y + 1 by omega)
  generalize hza : w2.tmod ((c : Int) - y + 1) = z at *
  have c1 : 1 ≤ c := by omega
  have c2 : c ≤ 64 := by omega
  have hB : Pure Try.prog 39 [.v (.int .i64 c), .v (.int .i64 1)] (.agg (encGame (blankG c 1))) := Blank_pure c 1 (by omega) (by omega)
  have q1 : FitsG (blankG c 1) := by simp [FitsG, blankG]
  have q2 : FitsR (blankG c 1) := by simp [FitsR, blankG]
  have q3 : (blankG c 1).cells ≤ 64 := by simp [blankG]; omega
  have q4 : (blankG c 1).kinds.length ≤ 400 := by simp [blankG]
  have hS : ∀ (a b d h r : Int) (s : Int × Int), sizeOf_ (blankG c 1) (mat3 a b d h r) = s → Pure Try.prog 29 [.agg (encGame (blankG c 1)), .agg (encPos (mat3 a b d h r))] (.tup [.v (.int .i64 s.1), .v (.int .i64 s.2)]) := by
    intro a b d h r s hs
    subst hs
    exact Size_pure _ q1 q2 q3 q4 _ (by simp [mat3]) (by simp [Fits, mat3]) (by simp [Fits, mat3])
  have hA : ∀ (a b d h r : Int), Pure Try.prog 33 [.agg (encGame (blankG c 1)), .agg (encPos (mat3 a b d h r)), .v (.int .i64 0)] (.tup [.agg (encPos (atOf (blankG c 1) (mat3 a b d h r) 0).1), .v (.int .i64 (atOf (blankG c 1) (mat3 a b d h r) 0).2)]) := by
    intro a b d h r
    exact At_pure _ q1 q2 q3 q4 _ (by simp [mat3]) (by simp [Fits, mat3]) (by simp [Fits, mat3]) 0
  have hV : ∀ (a b d h r : Int) (s : Bool), matOk (blankG c 1) (mat3 a b d h r) = s → Pure Try.prog 31 [.agg (encGame (blankG c 1)), .agg (encPos (mat3 a b d h r))] (.v (.bool s)) := by
    intro a b d h r s hs
    subst hs
    exact ixValid_pure _ q1 q2 q3 q4 _ (by simp [mat3]) (by simp [Fits, mat3]) (by simp [Fits, mat3])
  obtain ⟨x, hxa⟩ : ∃ x : Int, (c : Int) - y - z = x := ⟨_, rfl⟩
  have hx0 : 0 ≤ x := by omega
  obtain ⟨w1', w2', w3'⟩ := ways3 hx0 n2 n4 (by omega)
  have m0 : matOk (blankG c 1) (mat3 x y z 8 3) = true := by rw [matOk3 hx0 n2 n4]; simp; omega
  have m1 : matOk (blankG c 1) (mat3 (x + le) y z 8 3) = decide (le = 0) := by
    by_cases h : x + le < 0
    · rw [matOk3_neg (.inl h)]; simp; omega
    · rw [matOk3 (by omega) n2 n4, Bool.eq_iff_iff]; simp; omega
  have m2 : matOk (blankG c 1) (mat3 ((c : Int) + 1) (-1) 0 8 3) = false := matOk3_neg (by omega)
  have m3 : matOk (blankG c 1) (mat3 x y z 8 4) = false := by rw [matOk3 hx0 n2 n4]; simp
  have m4 : matOk (blankG c 1) (mat3 x y z 9 3) = false := by rw [matOk3 hx0 n2 n4]; simp
  have z0 := hS x y z 8 3 _ (size3 m0)
  have z2 := hS ((c : Int) + 1) (-1) 0 8 3 _ (size3_no m2)
  have z3 := hS x y z 8 4 _ (size3_no m3)
  have v4 := hV x y z 9 3 _ m4
  have v1 := hV (x + le) y z 8 3 _ m1
  have hRp := waysR_pure [x, y, z] (by simp) (by simp; omega)
  rw [w1'] at hRp
  obtain ⟨s1, s2, hs1, z1, hat⟩ : ∃ s1 s2 : Int, (s2 = 140 ↔ le ≠ 0) ∧ Pure Try.prog 29 [.agg (encGame (blankG c 1)), .agg (encPos (mat3 (x + le) y z 8 3))] (.tup [.v (.int .i64 s1), .v (.int .i64 s2)]) ∧ ((atOf (blankG c 1) (mat3 (x + le) y z 8 3) 0).2 = 140 ↔ le ≠ 0) := by
    by_cases h : le = 0
    · subst h
      have e := size3 (c := c) (x := x + 0) (y := y) (z := z) (h := 8) (r := 3) (by rw [m1]; rfl)
      rw [Int.add_zero] at *
      refine ⟨_, _, ?_, hS x y z 8 3 _ e, ?_⟩
      · unfold lesO; split <;> simp
      · unfold atOf
        rw [e]
        unfold lesO
        split
        · simp
        · simp
          rw [if_neg (by omega)]; simp
    · have e := size3_no (c := c) (x := x + le) (y := y) (z := z) (h := 8) (r := 3) (by rw [m1]; simpa using h)
      refine ⟨_, _, ?_, hS (x + le) y z 8 3 _ e, ?_⟩
      · simp [h]
      · unfold atOf
        rw [e]
        simp [h]
  have a1 := hA (x + le) y z 8 3
  generalize (atOf (blankG c 1) (mat3 (x + le) y z 8 3) 0).2 = s3 at *
  have hatc : ∀ n, ∀ c' ∈ encPos (atOf (blankG c 1) (mat3 (x + le) y z 8 3) 0).1, Bel n c' := fun n => by simp [go_sem]
  generalize (atOf (blankG c 1) (mat3 (x + le) y z 8 3) 0).1 = pAt at *
  have hel : (encGame (blankG c 1)).length = 9 := rfl
  have hbl : ∀ n, (∀ c' ∈ encGame (blankG c 1), Bel n c') = True := fun n => by simp [go_sem]
  clear hS hA hV m0 m1 m2 m3 m4
  generalize encGame (blankG c 1) = eg at *
  generalize ways [x, y, z] = W at *
  refine Pure.of (ACallP.of_awp (by kernel_rfl) Try.func11 rfl rfl (Nat.le_of_ble_eq_true rfl) (by kernel_rfl) ?_)
  (repeat (first | ((with_reducible refine VC.mkL ?_ fun _ => ?_); · first | omega | exact True.intro | rfl) | ((with_reducible refine VC.mkD ?_ fun _ => ?_); · first | omega | exact True.intro | (intros; omega)) | ((with_reducible refine dEnd.mk ?_ ?_); · kernel_rfl) | (simp [go_sem])))
  refine ACallP.plain ok14_pure (by simp [go_sem]) ?_
  (repeat (first | ((with_reducible refine VC.mkL ?_ fun _ => ?_); · first | omega | exact True.intro | rfl) | ((with_reducible refine VC.mkD ?_ fun _ => ?_); · first | omega | exact True.intro | (intros; omega)) | ((with_reducible refine dEnd.mk ?_ ?_); · kernel_rfl) | (simp [go_sem, hc])))
  refine ACallP.plain hB (by simp [go_sem]) ?_
  clear hB
  (repeat (first | ((with_reducible refine VC.mkL ?_ fun _ => ?_); · first | omega | exact True.intro | rfl) | ((with_reducible refine VC.mkD ?_ fun _ => ?_); · first | omega | exact True.intro | (intros; omega)) | ((with_reducible refine dEnd.mk ?_ ?_); · kernel_rfl) | (simp [go_sem, hel, hya, hza, hxa])))
  refine ACallP.flat hRp (.v _) ?_ bel_Is1 ?_
  · simp only [encIs]
    refine LeRow.cons (LeV.frz rfl ?_ ?_ (LeRows.of_eq ?_)) LeRow.nil <;> simp [noH, encI]
  (repeat (first | ((with_reducible refine VC.mkL ?_ fun _ => ?_); · first | omega | exact True.intro | rfl) | ((with_reducible refine VC.mkD ?_ fun _ => ?_); · first | omega | exact True.intro | (intros; omega)) | ((with_reducible refine dEnd.mk ?_ ?_); · kernel_rfl) | (simp [go_sem, hel])))
  refine ACallP.flat z0 (.tup (by intro x hx; simp at hx; rcases hx with rfl | rfl <;> exact .v _)) ?_ (by simp [go_sem, hbl, mat3]) ?_
  · simp only [encPos, encIs, mat3]
    refine LeRow.cons (.refl _) (LeRow.cons (LeV.agg (LeRow.cons ?_ (LeRow.cons ?_ (LeRow.cons ?_ (LeRow.refl _ _ _ _))))) LeRow.nil) <;> (refine LeV.frz rfl ?_ ?_ (LeRows.of_eq ?_) <;> simp [noH, encI])
  have hz : (W ≤ 1099511627776 ∧ lesO W = (W, 0)) ∨ (1099511627776 < W ∧ lesO W = (0, 2)) := by
    unfold lesO big
    by_cases h : W = 1099511627777
    · exact .inr ⟨by omega, by rw [if_pos h]⟩
    · exact .inl ⟨by omega, by rw [if_neg h]⟩
  rcases hz with ⟨hz1, hz2⟩ | ⟨hz1, hz2⟩
  · rw [hz2]
    (repeat (first | ((with_reducible refine VC.mkL ?_ fun _ => ?_); · first | omega | exact True.intro | rfl) | ((with_reducible refine VC.mkD ?_ fun _ => ?_); · first | omega | exact True.intro | (intros; omega)) | ((with_reducible refine dEnd.mk ?_ ?_); · kernel_rfl) | (simp [go_sem, hel, hz1])))
    (refine aIf.mkL (fun hF => by first | omega | (simp at hF; omega)) (fun hF => ?_); clear hF)
    (repeat (first | ((with_reducible refine VC.mkL ?_ fun _ => ?_); · first | omega | exact True.intro | rfl) | ((with_reducible refine VC.mkD ?_ fun _ => ?_); · first | omega | exact True.intro | (intros; omega)) | ((with_reducible refine dEnd.mk ?_ ?_); · kernel_rfl) | (simp [go_sem, hel, hxa])))
    refine ACallP.flat z1 (.tup (by intro x hx; simp at hx; rcases hx with rfl | rfl <;> exact .v _)) ?_ (by simp [go_sem, hbl, mat3]) ?_
    · simp only [encPos, encIs, mat3]
      refine LeRow.cons (.refl _) (LeRow.cons (LeV.agg (LeRow.cons ?_ (LeRow.cons ?_ (LeRow.cons ?_ (LeRow.refl _ _ _ _))))) LeRow.nil) <;> (refine LeV.frz rfl ?_ ?_ (LeRows.of_eq ?_) <;> simp [noH, encI])
    (repeat (first | ((with_reducible refine VC.mkL ?_ fun _ => ?_); · first | omega | exact True.intro | rfl) | ((with_reducible refine VC.mkD ?_ fun _ => ?_); · first | omega | exact True.intro | (intros; omega)) | ((with_reducible refine dEnd.mk ?_ ?_); · kernel_rfl) | (simp [go_sem, hel])))
    refine ACallP.pureF [7, 3, 4] a1 ?_ (by simp [go_sem, hbl, mat3]) ?_
    · simp only [encPos, encIs, mat3]
      refine LeRow.cons (.refl _) (LeRow.cons (LeV.agg (LeRow.cons ?_ (LeRow.cons ?_ (LeRow.cons ?_ (LeRow.refl _ _ _ _))))) (LeRow.refl _ _ _ _)) <;> (refine LeV.frz rfl ?_ ?_ (LeRows.of_eq ?_) <;> simp [frzO, frz1, upd, encI])
    (repeat (first | ((with_reducible refine VC.mkL ?_ fun _ => ?_); · first | omega | exact True.intro | rfl) | ((with_reducible refine VC.mkD ?_ fun _ => ?_); · first | omega | exact True.intro | (intros; omega)) | ((with_reducible refine dEnd.mk ?_ ?_); · kernel_rfl) | (simp [go_sem, hel])))
    refine ACallP.flat v1 (.v _) ?_ (by simp [go_sem, hbl, mat3]) ?_
    · simp only [encPos, encIs, mat3]
      refine LeRow.cons (.refl _) (LeRow.cons (LeV.agg (LeRow.cons ?_ (LeRow.cons ?_ (LeRow.cons ?_ (LeRow.refl _ _ _ _))))) LeRow.nil) <;> (refine LeV.frz rfl ?_ ?_ (LeRows.of_eq ?_) <;> simp [noH, encI])
    (repeat (first | ((with_reducible refine VC.mkL ?_ fun _ => ?_); · first | omega | exact True.intro | rfl) | ((with_reducible refine VC.mkD ?_ fun _ => ?_); · first | omega | exact True.intro | (intros; omega)) | ((with_reducible refine dEnd.mk ?_ ?_); · kernel_rfl) | (simp [go_sem, hel, hs1, hat])))
    refine ACallP.flat z2 (.tup (by intro x hx; simp at hx; rcases hx with rfl | rfl <;> exact .v _)) ?_ (by simp [go_sem, hbl, mat3]) ?_
    · simp only [encPos, encIs, mat3]
      refine LeRow.cons (.refl _) (LeRow.cons (LeV.agg (LeRow.cons ?_ (LeRow.cons ?_ (LeRow.cons ?_ (LeRow.refl _ _ _ _))))) LeRow.nil) <;> (refine LeV.frz rfl ?_ ?_ (LeRows.of_eq ?_) <;> simp [noH, encI])
    (repeat (first | ((with_reducible refine VC.mkL ?_ fun _ => ?_); · first | omega | exact True.intro | rfl) | ((with_reducible refine VC.mkD ?_ fun _ => ?_); · first | omega | exact True.intro | (intros; omega)) | ((with_reducible refine dEnd.mk ?_ ?_); · kernel_rfl) | (simp [go_sem, hel])))
    refine ACallP.flat z3 (.tup (by intro x hx; simp at hx; rcases hx with rfl | rfl <;> exact .v _)) ?_ (by simp [go_sem, hbl, mat3]) ?_
    · simp only [encPos, encIs, mat3]
      refine LeRow.cons (.refl _) (LeRow.cons (LeV.agg (LeRow.cons ?_ (LeRow.cons ?_ (LeRow.cons ?_ (LeRow.refl _ _ _ _))))) LeRow.nil) <;> (refine LeV.frz rfl ?_ ?_ (LeRows.of_eq ?_) <;> simp [noH, encI])
    (repeat (first | ((with_reducible refine VC.mkL ?_ fun _ => ?_); · first | omega | exact True.intro | rfl) | ((with_reducible refine VC.mkD ?_ fun _ => ?_); · first | omega | exact True.intro | (intros; omega)) | ((with_reducible refine dEnd.mk ?_ ?_); · kernel_rfl) | (simp [go_sem, hel])))
    refine aGC.flat _ _ (fun _ => v4) (.v _) ?_ (by simp [go_sem, hbl, mat3]) ?_
    · simp only [encPos, encIs, mat3]
      refine LeRow.cons (.refl _) (LeRow.cons (LeV.agg (LeRow.cons ?_ (LeRow.cons ?_ (LeRow.cons ?_ (LeRow.refl _ _ _ _))))) LeRow.nil) <;> (refine LeV.frz rfl ?_ ?_ (LeRows.of_eq ?_) <;> simp [noH, encI])
    (repeat (first | ((with_reducible refine VC.mkL ?_ fun _ => ?_); · first | omega | exact True.intro | rfl) | ((with_reducible refine VC.mkD ?_ fun _ => ?_); · first | omega | exact True.intro | (intros; omega)) | ((with_reducible refine dEnd.mk ?_ ?_); · kernel_rfl) | (simp [go_sem, hel])))
  · rw [hz2]
    (repeat (first | ((with_reducible refine VC.mkL ?_ fun _ => ?_); · first | omega | exact True.intro | rfl) | ((with_reducible refine VC.mkD ?_ fun _ => ?_); · first | omega | exact True.intro | (intros; omega)) | ((with_reducible refine dEnd.mk ?_ ?_); · kernel_rfl) | (simp [go_sem, hel, hz1])))
    (refine aIf.mkL (fun hF => by first | omega | (simp at hF; omega)) (fun hF => ?_); clear hF)
    (repeat (first | ((with_reducible refine VC.mkL ?_ fun _ => ?_); · first | omega | exact True.intro | rfl) | ((with_reducible refine VC.mkD ?_ fun _ => ?_); · first | omega | exact True.intro | (intros; omega)) | ((with_reducible refine dEnd.mk ?_ ?_); · kernel_rfl) | (simp [go_sem, hel, hxa])))
    refine ACallP.flat z1 (.tup (by intro x hx; simp at hx; rcases hx with rfl | rfl <;> exact .v _)) ?_ (by simp [go_sem, hbl, mat3]) ?_
    · simp only [encPos, encIs, mat3]
      refine LeRow.cons (.refl _) (LeRow.cons (LeV.agg (LeRow.cons ?_ (LeRow.cons ?_ (LeRow.cons ?_ (LeRow.refl _ _ _ _))))) LeRow.nil) <;> (refine LeV.frz rfl ?_ ?_ (LeRows.of_eq ?_) <;> simp [noH, encI])
    (repeat (first | ((with_reducible refine VC.mkL ?_ fun _ => ?_); · first | omega | exact True.intro | rfl) | ((with_reducible refine VC.mkD ?_ fun _ => ?_); · first | omega | exact True.intro | (intros; omega)) | ((with_reducible refine dEnd.mk ?_ ?_); · kernel_rfl) | (simp [go_sem, hel])))
    refine ACallP.pureF [7, 3, 4] a1 ?_ (by simp [go_sem, hbl, mat3]) ?_
    · simp only [encPos, encIs, mat3]
      refine LeRow.cons (.refl _) (LeRow.cons (LeV.agg (LeRow.cons ?_ (LeRow.cons ?_ (LeRow.cons ?_ (LeRow.refl _ _ _ _))))) (LeRow.refl _ _ _ _)) <;> (refine LeV.frz rfl ?_ ?_ (LeRows.of_eq ?_) <;> simp [frzO, frz1, upd, encI])
    (repeat (first | ((with_reducible refine VC.mkL ?_ fun _ => ?_); · first | omega | exact True.intro | rfl) | ((with_reducible refine VC.mkD ?_ fun _ => ?_); · first | omega | exact True.intro | (intros; omega)) | ((with_reducible refine dEnd.mk ?_ ?_); · kernel_rfl) | (simp [go_sem, hel])))
    refine ACallP.flat v1 (.v _) ?_ (by simp [go_sem, hbl, mat3]) ?_
    · simp only [encPos, encIs, mat3]
      refine LeRow.cons (.refl _) (LeRow.cons (LeV.agg (LeRow.cons ?_ (LeRow.cons ?_ (LeRow.cons ?_ (LeRow.refl _ _ _ _))))) LeRow.nil) <;> (refine LeV.frz rfl ?_ ?_ (LeRows.of_eq ?_) <;> simp [noH, encI])
    (repeat (first | ((with_reducible refine VC.mkL ?_ fun _ => ?_); · first | omega | exact True.intro | rfl) | ((with_reducible refine VC.mkD ?_ fun _ => ?_); · first | omega | exact True.intro | (intros; omega)) | ((with_reducible refine dEnd.mk ?_ ?_); · kernel_rfl) | (simp [go_sem, hel, hs1, hat])))
    refine ACallP.flat z2 (.tup (by intro x hx; simp at hx; rcases hx with rfl | rfl <;> exact .v _)) ?_ (by simp [go_sem, hbl, mat3]) ?_
    · simp only [encPos, encIs, mat3]
      refine LeRow.cons (.refl _) (LeRow.cons (LeV.agg (LeRow.cons ?_ (LeRow.cons ?_ (LeRow.cons ?_ (LeRow.refl _ _ _ _))))) LeRow.nil) <;> (refine LeV.frz rfl ?_ ?_ (LeRows.of_eq ?_) <;> simp [noH, encI])
    (repeat (first | ((with_reducible refine VC.mkL ?_ fun _ => ?_); · first | omega | exact True.intro | rfl) | ((with_reducible refine VC.mkD ?_ fun _ => ?_); · first | omega | exact True.intro | (intros; omega)) | ((with_reducible refine dEnd.mk ?_ ?_); · kernel_rfl) | (simp [go_sem, hel])))
    refine ACallP.flat z3 (.tup (by intro x hx; simp at hx; rcases hx with rfl | rfl <;> exact .v _)) ?_ (by simp [go_sem, hbl, mat3]) ?_
    · simp only [encPos, encIs, mat3]
      refine LeRow.cons (.refl _) (LeRow.cons (LeV.agg (LeRow.cons ?_ (LeRow.cons ?_ (LeRow.cons ?_ (LeRow.refl _ _ _ _))))) LeRow.nil) <;> (refine LeV.frz rfl ?_ ?_ (LeRows.of_eq ?_) <;> simp [noH, encI])
    (repeat (first | ((with_reducible refine VC.mkL ?_ fun _ => ?_); · first | omega | exact True.intro | rfl) | ((with_reducible refine VC.mkD ?_ fun _ => ?_); · first | omega | exact True.intro | (intros; omega)) | ((with_reducible refine dEnd.mk ?_ ?_); · kernel_rfl) | (simp [go_sem, hel])))
    refine aGC.flat _ _ (fun _ => v4) (.v _) ?_ (by simp [go_sem, hbl, mat3]) ?_
    · simp only [encPos, encIs, mat3]
      refine LeRow.cons (.refl _) (LeRow.cons (LeV.agg (LeRow.cons ?_ (LeRow.cons ?_ (LeRow.cons ?_ (LeRow.refl _ _ _ _))))) LeRow.nil) <;> (refine LeV.frz rfl ?_ ?_ (LeRows.of_eq ?_) <;> simp [noH, encI])
    (repeat (first | ((with_reducible refine VC.mkL ?_ fun _ => ?_); · first | omega | exact True.intro | rfl) | ((with_reducible refine VC.mkD ?_ fun _ => ?_); · first | omega | exact True.intro | (intros; omega)) | ((with_reducible refine dEnd.mk ?_ ?_); · kernel_rfl) | (simp [go_sem, hel])))
end Go.Av
