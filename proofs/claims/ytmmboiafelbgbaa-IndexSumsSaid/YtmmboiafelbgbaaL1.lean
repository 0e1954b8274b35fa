/- IndexSums: the call gives true. -/
import Derived.Test.YtmmboiafelbgbaaCA
set_option linter.unusedSimpArgs false
set_option linter.unusedVariables false
open Go Go.Proofs
set_option maxRecDepth 20000
set_option maxHeartbeats 2000000
namespace Go.Av
def matS (c a b : Nat) : PosD := ⟨[(c : Int) - a - b, a, b], [0], [0], 0, 0⟩
def sizS (c a b : Nat) : Int := (sizeOf_ (blankG c 1) (matS c a b)).1
def innS (c a : Nat) : Nat → Int
  | 0 => 0
  | k + 1 => innS c a k + sizS c a k
def outS (c : Nat) : Nat → Int
  | 0 => 0
  | k + 1 => outS c k + innS c k (c - k + 1)
def sumsB : Bool := (List.range 9).all fun c => (List.range 9).all fun a => (List.range 9).all fun b => decide (c < 1) || decide (c < a + b) || (decide ((sizeOf_ (blankG c 1) (matS c a b)).2 = 0) && decide (0 ≤ sizS c a b) && decide (sizS c a b ≤ 100000))
theorem sumsB_ok : sumsB = true := by decide +kernel
theorem sums_ok (c : Nat) (c2 : c < 9) (a : Nat) (a2 : a < 9) (b : Nat) (b2 : b < 9) (c1 : 1 ≤ c) (h : a + b ≤ c) : (sizeOf_ (blankG c 1) (matS c a b)).2 = 0 ∧ 0 ≤ sizS c a b ∧ sizS c a b ≤ 100000 := by
  have h1 := List.all_eq_true.1 sumsB_ok c (List.mem_range.2 c2)
  have h2 := List.all_eq_true.1 h1 a (List.mem_range.2 a2)
  have h3 := List.all_eq_true.1 h2 b (List.mem_range.2 b2)
  simp only [Bool.or_eq_true, Bool.and_eq_true, decide_eq_true_eq] at h3
  rcases h3 with (h3 | h3) | h3
  · omega
  · omega
  · exact ⟨h3.1.1, h3.1.2, h3.2⟩
theorem sums_all : ∀ c < 9, 1 ≤ c → outS c (c + 1) = 3 ^ c := by decide +kernel
theorem innS_bound {c a : Nat} (h1 : 1 ≤ c) (h2 : c < 9) : ∀ k, a + k ≤ c + 1 → 0 ≤ innS c a k ∧ innS c a k ≤ 100000 * k
  | 0, _ => by simp [innS]
  | k + 1, h => by
    have h3 := innS_bound (a := a) h1 h2 k (by omega)
    have h4 := (sums_ok c h2 a (by omega) k (by omega) h1 (by omega)).2
    simp only [innS]
    omega
theorem outS_bound {c : Nat} (h1 : 1 ≤ c) (h2 : c < 9) : ∀ k, k ≤ c + 1 → 0 ≤ outS c k ∧ outS c k ≤ 1000000 * k
  | 0, _ => by simp [outS]
  | k + 1, h => by
    have h3 := outS_bound h1 h2 k (by omega)
    have h4 := innS_bound h1 h2 (a := k) (c - k + 1) (by omega)
    simp only [outS]
    omega
theorem pow3_bound : ∀ c < 9, (1 : Int) ≤ 3 ^ c ∧ (3 : Int) ^ c ≤ 6561 := by decide
theorem IndexSums_pure (n : Int) (h0 : 0 ≤ n) (h1 : n ≤ 255) : Pure Try.prog 10 [.v (.int .u8 n)] (.v (.bool true)) := by
  obtain ⟨c, hc⟩ : ∃ c : Nat, (1 + n.tmod 8) = c := ⟨(1 + n.tmod 8).toNat, by have := Int.tmod_nonneg 8 h0; omega⟩
  have hc1 : 1 ≤ c ∧ c < 9 := by have := Int.tmod_nonneg 8 h0; have := Int.tmod_lt_of_pos n (show (0 : Int) < 8 by decide); omega
  obtain ⟨c1, c2⟩ := hc1
  have hB : Pure Try.prog 39 [.v (.int .i64 c), .v (.int .i64 1)] (.agg (encGame (blankG c 1))) := Blank_pure c 1 (by omega) (by omega)
  have hS : ∀ a b : Nat, a + b ≤ c → Pure Try.prog 29 [.agg (encGame (blankG c 1)), .agg (encPos (matS c a b))] (.tup [.v (.int .i64 (sizS c a b)), .v (.int .i64 0)]) := by
    intro a b hab
    have := Size_pure (blankG c 1) (by simp [FitsG, blankG]) (by simp [FitsR, blankG]) (by simp [blankG]; omega) (by simp [blankG]) (matS c a b) (by simp [matS]) (by simp [Fits, matS]) (by simp [Fits, matS])
    rw [(sums_ok c c2 a (by omega) b (by omega) c1 hab).1] at this
    exact this
  refine Pure.of (ACallP.of_awp (by kernel_rfl) Try.func10 rfl rfl (Nat.le_of_ble_eq_true rfl) (by kernel_rfl) ?_)
  (repeat (first | ((with_reducible refine VC.mkL ?_ fun _ => ?_); · first | omega | exact True.intro | rfl) | ((with_reducible refine VC.mkD ?_ fun _ => ?_); · first | omega | exact True.intro | (intros; omega)) | ((with_reducible refine dEnd.mk ?_ ?_); · kernel_rfl) | (simp [go_sem])))
  refine ACallP.plain ok14_pure (by simp [go_sem]) ?_
  (repeat (first | ((with_reducible refine VC.mkL ?_ fun _ => ?_); · first | omega | exact True.intro | rfl) | ((with_reducible refine VC.mkD ?_ fun _ => ?_); · first | omega | exact True.intro | (intros; omega)) | ((with_reducible refine dEnd.mk ?_ ?_); · kernel_rfl) | (simp [go_sem, hc])))
  refine ACallP.plain hB (by simp [go_sem]) ?_
  have hel : (encGame (blankG c 1)).length = 9 := rfl
  have hbl : ∀ n, (∀ c' ∈ encGame (blankG c 1), Bel n c') = True := fun n => by simp [go_sem]
  generalize encGame (blankG c 1) = eg at *
  (repeat (first | ((with_reducible refine VC.mkL ?_ fun _ => ?_); · first | omega | exact True.intro | rfl) | ((with_reducible refine VC.mkD ?_ fun _ => ?_); · first | omega | exact True.intro | (intros; omega)) | ((with_reducible refine dEnd.mk ?_ ?_); · kernel_rfl) | (simp [go_sem, hel])))
  refine ALoop.start (ALoop.ind (α := Nat) (fun i => ⟨[(3, .v (.bool true)), (4, .v (.int .i64 c)), (5, .v (.int .i64 0)), (6, .v (.int .i64 (3 ^ i))), (7, .ref 0 0 9 0 0), (8, .v (.int .i64 i))], [(0, .rows true 0 9 [eg])], 1⟩)
    (fun d i => i + d = c) ?_ c 0 ?_) ?_ ?_
  · rintro d i i1 hrec
    have hp := pow3_bound i (by omega)
    have hps : (3 : Int) ^ (i + 1) = 3 ^ i * 3 := Int.pow_succ ..
    generalize hpi : (3 : Int) ^ i = pi at *
    (repeat (first | ((with_reducible refine VC.mkL ?_ fun _ => ?_); · first | omega | exact True.intro | rfl) | ((with_reducible refine VC.mkD ?_ fun _ => ?_); · first | omega | exact True.intro | (intros; omega)) | ((with_reducible refine dEnd.mk ?_ ?_); · kernel_rfl) | (simp [go_sem])))
    refine aIf.mkL (fun hi => ?_) (fun hi => ?_) <;> simp at hi
    · (repeat (first | ((with_reducible refine VC.mkL ?_ fun _ => ?_); · first | omega | exact True.intro | rfl) | ((with_reducible refine VC.mkD ?_ fun _ => ?_); · first | omega | exact True.intro | (intros; omega)) | ((with_reducible refine dEnd.mk ?_ ?_); · kernel_rfl) | (simp [go_sem])))
      refine ALoop.start (hrec (d - 1) (by omega) (i + 1) (by omega)) ?_ (by simp)
      simp [go_sem, Wk_eq, hps, hbl]
    · obtain rfl : i = c := by omega
      (repeat (first | ((with_reducible refine VC.mkL ?_ fun _ => ?_); · first | omega | exact True.intro | rfl) | ((with_reducible refine VC.mkD ?_ fun _ => ?_); · first | omega | exact True.intro | (intros; omega)) | ((with_reducible refine dEnd.mk ?_ ?_); · kernel_rfl) | (simp [go_sem])))
      refine ALoop.start (ALoop.ind (α := Nat) (fun a => ⟨[(3, .v (.bool true)), (4, .v (.int .i64 i)), (5, .v (.int .i64 (outS i a))), (6, .v (.int .i64 pi)), (7, .ref 0 0 9 0 0), (9, .v (.int .i64 a))], [(0, .rows true 0 9 [eg])], 1⟩)
        (fun d a => a + d = i + 1) ?_ (i + 1) 0 ?_) ?_ ?_
      · rintro d2 a i2 hrec2
        have hob := outS_bound c1 c2 a (by omega)
        have hos : outS i (a + 1) = outS i a + innS i a (i - a + 1) := rfl
        generalize hoa : outS i a = oa at *
        (repeat (first | ((with_reducible refine VC.mkL ?_ fun _ => ?_); · first | omega | exact True.intro | rfl) | ((with_reducible refine VC.mkD ?_ fun _ => ?_); · first | omega | exact True.intro | (intros; omega)) | ((with_reducible refine dEnd.mk ?_ ?_); · kernel_rfl) | (simp [go_sem])))
        refine aIf.mkL (fun ha => ?_) (fun ha => ?_) <;> simp at ha
        · (repeat (first | ((with_reducible refine VC.mkL ?_ fun _ => ?_); · first | omega | exact True.intro | rfl) | ((with_reducible refine VC.mkD ?_ fun _ => ?_); · first | omega | exact True.intro | (intros; omega)) | ((with_reducible refine dEnd.mk ?_ ?_); · kernel_rfl) | (simp [go_sem])))
          refine ALoop.start (ALoop.ind (α := Nat) (fun b => ⟨[(3, .v (.bool true)), (4, .v (.int .i64 i)), (5, .v (.int .i64 (oa + innS i a b))), (6, .v (.int .i64 pi)), (7, .ref 0 0 9 0 0), (9, .v (.int .i64 a)), (10, .v (.int .i64 b))], [(0, .rows true 0 9 [eg])], 1⟩)
            (fun d b => b + d = i - a + 1) ?_ (i - a + 1) 0 ?_) ?_ ?_
          · rintro d3 b i3 hrec3
            have hib := innS_bound c1 c2 (a := a) b (by omega)
            have his : innS i a (b + 1) = innS i a b + sizS i a b := rfl
            generalize hia : innS i a b = ia at *
            (repeat (first | ((with_reducible refine VC.mkL ?_ fun _ => ?_); · first | omega | exact True.intro | rfl) | ((with_reducible refine VC.mkD ?_ fun _ => ?_); · first | omega | exact True.intro | (intros; omega)) | ((with_reducible refine dEnd.mk ?_ ?_); · kernel_rfl) | (simp [go_sem])))
            refine aIf.mkL (fun hb => ?_) (fun hb => ?_) <;> simp at hb
            · have hsb := (sums_ok i c2 a (by omega) b (by omega) c1 (by omega)).2
              (repeat (first | ((with_reducible refine VC.mkL ?_ fun _ => ?_); · first | omega | exact True.intro | rfl) | ((with_reducible refine VC.mkD ?_ fun _ => ?_); · first | omega | exact True.intro | (intros; omega)) | ((with_reducible refine dEnd.mk ?_ ?_); · kernel_rfl) | (simp [go_sem])))
              refine ACallP.flat (hS a b (by omega)) (.tup (by intro x hx; simp at hx; rcases hx with rfl | rfl <;> exact .v _)) ?_ (by simp [go_sem, hbl, matS]) ?_
              · simp only [encPos, encIs, matS]
                refine LeRow.cons (.refl _) (LeRow.cons (LeV.agg (LeRow.cons ?_ (LeRow.cons ?_ (LeRow.cons ?_ (LeRow.refl _ _ _ _))))) LeRow.nil) <;> (refine LeV.frz rfl ?_ ?_ (LeRows.of_eq ?_) <;> simp [noH, encI])
              · have hsz : sizS i a b = innS i a (b + 1) - ia := by omega
                generalize sizS i a b = sz at *
                (repeat (first | ((with_reducible refine VC.mkL ?_ fun _ => ?_); · first | omega | exact True.intro | rfl) | ((with_reducible refine VC.mkD ?_ fun _ => ?_); · first | omega | exact True.intro | (intros; omega)) | ((with_reducible refine dEnd.mk ?_ ?_); · kernel_rfl) | (simp [go_sem, hel])))
                refine ALoop.start (hrec3 (d3 - 1) (by omega) (b + 1) (by omega)) ?_ (by simp)
                have hadd : oa + ia + sz = oa + innS i a (b + 1) := by omega
                simp [go_sem, Wk_eq, hbl, hadd]
            · obtain rfl : b = i - a + 1 := by omega
              rw [hia] at hos
              (repeat (first | ((with_reducible refine VC.mkL ?_ fun _ => ?_); · first | omega | exact True.intro | rfl) | ((with_reducible refine VC.mkD ?_ fun _ => ?_); · first | omega | exact True.intro | (intros; omega)) | ((with_reducible refine dEnd.mk ?_ ?_); · kernel_rfl) | (simp [go_sem])))
              refine ALoop.start (hrec2 (d2 - 1) (by omega) (a + 1) (by omega)) ?_ (by simp)
              simp [go_sem, Wk_eq, hbl, hos]
          · omega
          · simp [go_sem, Wk_eq, hbl, innS]
          · simp
        · obtain rfl : a = i + 1 := by omega
          have := sums_all i c2 c1
          have hop : oa = pi := by omega
          (repeat (first | ((with_reducible refine VC.mkL ?_ fun _ => ?_); · first | omega | exact True.intro | rfl) | ((with_reducible refine VC.mkD ?_ fun _ => ?_); · first | omega | exact True.intro | (intros; omega)) | ((with_reducible refine dEnd.mk ?_ ?_); · kernel_rfl) | (simp [go_sem, hop])))
      · omega
      · simp [go_sem, Wk_eq, hbl, outS]
      · simp
  · omega
  · simp [go_sem, Wk_eq, hbl]
  · simp
end Go.Av
