/- Contracts, part 10: the fixed examples of chapter 14. -/
import Derived.Test.YtmmboiafelbgbaaC9
set_option linter.unusedSimpArgs false
set_option linter.unusedVariables false
open Go Go.Proofs
set_option maxRecDepth 20000
set_option maxHeartbeats 2000000
namespace Go.Av
theorem ok14_pure : Pure Try.prog 24 [] (.v (.bool true)) := by
  obtain ⟨g, hg⟩ : ∃ g, g = blankG 4 1 := ⟨_, rfl⟩
  have g1 : FitsG g := by subst hg; unfold FitsG; decide
  have g2 : FitsR g := by subst hg; unfold FitsR; decide
  have g3 : g.cells ≤ 64 := by subst hg; decide
  have g4 : g.kinds.length ≤ 400 := by subst hg; decide
  have hB : Pure Try.prog 39 [.v (.int .i64 4), .v (.int .i64 1)] (.agg (encGame g)) := by subst hg; exact Blank_pure 4 1 (by omega) (by omega)
  have hf : ∀ a b c d : Int, FitsP ⟨[a, b, c, d], [0], [0], 0, 0⟩ := fun a b c d => ⟨by unfold Fits; simp, by unfold Fits; simp, by unfold Fits; simp⟩
  have hO : Pure Try.prog 26 [.agg (encGame g), .agg (encPos ⟨[0, 1, 0, 2], [0], [0], 0, 0⟩)] (.agg (encPos ⟨[2, 1, 1], [0], [0], 0, 0⟩)) := by
    have h := Of_pure g g4 ⟨[0, 1, 0, 2], [0], [0], 0, 0⟩ (hf _ _ _ _) (by subst hg; decide)
    rw [show ofP g ⟨[0, 1, 0, 2], [0], [0], 0, 0⟩ = ⟨[2, 1, 1], [0], [0], 0, 0⟩ by subst hg; rfl] at h
    exact h
  have hSz : ∀ m : PosD, m.at_.length ≤ 9 → m.h0.length ≤ 9 → m.h1.length ≤ 9 → ∀ r : Int × Int, sizeOf_ g m = r → Pure Try.prog 29 [.agg (encGame g), .agg (encPos m)] (.tup [.v (.int .i64 r.1), .v (.int .i64 r.2)]) := by
    intro m m1 m2 m3 r hr
    subst hr
    exact Size_pure g g1 g2 g3 g4 m (by omega) (by unfold Fits; omega) (by unfold Fits; omega)
  have hRk : ∀ m : PosD, m.at_.length ≤ 9 → m.h0.length ≤ 9 → m.h1.length ≤ 9 → ∀ r : Int × Int, rankOf g m = r → Pure Try.prog 36 [.agg (encGame g), .agg (encPos m)] (.tup [.v (.int .i64 r.1), .v (.int .i64 r.2)]) := by
    intro m m1 m2 m3 r hr
    subst hr
    exact Rank_pure g g1 g2 g3 g4 m ⟨by unfold Fits; omega, by unfold Fits; omega, by unfold Fits; omega⟩
  have hAt : ∀ (m : PosD) (i : Int), m.at_.length ≤ 9 → m.h0.length ≤ 9 → m.h1.length ≤ 9 → ∀ r : PosD × Int, atOf g m i = r → Pure Try.prog 33 [.agg (encGame g), .agg (encPos m), .v (.int .i64 i)] (.tup [.agg (encPos r.1), .v (.int .i64 r.2)]) := by
    intro m i m1 m2 m3 r hr
    subst hr
    exact At_pure g g1 g2 g3 g4 m (by omega) (by unfold Fits; omega) (by unfold Fits; omega) i
  have hV : ∀ m : PosD, m.at_.length ≤ 9 → m.h0.length ≤ 9 → m.h1.length ≤ 9 → ∀ r : Bool, matOk g m = r → Pure Try.prog 31 [.agg (encGame g), .agg (encPos m)] (.v (.bool r)) := by
    intro m m1 m2 m3 r hr
    subst hr
    exact ixValid_pure g g1 g2 g3 g4 m (by omega) (by unfold Fits; omega) (by unfold Fits; omega)
  have z1 := hSz ⟨[2, 1, 1], [0], [0], 0, 0⟩ (by decide) (by decide) (by decide) (12, 0) (by subst hg; decide +kernel)
  have z2 := hSz zeroP (by decide) (by decide) (by decide) (0, 140) (by subst hg; decide +kernel)
  have r1 := hRk ⟨[0, 0, 1, 2], [0], [0], 0, 0⟩ (by decide) (by decide) (by decide) (0, 0) (by subst hg; decide +kernel)
  have r2 := hRk ⟨[0, 1, 0, 2], [0], [0], 0, 0⟩ (by decide) (by decide) (by decide) (2, 0) (by subst hg; decide +kernel)
  have r3 := hRk ⟨[2, 1, 0, 0], [0], [0], 0, 0⟩ (by decide) (by decide) (by decide) (11, 0) (by subst hg; decide +kernel)
  have r4 := hRk zeroP (by decide) (by decide) (by decide) (0, 40) (by subst hg; decide +kernel)
  have a1 := hAt ⟨[2, 1, 1], [0], [0], 0, 0⟩ 3 (by decide) (by decide) (by decide) (⟨[0, 1, 2, 0], [0], [0], 0, 0⟩, 0) (by subst hg; decide +kernel)
  have a2 := hAt ⟨[2, 1, 1], [0], [0], 0, 0⟩ 12 (by decide) (by decide) (by decide) (zeroP, 140) (by subst hg; decide +kernel)
  have a3 := hAt ⟨[2, 1, 1], [0], [0], 0, 0⟩ (-1) (by decide) (by decide) (by decide) (zeroP, 140) (by subst hg; decide +kernel)
  have v1 := hV ⟨[2, 1, 1], [0], [0], 0, 0⟩ (by decide) (by decide) (by decide) true (by subst hg; decide +kernel)
  have v2 := hV zeroP (by decide) (by decide) (by decide) false (by subst hg; decide +kernel)
  clear hSz hRk hAt hV
  refine Pure.of (ACallP.of_awp (by kernel_rfl) Try.func24 rfl rfl (Nat.le_of_ble_eq_true rfl) (by kernel_rfl) ?_)
  (repeat (first | ((with_reducible refine VC.mkL ?_ fun _ => ?_); · first | omega | exact True.intro | rfl) | ((with_reducible refine VC.mkD ?_ fun _ => ?_); · first | omega | exact True.intro | (intros; omega)) | ((with_reducible refine dEnd.mk ?_ ?_); · kernel_rfl) | (simp [go_sem])))
  refine ACallP.plain hB (by simp [go_sem]) ?_
  clear hB
  have hel : (encGame g).length = 9 := rfl
  have hbl : ∀ n, (∀ c ∈ encGame g, Bel n c) = True := fun n => by simp [go_sem]
  clear hg g1 g2 g3 g4
  generalize encGame g = eg at *
  (repeat (first | ((with_reducible refine VC.mkL ?_ fun _ => ?_); · first | omega | exact True.intro | rfl) | ((with_reducible refine VC.mkD ?_ fun _ => ?_); · first | omega | exact True.intro | (intros; omega)) | ((with_reducible refine dEnd.mk ?_ ?_); · kernel_rfl) | (simp [go_sem, hel])))
  refine dCall.plain (place_pure 0 1 0 2) (by simp [go_sem]) ?_
  (repeat (first | ((with_reducible refine VC.mkL ?_ fun _ => ?_); · first | omega | exact True.intro | rfl) | ((with_reducible refine VC.mkD ?_ fun _ => ?_); · first | omega | exact True.intro | (intros; omega)) | ((with_reducible refine dEnd.mk ?_ ?_); · kernel_rfl) | (simp [go_sem, hel])))
  refine dCall.plain hO (by simp [go_sem, hbl]) ?_
  (repeat (first | ((with_reducible refine VC.mkL ?_ fun _ => ?_); · first | omega | exact True.intro | rfl) | ((with_reducible refine VC.mkD ?_ fun _ => ?_); · first | omega | exact True.intro | (intros; omega)) | ((with_reducible refine dEnd.mk ?_ ?_); · kernel_rfl) | (simp [go_sem, hel])))
  refine ACallP.flat (args' := [.agg (encPos ⟨[2, 1, 1], [0], [0], 0, 0⟩), .agg (encPos ⟨[2, 1, 1], [0], [0], 0, 0⟩)]) (Same14_pure _ _ (by unfold FitsP Fits; decide) (by unfold FitsP Fits; decide)) (.v _) ?_ (by simp [go_sem]) ?_
  · simp only [encPos, encIs, List.nil_append, List.append_nil]
    refine LeRow.cons (.refl _) (LeRow.cons (LeV.agg (LeRow.cons ?_ (LeRow.cons ?_ (LeRow.cons ?_ (LeRow.refl _ _ _ _))))) LeRow.nil) <;> (refine LeV.frz rfl ?_ ?_ (LeRows.of_eq ?_) <;> simp [noH, encI])
  · (repeat (first | ((with_reducible refine VC.mkL ?_ fun _ => ?_); · first | omega | exact True.intro | rfl) | ((with_reducible refine VC.mkD ?_ fun _ => ?_); · first | omega | exact True.intro | (intros; omega)) | ((with_reducible refine dEnd.mk ?_ ?_); · kernel_rfl) | (simp [go_sem, hel])))
    refine ACallP.plain z1 (by simp [go_sem, hbl]) ?_
    (repeat (first | ((with_reducible refine VC.mkL ?_ fun _ => ?_); · first | omega | exact True.intro | rfl) | ((with_reducible refine VC.mkD ?_ fun _ => ?_); · first | omega | exact True.intro | (intros; omega)) | ((with_reducible refine dEnd.mk ?_ ?_); · kernel_rfl) | (simp [go_sem, hel])))
    refine dCall.plain (place_pure 0 0 1 2) (by simp [go_sem]) ?_
    (repeat (first | ((with_reducible refine VC.mkL ?_ fun _ => ?_); · first | omega | exact True.intro | rfl) | ((with_reducible refine VC.mkD ?_ fun _ => ?_); · first | omega | exact True.intro | (intros; omega)) | ((with_reducible refine dEnd.mk ?_ ?_); · kernel_rfl) | (simp [go_sem, hel])))
    refine dCall.plain r1 (by simp [go_sem, hbl]) ?_
    (repeat (first | ((with_reducible refine VC.mkL ?_ fun _ => ?_); · first | omega | exact True.intro | rfl) | ((with_reducible refine VC.mkD ?_ fun _ => ?_); · first | omega | exact True.intro | (intros; omega)) | ((with_reducible refine dEnd.mk ?_ ?_); · kernel_rfl) | (simp [go_sem, hel])))
    refine dCall.plain (place_pure 0 1 0 2) (by simp [go_sem]) ?_
    (repeat (first | ((with_reducible refine VC.mkL ?_ fun _ => ?_); · first | omega | exact True.intro | rfl) | ((with_reducible refine VC.mkD ?_ fun _ => ?_); · first | omega | exact True.intro | (intros; omega)) | ((with_reducible refine dEnd.mk ?_ ?_); · kernel_rfl) | (simp [go_sem, hel])))
    refine dCall.plain r2 (by simp [go_sem, hbl]) ?_
    (repeat (first | ((with_reducible refine VC.mkL ?_ fun _ => ?_); · first | omega | exact True.intro | rfl) | ((with_reducible refine VC.mkD ?_ fun _ => ?_); · first | omega | exact True.intro | (intros; omega)) | ((with_reducible refine dEnd.mk ?_ ?_); · kernel_rfl) | (simp [go_sem, hel])))
    refine dCall.plain (place_pure 2 1 0 0) (by simp [go_sem]) ?_
    (repeat (first | ((with_reducible refine VC.mkL ?_ fun _ => ?_); · first | omega | exact True.intro | rfl) | ((with_reducible refine VC.mkD ?_ fun _ => ?_); · first | omega | exact True.intro | (intros; omega)) | ((with_reducible refine dEnd.mk ?_ ?_); · kernel_rfl) | (simp [go_sem, hel])))
    refine dCall.plain r3 (by simp [go_sem, hbl]) ?_
    (repeat (first | ((with_reducible refine VC.mkL ?_ fun _ => ?_); · first | omega | exact True.intro | rfl) | ((with_reducible refine VC.mkD ?_ fun _ => ?_); · first | omega | exact True.intro | (intros; omega)) | ((with_reducible refine dEnd.mk ?_ ?_); · kernel_rfl) | (simp [go_sem, hel])))
    refine ACallP.plain a1 (by simp [go_sem, hbl]) ?_
    (repeat (first | ((with_reducible refine VC.mkL ?_ fun _ => ?_); · first | omega | exact True.intro | rfl) | ((with_reducible refine VC.mkD ?_ fun _ => ?_); · first | omega | exact True.intro | (intros; omega)) | ((with_reducible refine dEnd.mk ?_ ?_); · kernel_rfl) | (simp [go_sem, hel])))
    refine ACallP.plain a2 (by simp [go_sem, hbl]) ?_
    (repeat (first | ((with_reducible refine VC.mkL ?_ fun _ => ?_); · first | omega | exact True.intro | rfl) | ((with_reducible refine VC.mkD ?_ fun _ => ?_); · first | omega | exact True.intro | (intros; omega)) | ((with_reducible refine dEnd.mk ?_ ?_); · kernel_rfl) | (simp [go_sem, hel, zeroP])))
    refine ACallP.plain a3 (by simp [go_sem, hbl]) ?_
    (repeat (first | ((with_reducible refine VC.mkL ?_ fun _ => ?_); · first | omega | exact True.intro | rfl) | ((with_reducible refine VC.mkD ?_ fun _ => ?_); · first | omega | exact True.intro | (intros; omega)) | ((with_reducible refine dEnd.mk ?_ ?_); · kernel_rfl) | (simp [go_sem, hel, zeroP])))
    refine ACallP.flat z2 (.tup (by intro x hx; simp at hx; rcases hx with rfl | rfl <;> exact .v _)) ?_ (by simp [go_sem, hbl, zeroP]) ?_
    · simp [go_sem, zeroP]
    (repeat (first | ((with_reducible refine VC.mkL ?_ fun _ => ?_); · first | omega | exact True.intro | rfl) | ((with_reducible refine VC.mkD ?_ fun _ => ?_); · first | omega | exact True.intro | (intros; omega)) | ((with_reducible refine dEnd.mk ?_ ?_); · kernel_rfl) | (simp [go_sem, hel])))
    refine ACallP.flat r4 (.tup (by intro x hx; simp at hx; rcases hx with rfl | rfl <;> exact .v _)) ?_ (by simp [go_sem, hbl, zeroP]) ?_
    · simp [go_sem, zeroP]
    (repeat (first | ((with_reducible refine VC.mkL ?_ fun _ => ?_); · first | omega | exact True.intro | rfl) | ((with_reducible refine VC.mkD ?_ fun _ => ?_); · first | omega | exact True.intro | (intros; omega)) | ((with_reducible refine dEnd.mk ?_ ?_); · kernel_rfl) | (simp [go_sem, hel])))
    refine dGC.plain _ (fun _ => place_pure 0 1 2 0) (by simp [go_sem]) ?_
    (repeat (first | ((with_reducible refine VC.mkL ?_ fun _ => ?_); · first | omega | exact True.intro | rfl) | ((with_reducible refine VC.mkD ?_ fun _ => ?_); · first | omega | exact True.intro | (intros; omega)) | ((with_reducible refine dEnd.mk ?_ ?_); · kernel_rfl) | (simp [go_sem, hel])))
    refine dGC.plain _ (fun _ => Compare_pure ⟨[0, 1, 2, 0], [0], [0], 0, 0⟩ ⟨[0, 1, 2, 0], [0], [0], 0, 0⟩ (by unfold FitsP Fits; decide) (by unfold FitsP Fits; decide)) (by simp [go_sem]) ?_
    rw [show cmpP ⟨[0, 1, 2, 0], [0], [0], 0, 0⟩ ⟨[0, 1, 2, 0], [0], [0], 0, 0⟩ = 0 by rfl]
    (repeat (first | ((with_reducible refine VC.mkL ?_ fun _ => ?_); · first | omega | exact True.intro | rfl) | ((with_reducible refine VC.mkD ?_ fun _ => ?_); · first | omega | exact True.intro | (intros; omega)) | ((with_reducible refine dEnd.mk ?_ ?_); · kernel_rfl) | (simp [go_sem, hel])))
    refine dGC.plain _ (fun _ => v1) (by simp [go_sem, hbl]) ?_
    (repeat (first | ((with_reducible refine VC.mkL ?_ fun _ => ?_); · first | omega | exact True.intro | rfl) | ((with_reducible refine VC.mkD ?_ fun _ => ?_); · first | omega | exact True.intro | (intros; omega)) | ((with_reducible refine dEnd.mk ?_ ?_); · kernel_rfl) | (simp [go_sem, hel])))
    refine dGC.flat _ _ [] (fun _ => v2) (.v _) ?_ ?_ ?_
    · intro h₁ _
      simp [go_sem, zeroP]
    · simp [go_sem, hbl, zeroP]
    · (repeat (first | ((with_reducible refine VC.mkL ?_ fun _ => ?_); · first | omega | exact True.intro | rfl) | ((with_reducible refine VC.mkD ?_ fun _ => ?_); · first | omega | exact True.intro | (intros; omega)) | ((with_reducible refine dEnd.mk ?_ ?_); · kernel_rfl) | (simp [go_sem, hel])))
end Go.Av
