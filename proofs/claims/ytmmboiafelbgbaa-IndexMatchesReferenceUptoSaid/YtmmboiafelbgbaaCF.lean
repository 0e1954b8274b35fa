/- Contracts, part 15: the reference's Valid, Size, of chapter 14. -/
import Derived.Test.YtmmboiafelbgbaaIdxQ
set_option linter.unusedSimpArgs false
set_option linter.unusedVariables false
open Go Go.Proofs
set_option maxRecDepth 20000
set_option maxHeartbeats 4000000
namespace Go.Av
/-! ### skewerref14.Valid -/
theorem matRgo_pure (g : GameD) (hg : FitsG g) (hr : FitsR g) (hc0 : 0 ≤ g.cells) (h64 : g.cells ≤ 64) (m : PosD) (hm : m.at_.length ≤ 9223372036854775807) (h0 : Fits m.h0) (h1 : Fits m.h1) :
    Pure Try.prog 32 [.agg (encGame g), .agg (encPos m)] (.v (.bool (matR g m))) := by
  refine Pure.of (ACallP.of_awp (by kernel_rfl) Try.func32 rfl rfl (Nat.le_of_ble_eq_true rfl) (by kernel_rfl) ?_)
  unfold FitsG at hg
  have hVp : Pure Try.prog 41 [.agg (encGame g), .agg (encPos (zerosP g m))] (.v (.bool (posOk g (zerosP g m)))) := RValid_pure g hg hr _ ⟨by unfold Fits zerosP; simp; omega, h0, h1⟩
  (repeat (first | ((with_reducible refine VC.mkL ?_ fun _ => ?_); · first | omega | exact True.intro | rfl) | ((with_reducible refine VC.mkD ?_ fun _ => ?_); · first | omega | exact True.intro | (intros; omega)) | ((with_reducible refine dEnd.mk ?_ ?_); · kernel_rfl) | (simp [go_sem])))
  refine aIf.mkL (fun hn => ?_) (fun hn => ?_) <;> simp at hn
  · have e : matR g m = false := by
      unfold matR
      rw [decide_eq_false (by omega)]; rfl
    rw [e]
    (repeat (first | ((with_reducible refine VC.mkL ?_ fun _ => ?_); · first | omega | exact True.intro | rfl) | ((with_reducible refine VC.mkD ?_ fun _ => ?_); · first | omega | exact True.intro | (intros; omega)) | ((with_reducible refine dEnd.mk ?_ ?_); · kernel_rfl) | (simp [go_sem])))
  · (repeat (first | ((with_reducible refine VC.mkL ?_ fun _ => ?_); · first | omega | exact True.intro | rfl) | ((with_reducible refine VC.mkD ?_ fun _ => ?_); · first | omega | exact True.intro | (intros; omega)) | ((with_reducible refine dEnd.mk ?_ ?_); · kernel_rfl) | (simp [go_sem])))
    refine ALoop.start (ALoop.ind (α := Nat × Int) (fun a => ⟨[(2, .ref 0 0 9 0 0), (3, .ref 1 0 5 0 0), (5, .v (.int .i64 a.2)), (6, .v (.int .i64 a.1))], [(0, .rows true 0 9 [encGame g]), (1, .rows true 0 5 [encPos m])], 2⟩)
      (fun d a => a.1 + d = m.at_.length ∧ 0 ≤ a.2 ∧ a.2 ≤ 64 ∧ leftGo m.at_ g.cells = leftGo (m.at_.drop a.1) a.2) ?_ m.at_.length (0, g.cells) ?_) ?_ ?_
    · rintro d ⟨j, left⟩ ⟨i1, i2, i3, i4⟩ hrec
      simp only at i1 i2 i3 i4
      (repeat (first | ((with_reducible refine VC.mkL ?_ fun _ => ?_); · first | omega | exact True.intro | rfl) | ((with_reducible refine VC.mkD ?_ fun _ => ?_); · first | omega | exact True.intro | (intros; omega)) | ((with_reducible refine dEnd.mk ?_ ?_); · kernel_rfl) | (simp [go_sem])))
      refine aIf.mkL (fun hj => ?_) (fun hj => ?_) <;> simp at hj
      · rw [drop_cons hj, leftGo] at i4
        (repeat (first | ((with_reducible refine VC.mkL ?_ fun _ => ?_); · first | omega | exact True.intro | rfl) | ((with_reducible refine VC.mkD ?_ fun _ => ?_); · first | omega | exact True.intro | (intros; omega)) | ((with_reducible refine dEnd.mk ?_ ?_); · kernel_rfl) | (simp [go_sem, hj])))
        refine aIf.mkL (fun hb => ?_) (fun hb => ?_) <;> simp at hb
        · have e : matR g m = false := by
            have : leftGo m.at_ g.cells = false := by
              rw [i4]
              rcases hb with hb | hb
              · simp [hb]
              · simp [hb]
            unfold matR
            rw [this]; simp
          rw [e]
          (repeat (first | ((with_reducible refine VC.mkL ?_ fun _ => ?_); · first | omega | exact True.intro | rfl) | ((with_reducible refine VC.mkD ?_ fun _ => ?_); · first | omega | exact True.intro | (intros; omega)) | ((with_reducible refine dEnd.mk ?_ ?_); · kernel_rfl) | (simp [go_sem])))
        · (repeat (first | ((with_reducible refine VC.mkL ?_ fun _ => ?_); · first | omega | exact True.intro | rfl) | ((with_reducible refine VC.mkD ?_ fun _ => ?_); · first | omega | exact True.intro | (intros; omega)) | ((with_reducible refine dEnd.mk ?_ ?_); · kernel_rfl) | (simp [go_sem, hj])))
          refine ALoop.start (hrec (d - 1) (by omega) (j + 1, left - nth m.at_ j) ⟨by simp only; omega, by simp only; omega, by simp only; omega, ?_⟩) ?_ (by simp)
          · rw [i4]; simp only
            rw [decide_eq_false (by omega), decide_eq_false (by omega)]; rfl
          · simp [go_sem, Wk_eq]
      · rw [List.drop_eq_nil_of_le hj, leftGo] at i4
        by_cases hz : left = 0
        · subst hz
          have e : matR g m = posOk g (zerosP g m) := by
            unfold matR
            rw [i4, decide_eq_true (by omega)]; simp
          rw [e]
          generalize posOk g (zerosP g m) = v at *
          (repeat (first | ((with_reducible refine VC.mkL ?_ fun _ => ?_); · first | omega | exact True.intro | rfl) | ((with_reducible refine VC.mkD ?_ fun _ => ?_); · first | omega | exact True.intro | (intros; omega)) | ((with_reducible refine dEnd.mk ?_ ?_); · kernel_rfl) | (simp [go_sem])))
          refine dGC.flat [.agg (encGame g), .agg (encPos (zerosP g m))] (.v (.bool v)) [9] (fun _ => hVp) (.v _) ?_ (by simp [go_sem]) ?_
          · intro h₁ hS
            have h9 := hS 9 (by simp)
            simp [go_sem] at h9
            simp only [encPos, zerosP, encIs, encGame, encIss, List.nil_append, List.append_nil, List.cons_append]
            refine LeRow.cons (.refl _) (LeRow.cons (LeV.agg (LeRow.cons ?_ (.refl _ _ _ _))) LeRow.nil)
            refine LeV.frz h9.symm ?_ ?_ (LeRows.of_eq ?_) <;> simp [noH, encI]
          · (repeat (first | ((with_reducible refine VC.mkL ?_ fun _ => ?_); · first | omega | exact True.intro | rfl) | ((with_reducible refine VC.mkD ?_ fun _ => ?_); · first | omega | exact True.intro | (intros; omega)) | ((with_reducible refine dEnd.mk ?_ ?_); · kernel_rfl) | (simp [go_sem])))
        · have e : matR g m = false := by
            unfold matR
            rw [i4, decide_eq_false hz]; simp
          rw [e]
          (repeat (first | ((with_reducible refine VC.mkL ?_ fun _ => ?_); · first | omega | exact True.intro | rfl) | ((with_reducible refine VC.mkD ?_ fun _ => ?_); · first | omega | exact True.intro | (intros; omega)) | ((with_reducible refine dEnd.mk ?_ ?_); · kernel_rfl) | (simp [go_sem, hz])))
          refine dGC.skip (.v (.bool false)) ?_
          (repeat (first | ((with_reducible refine VC.mkL ?_ fun _ => ?_); · first | omega | exact True.intro | rfl) | ((with_reducible refine VC.mkD ?_ fun _ => ?_); · first | omega | exact True.intro | (intros; omega)) | ((with_reducible refine dEnd.mk ?_ ?_); · kernel_rfl) | (simp [go_sem, hz])))
    · exact ⟨by simp, hc0, h64, rfl⟩
    · simp [go_sem, Wk_eq]
    · simp
/-! ### skewerref14.Size -/
theorem Size14_pure (g : GameD) (hg : FitsG g) (hr : FitsR g) (hc0 : 0 ≤ g.cells) (h64 : g.cells ≤ 64) (hk : g.kinds.length ≤ 400) (m : PosD) (hm : m.at_.length ≤ 9223372036854775807) (h0 : Fits m.h0) (h1 : Fits m.h1) :
    Pure Try.prog 30 [.agg (encGame g), .agg (encPos m)] (.tup [.v (.int .i64 (sizeOf_ g m).1), .v (.int .i64 (sizeOf_ g m).2)]) := by
  refine Pure.of (ACallP.of_awp (by kernel_rfl) Try.func30 rfl rfl (Nat.le_of_ble_eq_true rfl) (by kernel_rfl) ?_)
  (repeat (first | ((with_reducible refine VC.mkL ?_ fun _ => ?_); · first | omega | exact True.intro | rfl) | ((with_reducible refine VC.mkD ?_ fun _ => ?_); · first | omega | exact True.intro | (intros; omega)) | ((with_reducible refine dEnd.mk ?_ ?_); · kernel_rfl) | (simp [go_sem])))
  refine ACallP.plain (matRgo_pure g hg hr hc0 h64 m hm h0 h1) (by simp [go_sem]) ?_
  rw [matR_eq hc0]
  (repeat (first | ((with_reducible refine VC.mkL ?_ fun _ => ?_); · first | omega | exact True.intro | rfl) | ((with_reducible refine VC.mkD ?_ fun _ => ?_); · first | omega | exact True.intro | (intros; omega)) | ((with_reducible refine dEnd.mk ?_ ?_); · kernel_rfl) | (simp [go_sem])))
  refine aIf.mkL (fun hv => ?_) (fun hv => ?_) <;> simp at hv
  · have e : sizeOf_ g m = (0, 140) := by unfold sizeOf_; rw [if_pos hv]
    rw [e]
    (repeat (first | ((with_reducible refine VC.mkL ?_ fun _ => ?_); · first | omega | exact True.intro | rfl) | ((with_reducible refine VC.mkD ?_ fun _ => ?_); · first | omega | exact True.intro | (intros; omega)) | ((with_reducible refine dEnd.mk ?_ ?_); · kernel_rfl) | (simp [go_sem])))
  · obtain ⟨f1, f2, f3⟩ := matOk_facts hv hc0
    (repeat (first | ((with_reducible refine VC.mkL ?_ fun _ => ?_); · first | omega | exact True.intro | rfl) | ((with_reducible refine VC.mkD ?_ fun _ => ?_); · first | omega | exact True.intro | (intros; omega)) | ((with_reducible refine dEnd.mk ?_ ?_); · kernel_rfl) | (simp [go_sem])))
    refine ACallP.plain (waysR_pure m.at_ (by omega) (fun x hx => by have := f2 x hx; omega)) (by simp [go_sem]) ?_
    rw [waysR_ways (fun x hx => (f2 x hx).1) (by omega)]
    have hb := ways_bound m.at_
    (repeat (first | ((with_reducible refine VC.mkL ?_ fun _ => ?_); · first | omega | exact True.intro | rfl) | ((with_reducible refine VC.mkD ?_ fun _ => ?_); · first | omega | exact True.intro | (intros; omega)) | ((with_reducible refine dEnd.mk ?_ ?_); · kernel_rfl) | (simp [go_sem])))
    refine aIf.mkL (fun hw => ?_) (fun hw => ?_) <;> simp at hw
    · have e : sizeOf_ g m = (0, 2) := by unfold sizeOf_ big; rw [if_neg (by simp [hv]), if_pos (by omega)]
      rw [e]
      (repeat (first | ((with_reducible refine VC.mkL ?_ fun _ => ?_); · first | omega | exact True.intro | rfl) | ((with_reducible refine VC.mkD ?_ fun _ => ?_); · first | omega | exact True.intro | (intros; omega)) | ((with_reducible refine dEnd.mk ?_ ?_); · kernel_rfl) | (simp [go_sem])))
    · have e : sizeOf_ g m = (ways m.at_, 0) := by unfold sizeOf_ big; rw [if_neg (by simp [hv]), if_neg (by omega)]
      rw [e]
      (repeat (first | ((with_reducible refine VC.mkL ?_ fun _ => ?_); · first | omega | exact True.intro | rfl) | ((with_reducible refine VC.mkD ?_ fun _ => ?_); · first | omega | exact True.intro | (intros; omega)) | ((with_reducible refine dEnd.mk ?_ ?_); · kernel_rfl) | (simp [go_sem])))
end Go.Av
