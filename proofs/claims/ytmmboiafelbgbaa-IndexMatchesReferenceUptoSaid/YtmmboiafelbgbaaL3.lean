/- IndexRanks: the call gives true. -/
import Derived.Test.YtmmboiafelbgbaaIdxP
set_option linter.unusedSimpArgs false
set_option linter.unusedVariables false
open Go Go.Proofs
set_option maxRecDepth 20000
set_option maxHeartbeats 4000000
namespace Go.Av
theorem fitsP_fill {c k : Nat} {l : List Int} (h1 : c ≤ 64) (h2 : k ≤ 3) : FitsP (fillPos c k l) := ⟨by simp [Fits, fillPos, atFj]; omega, by simp [Fits, fillPos]; omega, by simp [Fits, fillPos]; omega⟩
theorem fitsP_of {g : GameD} {p : PosD} (hp : FitsP p) (hk : g.kinds.length ≤ 400) : FitsP (ofP g p) := ⟨by simp [Fits, ofP, menOf_length]; omega, hp.2.1, hp.2.2⟩
theorem IndexRanks_pure (a b : Int) (l : List Int) (ha : 0 ≤ a ∧ a ≤ 255) (hb : 0 ≤ b ∧ b ≤ 255) (hl : l.length ≤ maxLen) (hv : ∀ x ∈ l, 0 ≤ x ∧ x ≤ 255) :
    Pure Try.prog 7 [.agg [.v (.int .u8 a), .v (.int .u8 b)], encUs l] (.v (.bool true)) := by
  have n0 := Int.tmod_nonneg 64 ha.1
  have n1 := Int.tmod_lt_of_pos a (show (0 : Int) < 64 by decide)
  have n2 := Int.tmod_nonneg 3 hb.1
  have n3 := Int.tmod_lt_of_pos b (show (0 : Int) < 3 by decide)
  obtain ⟨c, hc⟩ : ∃ c : Nat, (1 + a.tmod 64) = c := ⟨(1 + a.tmod 64).toNat, by omega⟩
  obtain ⟨k, hk⟩ : ∃ k : Nat, (1 + b.tmod 3) = k := ⟨(1 + b.tmod 3).toNat, by omega⟩
  have hbd := board_pure a b ha hb c k hc hk l (by have : maxLen = 9223372036854775807 := by decide
                                                   omega) hv
  have hpo := posOk_fill (c := c) (k := k) (l := l) (by omega) (fun x hx => (hv x hx).1)
  have hfit := fitsP_fill (c := c) (k := k) (l := l) (by omega) (by omega)
  have hpl : (fillPos c k l).at_.length = c := by simp [fillPos, atFj]
  generalize fillPos c k l = p at *
  have q1 : FitsG (blankG c k) := by simp [FitsG, blankG]; omega
  have q2 : FitsR (blankG c k) := by simp [FitsR, blankG]
  have q3 : (blankG c k).cells ≤ 64 := by simp [blankG]; omega
  have q4 : (blankG c k).kinds.length ≤ 400 := by simp [blankG]; omega
  have hel : (encGame (blankG c k)).length = 9 := rfl
  have hbl : ∀ n, (∀ c' ∈ encGame (blankG c k), Bel n c') = True := fun n => by simp [go_sem]
  generalize blankG c k = g at *
  have hcont := (posOk_iff.1 hpo).2.1
  have hO := Of_pure g q4 p hfit hcont
  have hR := Of14_pure g q4 p hfit hcont
  have hfo := fitsP_of (g := g) hfit q4
  have hra := rank_at hpo (by omega)
  have hSz := Size_pure g q1 q2 q3 q4 (ofP g p) (by have := hfo.1; unfold Fits at this; omega) hfo.2.1 hfo.2.2
  have hRk := Rank_pure g q1 q2 q3 q4 p hfit
  have hAt := At_pure g q1 q2 q3 q4 (ofP g p) (by have := hfo.1; unfold Fits at this; omega) hfo.2.1 hfo.2.2 (rankOf g p).1
  have hSm := Same14_pure (ofP g p) (ofP g p) hfo hfo
  have hCm := Compare_pure p p hfit hfit
  rw [cmpP_self] at hCm
  generalize encGame g = eg at *
  generalize ofP g p = m at *
  refine Pure.of (ACallP.of_awp (by kernel_rfl) Try.func7 rfl rfl (Nat.le_of_ble_eq_true rfl) (by kernel_rfl) ?_)
  (repeat (first | ((with_reducible refine VC.mkL ?_ fun _ => ?_); · first | omega | exact True.intro | rfl) | ((with_reducible refine VC.mkD ?_ fun _ => ?_); · first | omega | exact True.intro | (intros; omega)) | ((with_reducible refine dEnd.mk ?_ ?_); · kernel_rfl) | (simp [go_sem])))
  refine ACallP.plain ok14_pure (by simp [go_sem]) ?_
  (repeat (first | ((with_reducible refine VC.mkL ?_ fun _ => ?_); · first | omega | exact True.intro | rfl) | ((with_reducible refine VC.mkD ?_ fun _ => ?_); · first | omega | exact True.intro | (intros; omega)) | ((with_reducible refine dEnd.mk ?_ ?_); · kernel_rfl) | (simp [go_sem])))
  refine ACallP.plain hbd (by simp [go_sem]) ?_
  (repeat (first | ((with_reducible refine VC.mkL ?_ fun _ => ?_); · first | omega | exact True.intro | rfl) | ((with_reducible refine VC.mkD ?_ fun _ => ?_); · first | omega | exact True.intro | (intros; omega)) | ((with_reducible refine dEnd.mk ?_ ?_); · kernel_rfl) | (simp [go_sem, hel])))
  refine ACallP.plain hO (by simp [go_sem, hbl]) ?_
  (repeat (first | ((with_reducible refine VC.mkL ?_ fun _ => ?_); · first | omega | exact True.intro | rfl) | ((with_reducible refine VC.mkD ?_ fun _ => ?_); · first | omega | exact True.intro | (intros; omega)) | ((with_reducible refine dEnd.mk ?_ ?_); · kernel_rfl) | (simp [go_sem, hel])))
  refine dCall.plain hR (by simp [go_sem, hbl]) ?_
  (repeat (first | ((with_reducible refine VC.mkL ?_ fun _ => ?_); · first | omega | exact True.intro | rfl) | ((with_reducible refine VC.mkD ?_ fun _ => ?_); · first | omega | exact True.intro | (intros; omega)) | ((with_reducible refine dEnd.mk ?_ ?_); · kernel_rfl) | (simp [go_sem, hel])))
  refine dCall.plain hSm (by simp [go_sem, hbl]) ?_
  (repeat (first | ((with_reducible refine VC.mkL ?_ fun _ => ?_); · first | omega | exact True.intro | rfl) | ((with_reducible refine VC.mkD ?_ fun _ => ?_); · first | omega | exact True.intro | (intros; omega)) | ((with_reducible refine dEnd.mk ?_ ?_); · kernel_rfl) | (simp [go_sem, hel])))
  refine ACallP.plain hSz (by simp [go_sem, hbl]) ?_
  (repeat (first | ((with_reducible refine VC.mkL ?_ fun _ => ?_); · first | omega | exact True.intro | rfl) | ((with_reducible refine VC.mkD ?_ fun _ => ?_); · first | omega | exact True.intro | (intros; omega)) | ((with_reducible refine dEnd.mk ?_ ?_); · kernel_rfl) | (simp [go_sem, hel])))
  refine ACallP.plain hRk (by simp [go_sem, hbl]) ?_
  rcases hra with ⟨e1, e2⟩ | ⟨e1, e2, e3, e4, e5, _⟩
  · rw [e1, e2]
    (repeat (first | ((with_reducible refine VC.mkL ?_ fun _ => ?_); · first | omega | exact True.intro | rfl) | ((with_reducible refine VC.mkD ?_ fun _ => ?_); · first | omega | exact True.intro | (intros; omega)) | ((with_reducible refine dEnd.mk ?_ ?_); · kernel_rfl) | (simp [go_sem, hel])))
  · rw [e1, e2]
    rw [e5] at hAt
    (repeat (first | ((with_reducible refine VC.mkL ?_ fun _ => ?_); · first | omega | exact True.intro | rfl) | ((with_reducible refine VC.mkD ?_ fun _ => ?_); · first | omega | exact True.intro | (intros; omega)) | ((with_reducible refine dEnd.mk ?_ ?_); · kernel_rfl) | (simp [go_sem, hel, show ¬ (rankOf g p).1 < 0 by omega])))
    refine ACallP.plain hAt (by simp [go_sem, hbl]) ?_
    (repeat (first | ((with_reducible refine VC.mkL ?_ fun _ => ?_); · first | omega | exact True.intro | rfl) | ((with_reducible refine VC.mkD ?_ fun _ => ?_); · first | omega | exact True.intro | (intros; omega)) | ((with_reducible refine dEnd.mk ?_ ?_); · kernel_rfl) | (simp [go_sem, hel, e3, e4])))
    refine aGC.plain _ (fun _ => hCm) (by simp [go_sem]) ?_
    (repeat (first | ((with_reducible refine VC.mkL ?_ fun _ => ?_); · first | omega | exact True.intro | rfl) | ((with_reducible refine VC.mkD ?_ fun _ => ?_); · first | omega | exact True.intro | (intros; omega)) | ((with_reducible refine dEnd.mk ?_ ?_); · kernel_rfl) | (simp [go_sem, e3, e4])))
end Go.Av
