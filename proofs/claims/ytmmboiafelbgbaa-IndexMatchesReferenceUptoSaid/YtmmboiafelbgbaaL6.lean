/- IndexMatchesReference: the call gives true. -/
import Derived.Test.YtmmboiafelbgbaaCG
import Derived.Test.YtmmboiafelbgbaaCH
import Derived.Test.YtmmboiafelbgbaaL3
set_option linter.unusedSimpArgs false
set_option linter.unusedVariables false
open Go Go.Proofs
set_option maxRecDepth 20000
set_option maxHeartbeats 4000000
namespace Go.Av
theorem atL_length : ∀ (n : Nat) (m : List Int) (i : Int), (atL n m i).length ≤ n
  | 0, m, i => by simp [atL]
  | n + 1, m, i => by
    rw [atL]
    split
    · have := atL_length n (m.set (by assumption) (nth m (by assumption) - 1)) (by assumption)
      rename_i x i' _
      have := atL_length n (m.set x (nth m x - 1)) i'
      simp; omega
    · rename_i i' _
      have := atL_length n m i'
      omega
theorem fits_at {g : GameD} (h64 : g.cells ≤ 64) {m : PosD} (h0 : Fits m.h0) (h1 : Fits m.h1) (i : Int) : FitsP (atOf g m i).1 := by
  unfold atOf
  have hz : FitsP zeroP := ⟨by simp [Fits, zeroP], by simp [Fits, zeroP], by simp [Fits, zeroP]⟩
  split
  · exact hz
  · split
    · exact hz
    · refine ⟨?_, h0, h1⟩
      have := atL_length g.cells.toNat m.at_ i
      unfold Fits; simp only; omega
theorem IndexMatchesReference_pure (a b : Int) (l : List Int) (x : PosD) (ha : 0 ≤ a ∧ a ≤ 255) (hb : 0 ≤ b ∧ b ≤ 255) (hl : l.length ≤ maxLen) (hv : ∀ x ∈ l, 0 ≤ x ∧ x ≤ 255) (hx : FitsP x) :
    Pure Try.prog 6 [.agg [.v (.int .u8 a), .v (.int .u8 b)], encUs l, .agg (encPos x)] (.v (.bool true)) := by
  have n0 := Int.tmod_nonneg 64 ha.1
  have n1 := Int.tmod_lt_of_pos a (show (0 : Int) < 64 by decide)
  have n2 := Int.tmod_nonneg 3 hb.1
  have n3 := Int.tmod_lt_of_pos b (show (0 : Int) < 3 by decide)
  obtain ⟨c, hc⟩ : ∃ c : Nat, (1 + a.tmod 64) = c := ⟨(1 + a.tmod 64).toNat, by omega⟩
  obtain ⟨k, hk⟩ : ∃ k : Nat, (1 + b.tmod 3) = k := ⟨(1 + b.tmod 3).toNat, by omega⟩
  have hbd := board_pure a b ha hb c k hc hk l (by have : maxLen = 9223372036854775807 := by decide
                                                   omega) hv
  have hpo := posOk_fill (c := c) (k := k) (l := l) (by omega) (fun x hx => (hv x hx).1)
  have hfit := fitsP_fill (c := c) (k := k) (l := l) (by omega) (by omega)
  generalize fillPos c k l = p at *
  have q1 : FitsG (blankG c k) := by simp [FitsG, blankG]; omega
  have q2 : FitsR (blankG c k) := by simp [FitsR, blankG]
  have q3 : (blankG c k).cells ≤ 64 := by simp [blankG]; omega
  have q0 : 0 ≤ (blankG c k).cells := by simp [blankG]
  have q4 : (blankG c k).kinds.length ≤ 400 := by simp [blankG]; omega
  have hel : (encGame (blankG c k)).length = 9 := rfl
  have hbl : ∀ n, (∀ c' ∈ encGame (blankG c k), Bel n c') = True := fun n => by simp [go_sem]
  generalize blankG c k = g at *
  have hcont := (posOk_iff.1 hpo).2.1
  have hO := Of_pure g q4 p hfit hcont
  have hR := Of14_pure g q4 p hfit hcont
  have hfo := fitsP_of (g := g) hfit q4
  have hSm := Same14_pure (ofP g p) (ofP g p) hfo hfo
  have hSz : ∀ m, FitsP m → _ := fun m hm => Size_pure g q1 q2 q3 q4 m (by have := hm.1; unfold Fits at this; omega) hm.2.1 hm.2.2
  have hSz2 : ∀ m, FitsP m → _ := fun m hm => Size14_pure g q1 q2 q0 q3 q4 m (by have := hm.1; unfold Fits at this; omega) hm.2.1 hm.2.2
  have hVa : ∀ m, FitsP m → _ := fun m hm => ixValid_pure g q1 q2 q3 q4 m (by have := hm.1; unfold Fits at this; omega) hm.2.1 hm.2.2
  have hVa2 : ∀ m, FitsP m → _ := fun m hm => matRgo_pure g q1 q2 q0 q3 m (by have := hm.1; unfold Fits at this; omega) hm.2.1 hm.2.2
  have hAt : ∀ m, FitsP m → _ := fun m hm => At_pure g q1 q2 q3 q4 m (by have := hm.1; unfold Fits at this; omega) hm.2.1 hm.2.2 x.rights
  have hAt2 : ∀ m, FitsP m → _ := fun m hm => At14_pure g q1 q2 q0 q3 q4 m (by have := hm.1; unfold Fits at this; omega) hm.2.1 hm.2.2 x.rights
  have hfa : ∀ m, FitsP m → FitsP (atOf g m x.rights).1 := fun m hm => fits_at q3 hm.2.1 hm.2.2 _
  have hRk := Rank_pure g q1 q2 q3 q4 p hfit
  have hRk2 := Rank14_pure g q1 q2 q0 q3 q4 p hfit
  have hRx := Rank_pure g q1 q2 q3 q4 x hx
  have hRx2 := Rank14_pure g q1 q2 q0 q3 q4 x hx
  simp only [matR_eq q0] at hVa2
  generalize encGame g = eg at *
  generalize hmm : ofP g p = m at *
  refine Pure.of (ACallP.of_awp (by kernel_rfl) Try.func6 rfl rfl (Nat.le_of_ble_eq_true rfl) (by kernel_rfl) ?_)
  (repeat (first | ((with_reducible refine VC.mkL ?_ fun _ => ?_); · first | omega | exact True.intro | rfl) | ((with_reducible refine VC.mkD ?_ fun _ => ?_); · first | omega | exact True.intro | (intros; omega)) | ((with_reducible refine dEnd.mk ?_ ?_); · kernel_rfl) | (simp [go_sem])))
  refine ACallP.plain ok14_pure (by simp [go_sem]) ?_
  (repeat (first | ((with_reducible refine VC.mkL ?_ fun _ => ?_); · first | omega | exact True.intro | rfl) | ((with_reducible refine VC.mkD ?_ fun _ => ?_); · first | omega | exact True.intro | (intros; omega)) | ((with_reducible refine dEnd.mk ?_ ?_); · kernel_rfl) | (simp [go_sem])))
  refine ACallP.plain hbd (by simp [go_sem]) ?_
  (repeat (first | ((with_reducible refine VC.mkL ?_ fun _ => ?_); · first | omega | exact True.intro | rfl) | ((with_reducible refine VC.mkD ?_ fun _ => ?_); · first | omega | exact True.intro | (intros; omega)) | ((with_reducible refine dEnd.mk ?_ ?_); · kernel_rfl) | (simp [go_sem, hel])))
  refine ACallP.plain hO (by simp [go_sem, hbl]) ?_
  (repeat (first | ((with_reducible refine VC.mkL ?_ fun _ => ?_); · first | omega | exact True.intro | rfl) | ((with_reducible refine VC.mkD ?_ fun _ => ?_); · first | omega | exact True.intro | (intros; omega)) | ((with_reducible refine dEnd.mk ?_ ?_); · kernel_rfl) | (simp [go_sem, hel])))
  refine dCall.plain hR (by simp [go_sem, hbl]) ?_
  (repeat (first | ((with_reducible refine VC.mkL ?_ fun _ => ?_); · first | omega | exact True.intro | rfl) | ((with_reducible refine VC.mkD ?_ fun _ => ?_); · first | omega | exact True.intro | (intros; omega)) | ((with_reducible refine dEnd.mk ?_ ?_); · kernel_rfl) | (simp [go_sem, hel])))
  refine dCall.plain hSm (by simp [go_sem, hbl]) ?_
  (repeat (first | ((with_reducible refine VC.mkL ?_ fun _ => ?_); · first | omega | exact True.intro | rfl) | ((with_reducible refine VC.mkD ?_ fun _ => ?_); · first | omega | exact True.intro | (intros; omega)) | ((with_reducible refine dEnd.mk ?_ ?_); · kernel_rfl) | (simp [go_sem, hel])))
  obtain ⟨ms, hms⟩ : ∃ ms : List PosD, ms = [m, x, { p with at_ := x.at_ }] := ⟨_, rfl⟩
  have hmsl : ms.length = 3 := by subst hms; rfl
  have hmsf : ∀ q ∈ ms, FitsP q := by subst hms; simp; exact ⟨hfo, hx, hx.1, hfit.2.1, hfit.2.2⟩
  have hmse : ms.map encPos = [encPos m, encPos x, encPos { p with at_ := x.at_ }] := by subst hms; rfl
  clear hms
  refine ALoop.start (ALoop.ind (α := Nat) (fun j => ⟨[(5, .ref 1 0 5 0 0), (7, .v (.bool true)), (8, .ref 2 0 9 0 0), (9, .ref 3 0 5 0 0), (13, .sl 13 0 5 0 3), (14, .v (.int .i64 j))], [(1, .rows true 0 5 [encPos x]), (2, .rows true 0 9 [eg]), (3, .rows true 0 5 [encPos p]), (13, .rows true 0 5 (ms.map encPos))], 14⟩)
    (fun d j => j + d = 3) ?_ 3 0 ?_) ?_ ?_
  · rintro d j i1 hrec
    (repeat (first | ((with_reducible refine VC.mkL ?_ fun _ => ?_); · first | omega | exact True.intro | rfl) | ((with_reducible refine VC.mkD ?_ fun _ => ?_); · first | omega | exact True.intro | (intros; omega)) | ((with_reducible refine dEnd.mk ?_ ?_); · kernel_rfl) | (simp [go_sem])))
    refine aIf.mkL (fun hj => ?_) (fun hj => ?_) <;> simp at hj
    · have hjm : j < ms.length := by omega
      have hq := hmsf _ (nth_mem hjm)
      (repeat (first | ((with_reducible refine VC.mkL ?_ fun _ => ?_); · first | omega | exact True.intro | rfl) | ((with_reducible refine VC.mkD ?_ fun _ => ?_); · first | omega | exact True.intro | (intros; omega)) | ((with_reducible refine dEnd.mk ?_ ?_); · kernel_rfl) | (simp [go_sem, hel, hjm])))
      generalize hnq : nth ms j = q at *
      refine dCall.plain (hSz q hq) (by simp [go_sem, hbl]) ?_
      (repeat (first | ((with_reducible refine VC.mkL ?_ fun _ => ?_); · first | omega | exact True.intro | rfl) | ((with_reducible refine VC.mkD ?_ fun _ => ?_); · first | omega | exact True.intro | (intros; omega)) | ((with_reducible refine dEnd.mk ?_ ?_); · kernel_rfl) | (simp [go_sem, hel, hjm, hnq])))
      refine dCall.plain (hSz2 q hq) (by simp [go_sem, hbl]) ?_
      generalize sizeOf_ g q = sz at *
      (repeat (first | ((with_reducible refine VC.mkL ?_ fun _ => ?_); · first | omega | exact True.intro | rfl) | ((with_reducible refine VC.mkD ?_ fun _ => ?_); · first | omega | exact True.intro | (intros; omega)) | ((with_reducible refine dEnd.mk ?_ ?_); · kernel_rfl) | (simp [go_sem, hel, hjm, hnq])))
      refine dGC.plain _ (fun _ => hVa q hq) (by simp [go_sem, hbl]) ?_
      (repeat (first | ((with_reducible refine VC.mkL ?_ fun _ => ?_); · first | omega | exact True.intro | rfl) | ((with_reducible refine VC.mkD ?_ fun _ => ?_); · first | omega | exact True.intro | (intros; omega)) | ((with_reducible refine dEnd.mk ?_ ?_); · kernel_rfl) | (simp [go_sem, hel, hjm, hnq])))
      refine dGC.plain _ (fun _ => hVa2 q hq) (by simp [go_sem, hbl]) ?_
      generalize matOk g q = vq at *
      (repeat (first | ((with_reducible refine VC.mkL ?_ fun _ => ?_); · first | omega | exact True.intro | rfl) | ((with_reducible refine VC.mkD ?_ fun _ => ?_); · first | omega | exact True.intro | (intros; omega)) | ((with_reducible refine dEnd.mk ?_ ?_); · kernel_rfl) | (simp [go_sem, hel, hjm, hnq])))
      refine dCall.plain (hAt q hq) (by simp [go_sem, hbl]) ?_
      (repeat (first | ((with_reducible refine VC.mkL ?_ fun _ => ?_); · first | omega | exact True.intro | rfl) | ((with_reducible refine VC.mkD ?_ fun _ => ?_); · first | omega | exact True.intro | (intros; omega)) | ((with_reducible refine dEnd.mk ?_ ?_); · kernel_rfl) | (simp [go_sem, hel, hjm, hnq])))
      refine dCall.plain (hAt2 q hq) (by simp [go_sem, hbl]) ?_
      have hfq := hfa q hq
      generalize atOf g q x.rights = at1 at *
      (repeat (first | ((with_reducible refine VC.mkL ?_ fun _ => ?_); · first | omega | exact True.intro | rfl) | ((with_reducible refine VC.mkD ?_ fun _ => ?_); · first | omega | exact True.intro | (intros; omega)) | ((with_reducible refine dEnd.mk ?_ ?_); · kernel_rfl) | (simp [go_sem, hel, hjm, hnq])))
      refine ACallP.plain (Compare_pure at1.1 at1.1 hfq hfq) (by simp [go_sem, hbl]) ?_
      rw [cmpP_self]
      (repeat (first | ((with_reducible refine VC.mkL ?_ fun _ => ?_); · first | omega | exact True.intro | rfl) | ((with_reducible refine VC.mkD ?_ fun _ => ?_); · first | omega | exact True.intro | (intros; omega)) | ((with_reducible refine dEnd.mk ?_ ?_); · kernel_rfl) | (simp [go_sem, hel, hjm, hnq])))
      refine ALoop.start (hrec (d - 1) (by omega) (j + 1) (by omega)) ?_ (by simp)
      simp [go_sem, Wk_eq, hbl]
    · (repeat (first | ((with_reducible refine VC.mkL ?_ fun _ => ?_); · first | omega | exact True.intro | rfl) | ((with_reducible refine VC.mkD ?_ fun _ => ?_); · first | omega | exact True.intro | (intros; omega)) | ((with_reducible refine dEnd.mk ?_ ?_); · kernel_rfl) | (simp [go_sem, hel])))
      refine ACallP.plain hRk (by simp [go_sem, hbl]) ?_
      (repeat (first | ((with_reducible refine VC.mkL ?_ fun _ => ?_); · first | omega | exact True.intro | rfl) | ((with_reducible refine VC.mkD ?_ fun _ => ?_); · first | omega | exact True.intro | (intros; omega)) | ((with_reducible refine dEnd.mk ?_ ?_); · kernel_rfl) | (simp [go_sem, hel])))
      refine ACallP.plain hRk2 (by simp [go_sem, hbl]) ?_
      (repeat (first | ((with_reducible refine VC.mkL ?_ fun _ => ?_); · first | omega | exact True.intro | rfl) | ((with_reducible refine VC.mkD ?_ fun _ => ?_); · first | omega | exact True.intro | (intros; omega)) | ((with_reducible refine dEnd.mk ?_ ?_); · kernel_rfl) | (simp [go_sem, hel])))
      refine ACallP.plain hRx (by simp [go_sem, hbl]) ?_
      (repeat (first | ((with_reducible refine VC.mkL ?_ fun _ => ?_); · first | omega | exact True.intro | rfl) | ((with_reducible refine VC.mkD ?_ fun _ => ?_); · first | omega | exact True.intro | (intros; omega)) | ((with_reducible refine dEnd.mk ?_ ?_); · kernel_rfl) | (simp [go_sem, hel])))
      refine ACallP.plain hRx2 (by simp [go_sem, hbl]) ?_
      generalize rankOf g p = r1 at *
      generalize rankOf g x = r2 at *
      (repeat (first | ((with_reducible refine VC.mkL ?_ fun _ => ?_); · first | omega | exact True.intro | rfl) | ((with_reducible refine VC.mkD ?_ fun _ => ?_); · first | omega | exact True.intro | (intros; omega)) | ((with_reducible refine dEnd.mk ?_ ?_); · kernel_rfl) | (simp [go_sem, hel])))
  · simp
  · rw [hmse]
    simp [go_sem, Wk_eq, hbl]
  · simp
end Go.Av
