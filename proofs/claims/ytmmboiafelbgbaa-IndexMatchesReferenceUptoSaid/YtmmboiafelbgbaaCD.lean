/- Contracts, part 13: the reference's Of. -/
import Derived.Test.YtmmboiafelbgbaaCC
set_option linter.unusedSimpArgs false
set_option linter.unusedVariables false
open Go Go.Proofs
set_option maxRecDepth 20000
set_option maxHeartbeats 2000000
namespace Go.Av
def ownMatR (n : Nat) (p : PosD) : AV := .agg [.sl (n + 20) 0 1 0 p.at_.length, .sl (n + 8) 1 1 0 p.h0.length, .sl (n + 13) 1 1 0 p.h1.length, .v (.int .i64 p.rights), .v (.int .i64 p.side)]
def ownMatRH (n : Nat) (p : PosD) : List (Nat × AObj) := [(n + 20, .rows true 0 1 (p.at_.map encI)), (n + 8, .rows true 1 1 (p.h0.map encI)), (n + 13, .rows true 1 1 (p.h1.map encI))]
attribute [go_sem] ownMatR ownMatRH
theorem Of14_owns (g : GameD) (hk : g.kinds.length ≤ 400) (p : PosD) (hp : FitsP p) (hc : ∀ c ∈ p.at_, 0 ≤ c ∧ c ≤ 2 * g.kinds.length) :
    Owns Try.prog 28 [.agg (encGame g), .agg (encPos p)] (fun n => ownMatR n (ofP g p)) (fun n => ownMatRH n (ofP g p)) 31 := by
  refine ⟨ACallP.of_awp (by kernel_rfl) Try.func28 rfl rfl (Nat.le_of_ble_eq_true rfl) (by kernel_rfl) ?_, fun n => ⟨by simp [go_sem], by simp [go_sem]⟩⟩
  have eK : (1 + 2 * (g.kinds.length : Int)).toNat = 1 + 2 * g.kinds.length := by omega
  have eK2 : (2 * (g.kinds.length : Int) + 1).toNat = 1 + 2 * g.kinds.length := by omega
  (repeat (first | ((with_reducible refine VC.mkL ?_ fun _ => ?_); · first | omega | exact True.intro | rfl) | ((with_reducible refine VC.mkD ?_ fun _ => ?_); · first | omega | exact True.intro | (intros; omega)) | ((with_reducible refine dEnd.mk ?_ ?_); · kernel_rfl) | (simp [go_sem, eK, eK2])))
  refine ACallP.ownsPlain (Copied_owns p hp) (by simp [go_sem]) ?_
  (repeat (first | ((with_reducible refine VC.mkL ?_ fun _ => ?_); · first | omega | exact True.intro | rfl) | ((with_reducible refine VC.mkD ?_ fun _ => ?_); · first | omega | exact True.intro | (intros; omega)) | ((with_reducible refine dEnd.mk ?_ ?_); · kernel_rfl) | (simp [go_sem, eK, eK2])))
  obtain ⟨p1, p2, p3⟩ := hp
  unfold Fits at p1 p2 p3
  refine ALoop.start (ALoop.ind (α := Nat × List Int) (fun a => ⟨[(3, .ref 1 0 5 0 0), (4, .ref 2 0 5 0 0), (6, .ref 28 0 5 0 0), (7, .v (.int .i64 a.1))],
      [(1, .rows true 0 5 [encPos p]), (2, .rows true 0 5 [[.v (.slice none 0 0), .v (.slice none 0 0), .v (.slice none 0 0), .v (.int .i64 0), .v (.int .i64 0)]]), (8, .rows true 1 1 (p.h0.map encI)), (13, .rows true 1 1 (p.h1.map encI)), (20, .rows true 0 1 (a.2.map encI)),
       (28, .rows true 0 5 [[.sl 20 0 1 0 (1 + 2 * g.kinds.length), .sl 8 1 1 0 p.h0.length, .sl 13 1 1 0 p.h1.length, .v (.int .i64 p.rights), .v (.int .i64 p.side)]])], 31⟩)
    (fun d a => a.1 + d = p.at_.length ∧ a.2.length = 1 + 2 * g.kinds.length ∧ (∀ x ∈ a.2, 0 ≤ x ∧ x ≤ a.1) ∧ (p.at_.drop a.1).foldl bump a.2 = menOf (1 + 2 * g.kinds.length) p.at_) ?_ p.at_.length (0, List.replicate (1 + 2 * g.kinds.length) 0) ?_) ?_ ?_
  · rintro d ⟨j, m⟩ ⟨i1, i2, i3, i4⟩ hrec
    simp only at i1 i2 i3 i4
    (repeat (first | ((with_reducible refine VC.mkL ?_ fun _ => ?_); · first | omega | exact True.intro | rfl) | ((with_reducible refine VC.mkD ?_ fun _ => ?_); · first | omega | exact True.intro | (intros; omega)) | ((with_reducible refine dEnd.mk ?_ ?_); · kernel_rfl) | (simp [go_sem])))
    refine aIf.mkL (fun hj => ?_) (fun hj => ?_) <;> simp at hj
    · have hm := hc _ (nth_mem hj)
      rw [drop_cons hj, List.foldl_cons] at i4
      have hcl : (nth p.at_ j).toNat < m.length := by omega
      have hb := i3 _ (nth_mem hcl)
      have hbs := bump_set (m := m) (c := nth p.at_ j)
      (repeat (first | ((with_reducible refine VC.mkL ?_ fun _ => ?_); · first | omega | exact True.intro | rfl) | ((with_reducible refine VC.mkD ?_ fun _ => ?_); · first | omega | exact True.intro | (intros; omega)) | ((with_reducible refine dEnd.mk ?_ ?_); · kernel_rfl) | (simp [go_sem, hj, hcl])))
      refine ALoop.start (hrec (d - 1) (by omega) (j + 1, bump m (nth p.at_ j)) ⟨by simp only; omega, by simp only [bump_length]; exact i2, fun x hx => bump_mem i3 hcl hx, i4⟩) ?_ (by simp)
      simp [go_sem, Wk_eq, hbs]
    · rw [List.drop_eq_nil_of_le hj, List.foldl_nil] at i4
      subst i4
      (repeat (first | ((with_reducible refine VC.mkL ?_ fun _ => ?_); · first | omega | exact True.intro | rfl) | ((with_reducible refine VC.mkD ?_ fun _ => ?_); · first | omega | exact True.intro | (intros; omega)) | ((with_reducible refine dEnd.mk ?_ ?_); · kernel_rfl) | (simp [go_sem])))
      simp [go_sem, Wk_eq, ofP, i2]
  · refine ⟨by simp, by simp, fun x hx => ?_, rfl⟩
    have := (List.mem_replicate.1 hx).2
    omega
  · simp [go_sem, Wk_eq, eK]
  · simp
theorem Of14_pure (g : GameD) (hk : g.kinds.length ≤ 400) (p : PosD) (hp : FitsP p) (hc : ∀ c ∈ p.at_, 0 ≤ c ∧ c ≤ 2 * g.kinds.length) :
    Pure Try.prog 28 [.agg (encGame g), .agg (encPos p)] (.agg (encPos (ofP g p))) := by
  refine (Of14_owns g hk p hp hc).pure ?_ (by simp [go_sem])
  refine .agg (.cons ?_ (.cons ?_ (.cons ?_ (.refl _ _ _ _))))
  · (refine leV_frz rfl (by simp) (by simp [noH, upd]) ?_; first | (simp [go_sem]; done) | (simp [go_sem]; exact List.take_of_length_le (by simp)))
  · (refine leV_frz rfl (by simp) (by simp [noH, upd]) ?_; first | (simp [go_sem]; done) | (simp [go_sem]; exact List.take_of_length_le (by simp)))
  · (refine leV_frz rfl (by simp) (by simp [noH, upd]) ?_; first | (simp [go_sem]; done) | (simp [go_sem]; exact List.take_of_length_le (by simp)))
end Go.Av
