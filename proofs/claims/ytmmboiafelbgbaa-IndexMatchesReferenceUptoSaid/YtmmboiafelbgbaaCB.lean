/- Contracts, part 11: the reference's numbers of arrangements; positions that are drawn. -/
import Derived.Test.YtmmboiafelbgbaaCA
import Derived.Test.YtmmboiafelbgbaaIdxM
set_option linter.unusedSimpArgs false
set_option linter.unusedVariables false
open Go Go.Proofs
set_option maxRecDepth 20000
set_option maxHeartbeats 2000000
namespace Go.Av
/-! ### freezing some objects -/
def frz1 : Option AObj → Option AObj
  | some (.rows _ g sz rs) => some (.rows false g sz rs)
  | none => none
def frzO (h : Heap) (os : List Nat) : Heap := fun o => if os.contains o then frz1 (h o) else h o
theorem frzO_apply (h : Heap) (os : List Nat) (o : Nat) : frzO h os o = if os.contains o then frz1 (h o) else h o := rfl
theorem frz1_some (mt : Bool) (g sz : Nat) (rs : List (List AV)) : frz1 (some (.rows mt g sz rs)) = some (.rows false g sz rs) := rfl
theorem frz_frzO (h : Heap) (os : List Nat) : Frz h (frzO h os) := by
  intro o
  unfold frzO
  split
  · cases ho : h o with
    | none => exact .inl rfl
    | some x =>
      cases x with
      | rows mt g sz rs =>
        cases mt with
        | true => exact .inr ⟨g, sz, rs, rfl, rfl⟩
        | false => exact .inl rfl
  · exact .inl rfl
theorem ACallP.pureF {P : Program} {f : FuncId} {args args' : List AV} {r : AV} {h : Heap} {n : Nat} {K : CallK} (os : List Nat) (hp : Pure P f args' r) (hle : LeRow h (frzO h os) n args args') (hb : ∀ c ∈ args', Bel 0 c)
    (hk : K r (frzO h os) n) : ACallP P f args h n K := ACallP.pure (frzO h os) hp (frz_frzO h os) hle hb hk
attribute [go_sem] frzO_apply frz1_some
/-! ### skewerref14.choose -/
theorem choose_pure (n k : Int) (h0 : 0 ≤ k) (h1 : k ≤ n) (h2 : n ≤ 1048576) : Pure Try.prog 81 [.v (.int .i64 n), .v (.int .i64 k)] (.v (.int .i64 (chooseZ n k))) := by
  refine Pure.of (ACallP.of_awp (by kernel_rfl) Try.func81 rfl rfl (Nat.le_of_ble_eq_true rfl) (by kernel_rfl) ?_)
  (repeat (first | ((with_reducible refine VC.mkL ?_ fun _ => ?_); · first | omega | exact True.intro | rfl) | ((with_reducible refine VC.mkD ?_ fun _ => ?_); · first | omega | exact True.intro | (intros; omega)) | ((with_reducible refine dEnd.mk ?_ ?_); · kernel_rfl) | (simp [go_sem])))
  have e : (if n - k < k then n - k else k) = min k (n - k) := by rw [Int.min_def]; split <;> split <;> omega
  rw [e]
  have hk0 : 0 ≤ min k (n - k) ∧ min k (n - k) ≤ n := by omega
  unfold chooseZ
  generalize min k (n - k) = k' at *
  refine ALoop.start (ALoop.ind (α := Nat × Int) (fun a => ⟨[(0, .v (.int .i64 n)), (1, .v (.int .i64 k')), (5, .v (.int .i64 a.2)), (6, .v (.int .i64 ((a.1 : Int) + 1)))], [], 0⟩)
    (fun r a => a.1 + r = k'.toNat ∧ 0 ≤ a.2 ∧ a.2 ≤ 1099511627776 ∧ chooseGo (n - k').toNat k'.toNat 1 1 = chooseGo (n - k').toNat r ((a.1 : Int) + 1) a.2) ?_ k'.toNat (0, 1) ?_) ?_ ?_
  · rintro r ⟨j, out⟩ ⟨i1, i2, i3, i4⟩ hrec
    simp only at i1 i2 i3 i4
    (repeat (first | ((with_reducible refine VC.mkL ?_ fun _ => ?_); · first | omega | exact True.intro | rfl) | ((with_reducible refine VC.mkD ?_ fun _ => ?_); · first | omega | exact True.intro | (intros; omega)) | ((with_reducible refine dEnd.mk ?_ ?_); · kernel_rfl) | (simp [go_sem])))
    refine aIf.mkL (fun hj => ?_) (fun hj => ?_) <;> simp at hj
    · obtain ⟨r, rfl⟩ : ∃ r', r = r' + 1 := ⟨r - 1, by omega⟩
      have hm : (((n - k').toNat : Nat) : Int) = n - k' := by omega
      rw [chooseGo, hm] at i4
      have hmul : 0 ≤ out * (n - k' + ((j : Int) + 1)) := Int.mul_nonneg i2 (by omega)
      have hmul2 : out * (n - k' + ((j : Int) + 1)) ≤ 1099511627776 * 1048577 := Int.mul_le_mul i3 (by omega) (by omega) (by omega)
      have hdiv : (out * (n - k' + ((j : Int) + 1))).tdiv ((j : Int) + 1) = out * (n - k' + ((j : Int) + 1)) / ((j : Int) + 1) := Int.tdiv_eq_ediv_of_nonneg hmul
      have hd0 : 0 ≤ out * (n - k' + ((j : Int) + 1)) / ((j : Int) + 1) := Int.ediv_nonneg hmul (by omega)
      have hd1 : out * (n - k' + ((j : Int) + 1)) / ((j : Int) + 1) ≤ out * (n - k' + ((j : Int) + 1)) := Int.ediv_le_self _ hmul
      generalize hq : out * (n - k' + ((j : Int) + 1)) / ((j : Int) + 1) = q at *
      generalize hpr : out * (n - k' + ((j : Int) + 1)) = pr at *
      (repeat (first | ((with_reducible refine VC.mkL ?_ fun _ => ?_); · first | omega | exact True.intro | rfl) | ((with_reducible refine VC.mkD ?_ fun _ => ?_); · first | omega | exact True.intro | (intros; omega)) | ((with_reducible refine dEnd.mk ?_ ?_); · kernel_rfl) | (simp [go_sem, hpr, hdiv])))
      refine aIf.mkL (fun hb => ?_) (fun hb => ?_) <;> simp at hb
      · rw [if_pos hb] at i4
        rw [i4]
        (repeat (first | ((with_reducible refine VC.mkL ?_ fun _ => ?_); · first | omega | exact True.intro | rfl) | ((with_reducible refine VC.mkD ?_ fun _ => ?_); · first | omega | exact True.intro | (intros; omega)) | ((with_reducible refine dEnd.mk ?_ ?_); · kernel_rfl) | (simp [go_sem])))
      · rw [if_neg (by omega)] at i4
        (repeat (first | ((with_reducible refine VC.mkL ?_ fun _ => ?_); · first | omega | exact True.intro | rfl) | ((with_reducible refine VC.mkD ?_ fun _ => ?_); · first | omega | exact True.intro | (intros; omega)) | ((with_reducible refine dEnd.mk ?_ ?_); · kernel_rfl) | (simp [go_sem])))
        refine ALoop.start (hrec r (by omega) (j + 1, q) ⟨by simp only; omega, hd0, by simp only; omega, by simpa using i4⟩) ?_ (by simp)
        simp [go_sem, Wk_eq]
    · have : r = 0 := by omega
      subst this
      rw [chooseGo] at i4
      rw [i4]
      (repeat (first | ((with_reducible refine VC.mkL ?_ fun _ => ?_); · first | omega | exact True.intro | rfl) | ((with_reducible refine VC.mkD ?_ fun _ => ?_); · first | omega | exact True.intro | (intros; omega)) | ((with_reducible refine dEnd.mk ?_ ?_); · kernel_rfl) | (simp [go_sem])))
  · exact ⟨by simp, by simp, by simp, rfl⟩
  · simp [go_sem, Wk_eq]
  · simp
theorem chooseZ_pos (n k : Int) (h0 : 0 ≤ k) (h1 : k ≤ n) : 0 < chooseZ n k := by
  have h := chooseZ_eq (n - k).toNat k.toNat
  have hp := bn_pos (n := (n - k).toNat + k.toNat) (k := k.toNat) (by omega)
  rw [show (((n - k).toNat + k.toNat : Nat) : Int) = n by omega, show ((k.toNat : Nat) : Int) = k by omega] at h
  rcases h with ⟨h, _⟩ | ⟨h, _⟩
  · rw [h]; omega
  · omega
/-! ### skewerref14.Ways -/
theorem waysR_pure (l : List Int) (hl : l.length ≤ 1000) (hv : ∀ x ∈ l, 0 ≤ x ∧ x ≤ 1000) : Pure Try.prog 44 [encIs l] (.v (.int .i64 (waysR l))) := by
  refine Pure.of (ACallP.of_awp (by kernel_rfl) Try.func44 rfl rfl (Nat.le_of_ble_eq_true rfl) (by kernel_rfl) ?_)
  (repeat (first | ((with_reducible refine VC.mkL ?_ fun _ => ?_); · first | omega | exact True.intro | rfl) | ((with_reducible refine VC.mkD ?_ fun _ => ?_); · first | omega | exact True.intro | (intros; omega)) | ((with_reducible refine dEnd.mk ?_ ?_); · kernel_rfl) | (simp [go_sem])))
  unfold waysR
  refine ALoop.start (ALoop.ind (α := Nat × Int × Int) (fun a => ⟨[(0, encIs l), (3, .v (.int .i64 a.2.1)), (4, .v (.int .i64 a.2.2)), (5, .v (.int .i64 a.1))], [], 0⟩)
    (fun d a => a.1 + d = l.length ∧ 1 ≤ a.2.1 ∧ a.2.1 ≤ 1099511627776 ∧ 0 ≤ a.2.2 ∧ a.2.2 ≤ 1000 * a.1 ∧ waysGo l 1 0 = waysGo (l.drop a.1) a.2.1 a.2.2) ?_ l.length (0, 1, 0) ?_) ?_ ?_
  · rintro d ⟨j, out, n⟩ ⟨i1, i2, i3, i4, i5, i6⟩ hrec
    simp only at i1 i2 i3 i4 i5 i6
    (repeat (first | ((with_reducible refine VC.mkL ?_ fun _ => ?_); · first | omega | exact True.intro | rfl) | ((with_reducible refine VC.mkD ?_ fun _ => ?_); · first | omega | exact True.intro | (intros; omega)) | ((with_reducible refine dEnd.mk ?_ ?_); · kernel_rfl) | (simp [go_sem])))
    refine aIf.mkL (fun hj => ?_) (fun hj => ?_) <;> simp at hj
    · rw [drop_cons hj, waysGo] at i6
      have hk := hv _ (nth_mem hj)
      (repeat (first | ((with_reducible refine VC.mkL ?_ fun _ => ?_); · first | omega | exact True.intro | rfl) | ((with_reducible refine VC.mkD ?_ fun _ => ?_); · first | omega | exact True.intro | (intros; omega)) | ((with_reducible refine dEnd.mk ?_ ?_); · kernel_rfl) | (simp [go_sem, hj])))
      generalize nth l j = k at *
      refine ACallP.plain (choose_pure (n + k) k hk.1 (by omega) (by omega)) (by simp [go_sem]) ?_
      have hcp := chooseZ_pos (n + k) k hk.1 (by omega)
      generalize chooseZ (n + k) k = c at *
      have hdiv : (1099511627776 : Int).tdiv out = 1099511627776 / out := Int.tdiv_eq_ediv_of_nonneg (by omega)
      have hd0 : 0 ≤ 1099511627776 / out := Int.ediv_nonneg (by omega) (by omega)
      have hd1 : 1099511627776 / out ≤ 1099511627776 := Int.ediv_le_self _ (by omega)
      (repeat (first | ((with_reducible refine VC.mkL ?_ fun _ => ?_); · first | omega | exact True.intro | rfl) | ((with_reducible refine VC.mkD ?_ fun _ => ?_); · first | omega | exact True.intro | (intros; omega)) | ((with_reducible refine dEnd.mk ?_ ?_); · kernel_rfl) | (simp [go_sem, hdiv])))
      refine aIf.mkL (fun hb => ?_) (fun hb => ?_) <;> simp at hb
      · rw [if_pos hb] at i6
        rw [i6]
        (repeat (first | ((with_reducible refine VC.mkL ?_ fun _ => ?_); · first | omega | exact True.intro | rfl) | ((with_reducible refine VC.mkD ?_ fun _ => ?_); · first | omega | exact True.intro | (intros; omega)) | ((with_reducible refine dEnd.mk ?_ ?_); · kernel_rfl) | (simp [go_sem])))
      · rw [if_neg (by omega)] at i6
        have hm : out * c ≤ 1099511627776 := by
          have h1 : c * out ≤ 1099511627776 / out * out := Int.mul_le_mul_of_nonneg_right hb (by omega)
          have h2 := Int.ediv_mul_le 1099511627776 (show out ≠ 0 by omega)
          rw [Int.mul_comm]; omega
        have hm0 : 1 ≤ out * c := Int.mul_pos (by omega) hcp
        (repeat (first | ((with_reducible refine VC.mkL ?_ fun _ => ?_); · first | omega | exact True.intro | rfl) | ((with_reducible refine VC.mkD ?_ fun _ => ?_); · first | omega | exact True.intro | (intros; omega)) | ((with_reducible refine dEnd.mk ?_ ?_); · kernel_rfl) | (simp [go_sem])))
        refine ALoop.start (hrec (d - 1) (by omega) (j + 1, out * c, n + k) ⟨by simp only; omega, hm0, hm, by simp only; omega, by simp only; omega, i6⟩) ?_ (by simp)
        simp [go_sem, Wk_eq]
    · rw [List.drop_eq_nil_of_le hj, waysGo] at i6
      rw [i6]
      (repeat (first | ((with_reducible refine VC.mkL ?_ fun _ => ?_); · first | omega | exact True.intro | rfl) | ((with_reducible refine VC.mkD ?_ fun _ => ?_); · first | omega | exact True.intro | (intros; omega)) | ((with_reducible refine dEnd.mk ?_ ?_); · kernel_rfl) | (simp [go_sem])))
  · exact ⟨by simp, by simp, by simp, by simp, by simp, rfl⟩
  · simp [go_sem, Wk_eq]
  · simp
end Go.Av
