/- Contracts, part 5: numbers of arrangements. -/
import Derived.Test.YtmmboiafelbgbaaC4
set_option linter.unusedSimpArgs false
set_option linter.unusedVariables false
open Go Go.Proofs
set_option maxRecDepth 20000
namespace Go.Av
def big : Int := 1099511627777
def wgo : Nat → Int → Int → Int → Option (Int × Int)
  | 0, _, out, n => some (out, n)
  | r + 1, i, out, n => if 4611686018427387904 / (n + 1) < out then none else wgo r (i + 1) (out * (n + 1) / i) (n + 1)
def wall : List Int → Int → Int → Option Int
  | [], out, _ => some out
  | k :: l, out, n => match wgo k.toNat 1 out n with
    | none => none
    | some (o, m) => wall l o m
def ways (men : List Int) : Int := match wall men 1 0 with
  | none => big
  | some o => min o big
theorem ways_pure (men : List Int) (h1 : men.length ≤ 1000) (h2 : ∀ k ∈ men, k ≤ 1000) : Pure Try.prog 71 [encIs men] (.v (.int .i64 (ways men))) := by
  refine Pure.of (ACallP.of_awp (by kernel_rfl) Try.func71 rfl rfl (Nat.le_of_ble_eq_true rfl) (by kernel_rfl) ?_)
  simp [go_sem]
  refine ALoop.start (ALoop.ind (α := Nat × Int × Int) (fun a => ⟨[(0, encIs men), (8, encIs men), (9, .v (.int .i64 men.length)), (10, .v (.int .i64 a.1)), (3, .v (.int .i64 a.2.1)), (4, .v (.int .i64 a.2.2))], [], 0⟩)
    (fun d a => a.1 + d = men.length ∧ 0 ≤ a.2.1 ∧ a.2.1 ≤ 4611686018427387904 ∧ 0 ≤ a.2.2 ∧ a.2.2 ≤ a.1 * 1000 ∧ ways men = match wall (men.drop a.1) a.2.1 a.2.2 with | none => big | some o => min o big) ?_ men.length (0, 1, 0) ?_) ?_ ?_
  · rintro d ⟨j, out, n⟩ ⟨i1, i2, i3, i4, i5, i6⟩ hrec
    simp only at i1 i2 i3 i4 i5 i6
    simp [go_sem]
    refine aIf.mkL (fun hj => ?_) (fun hj => ?_)
    · simp at hj
      simp [go_sem]
      refine VC.mkL hj fun _ => ?_
      simp [go_sem, hj]
      have hm := h2 _ (nth_mem hj)
      have hd : men.drop j = nth men j :: men.drop (j + 1) := by rw [List.drop_eq_getElem_cons hj, nth_eq _ _ hj]
      rw [hd] at i6
      simp only [wall] at i6
      generalize nth men j = k at *
      refine ALoop.start (ALoop.ind (α := Int × Int × Int) (fun a => ⟨[(0, encIs men), (8, encIs men), (9, .v (.int .i64 men.length)), (10, .v (.int .i64 j)), (6, .v (.int .i64 k)), (7, .v (.int .i64 a.1)), (3, .v (.int .i64 a.2.1)), (4, .v (.int .i64 a.2.2))], [], 0⟩)
        (fun r a => 1 ≤ a.1 ∧ a.1 - 1 + r = k.toNat ∧ 0 ≤ a.2.1 ∧ a.2.1 ≤ 4611686018427387904 ∧ a.2.2 = n + (a.1 - 1) ∧ wgo k.toNat 1 out n = wgo r a.1 a.2.1 a.2.2) ?_ k.toNat (1, out, n) ?_) ?_ ?_
      · rintro r ⟨i, out', n'⟩ ⟨j1, j2, j3, j4, j5, j6⟩ hrec2
        simp only at j1 j2 j3 j4 j5 j6
        simp [go_sem]
        refine aIf.mkL (fun hi => ?_) (fun hi => ?_)
        · simp at hi
          simp [go_sem]
          refine VC.mkL (by omega) fun _ => ?_
          have q1 : (4611686018427387904 : Int).tdiv (n' + 1) = 4611686018427387904 / (n' + 1) := Int.tdiv_eq_ediv_of_nonneg (by omega)
          have q2 : 4611686018427387904 / (n' + 1) ≤ 4611686018427387904 := Int.ediv_le_self _ (by omega)
          have q3 : 0 ≤ 4611686018427387904 / (n' + 1) := Int.ediv_nonneg (by omega) (by omega)
          simp [go_sem]
          rw [q1]
          refine VC.mkL (by omega) fun _ => ?_
          simp [go_sem]
          obtain ⟨r, rfl⟩ : ∃ r', r = r' + 1 := ⟨r - 1, by omega⟩
          rw [wgo] at j6
          refine aIf.mkL (fun ho => ?_) (fun ho => ?_)
          · simp at ho
            rw [if_pos ho] at j6
            simp [go_sem]
            have : ways men = 1099511627777 := by rw [i6, j6]; rfl
            rw [this]; exact .refl _
          · simp at ho
            rw [if_neg (by omega)] at j6
            have q4 : out' * (n' + 1) ≤ 4611686018427387904 := Int.le_trans (Int.mul_le_mul_of_nonneg_right ho (by omega)) (Int.ediv_mul_le _ (by omega))
            have q5 : 0 ≤ out' * (n' + 1) := Int.mul_nonneg j3 (by omega)
            have q6 : (out' * (n' + 1)).tdiv i = out' * (n' + 1) / i := Int.tdiv_eq_ediv_of_nonneg q5
            have q7 : 0 ≤ out' * (n' + 1) / i := Int.ediv_nonneg q5 (by omega)
            have q8 : out' * (n' + 1) / i ≤ out' * (n' + 1) := Int.ediv_le_self _ q5
            simp [go_sem]
            refine VC.mkL (by omega) fun _ => ?_
            simp [go_sem]
            rw [q6]
            refine VC.mkL (by omega) fun _ => ?_
            simp [go_sem]
            refine VC.mkL (by omega) fun _ => ?_
            simp [go_sem]
            refine ALoop.start (hrec2 r (by omega) (i + 1, out' * (n' + 1) / i, n' + 1) (by refine ⟨?_, ?_, ?_, ?_, ?_, j6⟩ <;> simp only <;> omega)) ?_ (by simp)
            simp [go_sem, Wk_eq]
        · simp at hi
          have : r = 0 := by omega
          subst this
          simp only [wgo] at j6
          rw [j6] at i6
          simp only at i6
          simp [go_sem]
          refine VC.mkL (by omega) fun _ => ?_
          simp [go_sem]
          refine ALoop.start (hrec (d - 1) (by omega) (j + 1, out', n') (by refine ⟨?_, ?_, ?_, ?_, ?_, i6⟩ <;> simp only <;> omega)) ?_ (by simp)
          simp [go_sem, Wk_eq]
      · refine ⟨?_, ?_, ?_, ?_, ?_, rfl⟩ <;> simp only <;> omega
      · simp [go_sem, Wk_eq]
      · simp
    · simp at hj
      simp [go_sem]
      rw [List.drop_eq_nil_of_le hj] at i6
      have : (if 1099511627777 < out then 1099511627777 else out) = ways men := by rw [i6]; simp only [wall, big, Int.min_def]; split <;> split <;> omega
      rw [this]; exact .refl _
  · simp [ways]
  · simp [go_sem, Wk_eq]
  · simp
/-! ### index.Valid$1 -/
def oddN (g : GameD) (x : Int) : Bool := decide (x < 0) || decide (g.cells < x)
theorem odd_pure (g : GameD) (x : Int) : Pure Try.prog 72 [.v (.int .i64 x), .fp (encGame g)] (.v (.bool (oddN g x))) := by
  refine Pure.of (ACallP.of_awp (by kernel_rfl) Try.func72 rfl rfl (Nat.le_of_ble_eq_true rfl) (by kernel_rfl) ?_)
  simp [go_sem, oddN]
end Go.Av
