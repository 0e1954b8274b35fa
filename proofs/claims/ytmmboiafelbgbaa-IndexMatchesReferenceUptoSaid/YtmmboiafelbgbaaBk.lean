/- What the bound of the second form gives, for our library. -/
import Derived.Test.YtmmboiafelbgbaaAvG
import Derived.Test.YtmmboiafelbgbaaRows
set_option linter.unusedSimpArgs false
set_option linter.unusedVariables false
open Go Go.Proofs
namespace Go.Av
open Go.Proofs.Ytmmboiafelbgbaa
theorem upto_one {H : Type} (d : DataW H) : 1 ≤ Rows.uptoBulk d := by
  cases d with
  | lit l => cases l <;> simp [Rows.uptoBulk]
  | _ => simp [Rows.uptoBulk]
theorem upto_part {H : Type} {d : DataW H} {l : List (DataW H)} (h : d ∈ l) : Rows.uptoBulk d ≤ Rows.uptoBulkAll l := by
  induction l with
  | nil => cases h
  | cons x r ih =>
    simp only [Rows.uptoBulkAll]
    rcases List.mem_cons.1 h with e | e
    · subst e; omega
    · have := ih e; omega
theorem upto_length {H : Type} (l : List (DataW H)) : l.length ≤ Rows.uptoBulkAll l := by
  induction l with
  | nil => simp [Rows.uptoBulkAll]
  | cons x r ih => have := upto_one x; simp only [Rows.uptoBulkAll, List.length_cons]; omega
theorem Bulk.upto {B : Nat} : Bulk B (fun d => Rows.uptoBulk d) where
  len := fun l r h _ => by
    have := upto_length l
    simp only [Rows.uptoBulk] at h; omega
  elem := fun l r d hd h => by
    have := upto_part hd
    simp only [Rows.uptoBulk] at h; omega
  part := fun l d hd h => by
    have := upto_part hd
    simp only [Rows.uptoBulk] at h; omega
  str := fun l h _ => by
    simp only [Rows.uptoBulk] at h; omega
theorem upto_bound {H : Type} {l : List (DataW H)} (hk : Rows.uptoSmall H l = true) {d : DataW H} (hd : d ∈ l) : Rows.uptoBulk d ≤ 1048576 := by
  have := upto_part hd
  have h := of_decide_eq_true hk
  omega
end Go.Av
