/- For every input, the function IndexAll gives true and leaves its input as it was. No condition. -/
import Derived.Test.YtmmboiafelbgbaaL5
import Derived.Test.YtmmboiafelbgbaaAvG
import Derived.Test.YtmmboiafelbgbaaRows
import Derived.JoinedCond
import Derived.Handed
import Derived.HandedShaped
set_option linter.unusedSimpArgs false
set_option linter.unusedVariables false
open Go Go.Proofs Go.Av Go.ChangeShapes Go.RowKit
set_option maxRecDepth 100000
namespace Go.Proofs.Ytmmboiafelbgbaa
theorem index_all_own : ownKnob Try.prog.godebug = none := by kernel_rfl
theorem index_all_laid : laidOutB Try.prog = true := by kernel_rfl
theorem index_all_contract (H : Type) (enc : TypeId × Value → H) (W : World) (base : Nat) (args : Array Value) (ds gs : List (DataW H)) (before : List MemPlace)
    (hval : ∀ (j : Nat) t v, Try.f9.params[j]? = some t → args[j]? = some v → Value.okWide Try.prog W .any base t v)
    (hW : DataW.Whole enc Try.prog Try.f9.params.toList Rows.indexAllSpec.vars false W args.toList ds gs before) :
    Calls Try.prog 9 args W fun e W' => ∃ v, e = .returned v ∧ Rows.indexAllSpec.post enc Try.prog Try.f9 false true false false W args v W' := by
  have hW' := hW
  obtain ⟨p, q, hA0, hV, rfl, hfz, hnd⟩ := hW
  have hA : DataW.TrodAll enc Try.prog W 0 (fun _ => true) true Try.f9.params.toList args.toList ds p := hA0
  rw [Try.params9] at hA hval
  obtain ⟨v0, vs0, d0, ds0, p0, q0, hargs, rfl, rfl, h0, r0⟩ := trodAll_cons hA
  obtain ⟨v1, vs1, d1, ds1, p1, q1, rfl, rfl, rfl, h1, r1⟩ := trodAll_cons r0
  obtain ⟨rfl, rfl, rfl⟩ := trodAll_nil r1
  obtain rfl : args = #[v0, v1] := by cases args; simp_all
  obtain ⟨l0, hn0, hq0⟩ := Opn.arg (Opn.array (sz := 1) Bulk.any Try.underlying70 (by kernel_rfl) (by kernel_rfl) (Opn.int (B := maxLen) (bk := fun _ => 0) (P := Try.prog) Try.underlying5 (by kernel_rfl))) (ag := true) (by kernel_rfl) (fun h => by cases h) (hval 0 70 v0 rfl rfl) h0 (Nat.zero_le _)
  obtain ⟨a00, a01, rfl⟩ : ∃ a00 a01 : Int, l0 = [a00, a01] := by
    obtain ⟨hl, _⟩ := hq0
    match l0, hl with
    | [a00, a01], _ => exact ⟨a00, a01, rfl⟩
  have hba00 := bounds_u8 (hq0.2 a00 (by simp))
  have hba01 := bounds_u8 (hq0.2 a01 (by simp))
  obtain ⟨l1, hn1, hq1⟩ := Opn.arg (Opn.slice (sz := 1) Bulk.any Try.underlying22 (by kernel_rfl) (by kernel_rfl) (Nat.one_pos) (Opn.int (B := maxLen) (bk := fun _ => 0) (P := Try.prog) Try.underlying5 (by kernel_rfl))) (ag := false) (by kernel_rfl) (fun _ => by kernel_rfl) (hval 1 22 v1 rfl rfl) h1 (Nat.zero_le _)
  have hb1 : ∀ x ∈ l1, 0 ≤ x ∧ x ≤ 255 := fun x hx => bounds_u8 (hq1.2 x hx)
  refine contract_of_pure (fn := Try.f9) (tb := 4) index_all_laid (by kernel_rfl) rfl (by kernel_rfl) Try.underlying4 hW' (fun h => by subst h; rfl) (IndexAll_pure a00 a01 l1 hba00 hba01 hq1.1 hb1) ?_
  exact .cons hn0 (.cons hn1 (.nil))
theorem index_all_lifted (os : Os) (started : os.Started) (H : Type) (enc : TypeId × Value → H) :
    ReturnsInHanded {} Try.checked os 9 .any (Rows.indexAllSpec.pre6 enc Try.prog Try.f9 Rows.indexAllRow.domain false) (Rows.indexAllSpec.post enc Try.prog Try.f9 false true false false) := by
  refine returnsInHanded_of_change (C := Try.checked) index_all_own started (by kernel_rfl) Try.func9
    (ChangeSpec.witness6 (enc := enc) (C := Try.checked) false ⟨#[], #[.agg #[.int .u8 0, .int .u8 0], .slice none 0 0], []⟩ 8 (by kernel_rfl) (by kernel_rfl) (by kernel_rfl) (by kernel_rfl)) ?_
  intro W base args ds gs before hval hW _ _
  exact index_all_contract H enc W base args ds gs before hval hW
theorem index_all : Rows.IndexAllSaid :=
  OpenClaim.holds_of_wide 9 Try.f9 rfl rfl rfl rfl rfl rfl rfl ⟨rfl, rfl, rfl, rfl, rfl⟩ rfl rfl rfl rfl rfl (by kernel_rfl) Try.func9 (by kernel_rfl)
    (of_decide_eq_true (by kernel_rfl)) (by unfold Func.isWrapper; first | (rw [if_pos (by decide +kernel)]; kernel_rfl) | (rw [if_neg (by decide +kernel)]; exact ⟨rfl, rfl⟩))
    (fun os started H enc _ => index_all_lifted os started H enc)
end Go.Proofs.Ytmmboiafelbgbaa
