/- For every input, the function IndexSums gives true and leaves its input as it was. No condition. -/
import Derived.Test.YtmmboiafelbgbaaL1
import Derived.Test.YtmmboiafelbgbaaAvG
import Derived.Test.YtmmboiafelbgbaaRows
import Derived.JoinedCond
import Derived.Handed
import Derived.HandedShaped
set_option linter.unusedSimpArgs false
set_option linter.unusedVariables false
open Go Go.Proofs Go.Av Go.ChangeShapes Go.RowKit
set_option maxRecDepth 100000
namespace Go.Proofs.Ytmmboiafelbgbaa
theorem own1 : ownKnob Try.prog.godebug = none := by kernel_rfl
theorem laidOut1 : laidOutB Try.prog = true := by kernel_rfl
theorem sums_contract (H : Type) (enc : TypeId × Value → H) (W : World) (base : Nat) (args : Array Value) (ds gs : List (DataW H)) (before : List MemPlace)
    (hval : ∀ (j : Nat) t v, Try.f10.params[j]? = some t → args[j]? = some v → Value.okWide Try.prog W .any base t v)
    (hW : DataW.Whole enc Try.prog Try.f10.params.toList Rows.indexSumsSpec.vars false W args.toList ds gs before) :
    Calls Try.prog 10 args W fun e W' => ∃ v, e = .returned v ∧ Rows.indexSumsSpec.post enc Try.prog Try.f10 false true false false W args v W' := by
  have hW' := hW
  obtain ⟨p, q, hA0, hV, rfl, hfz, hnd⟩ := hW
  have hA : DataW.TrodAll enc Try.prog W 0 (fun _ => true) true Try.f10.params.toList args.toList ds p := hA0
  rw [Try.params10] at hA hval
  obtain ⟨v0, vs0, d0, ds0, p0, q0, hargs, rfl, rfl, h0, r0⟩ := trodAll_cons hA
  obtain ⟨rfl, rfl, rfl⟩ := trodAll_nil r0
  obtain rfl : args = #[v0] := by cases args; simp_all
  obtain ⟨n, hn, hwf⟩ := Opn.arg (Opn.int (B := maxLen) (bk := fun _ => 0) (P := Try.prog) Try.underlying5 (by kernel_rfl)) (ag := false) (by kernel_rfl) (fun _ => by kernel_rfl) (hval 0 5 v0 rfl rfl) h0 (Nat.zero_le _)
  have hb := bounds_u8 hwf
  refine contract_of_pure (fn := Try.f10) (tb := 4) laidOut1 (by kernel_rfl) rfl (by kernel_rfl) Try.underlying4 hW' (fun h => by subst h; rfl) (IndexSums_pure n hb.1 hb.2) ?_
  exact .cons hn .nil
theorem sums_lifted (os : Os) (started : os.Started) (H : Type) (enc : TypeId × Value → H) :
    ReturnsInHanded {} Try.checked os 10 .any (Rows.indexSumsSpec.pre6 enc Try.prog Try.f10 Rows.indexSumsRow.domain false) (Rows.indexSumsSpec.post enc Try.prog Try.f10 false true false false) := by
  refine returnsInHanded_of_change (C := Try.checked) own1 started (by kernel_rfl) Try.func10
    (ChangeSpec.witness6 (enc := enc) (C := Try.checked) false ⟨#[], #[.int .u8 0], []⟩ 8 (by kernel_rfl) (by kernel_rfl) (by kernel_rfl) (by kernel_rfl)) ?_
  intro W base args ds gs before hval hW _ _
  exact sums_contract H enc W base args ds gs before hval hW
theorem index_sums : Rows.IndexSumsSaid :=
  OpenClaim.holds_of_wide 10 Try.f10 rfl rfl rfl rfl rfl rfl rfl ⟨rfl, rfl, rfl, rfl, rfl⟩ rfl rfl rfl rfl rfl (by kernel_rfl) Try.func10 (by kernel_rfl)
    (of_decide_eq_true (by kernel_rfl)) (by unfold Func.isWrapper; first | (rw [if_pos (by decide +kernel)]; kernel_rfl) | (rw [if_neg (by decide +kernel)]; exact ⟨rfl, rfl⟩))
    (fun os started H enc _ => sums_lifted os started H enc)
#print axioms index_sums
end Go.Proofs.Ytmmboiafelbgbaa
