/- Where what it reads is of bulk at most 1048576, the function RegionLeast gives true and leaves its input as it was. -/
import Derived.Test.YtpngjhfkaogdeaaFP
import Derived.Test.YtpngjhfkaogdeaaOp3
import Derived.JoinedCond
import Derived.Handed
import Derived.HandedShaped
section
set_option linter.unusedSimpArgs false
set_option linter.unusedVariables false
open Go Go.Proofs Go.Av Go.ChangeShapes Go.RowKit
set_option maxRecDepth 100000
namespace Go.Proofs.Ytpngjhfkaogdeaa
theorem region_least_own : ownKnob Try.prog.godebug = none := by kernel_rfl
theorem region_least_laid : laidOutB Try.prog = true := by kernel_rfl
theorem region_least_contract (H : Type) (enc : TypeId × Value → H) (W : World) (base : Nat) (args : Array Value) (ds gs : List (DataW H)) (before : List MemPlace)
    (hval : ∀ (j : Nat) t v, Try.f4.params[j]? = some t → args[j]? = some v → Value.okWide Try.prog W .any base t v)
    (hW : DataW.Whole enc Try.prog Try.f4.params.toList Rows.regionLeastSpec.vars false W args.toList ds gs before) (hk : Rows.uptoSmall H (ds ++ gs) = true) :
    Calls Try.prog 4 args W fun e W' => ∃ v, e = .returned v ∧ Rows.regionLeastSpec.post enc Try.prog Try.f4 false true false false W args v W' := by
  have hW' := hW
  obtain ⟨p, q, hA0, hV, rfl, hfz, hnd⟩ := hW
  have hA : DataW.TrodAll enc Try.prog W 0 (fun _ => true) true Try.f4.params.toList args.toList ds p := hA0
  rw [Try.params4] at hA hval
  obtain ⟨v0, vs0, d0, ds0, p0, q0, hargs, rfl, rfl, h0, r0⟩ := trodAll_cons hA
  obtain ⟨rfl, rfl, rfl⟩ := trodAll_nil r0
  obtain rfl : args = #[v0] := by cases args; simp_all
  have k0 := upto_bound hk (d := d0) (by simp)
  obtain ⟨x0, hn0, hq0⟩ := Opn.arg opn_g3 (ag := true) (by kernel_rfl) (fun h => by cases h) (hval 0 27 v0 rfl rfl) h0 k0
  refine contract_of_pure (fn := Try.f4) (tb := 4) region_least_laid (by kernel_rfl) rfl (by kernel_rfl) Try.underlying4 hW' (fun h => by subst h; rfl) (RegionLeast_pure x0 hq0.1 (by have := hq0.2.2.2; omega) (by have := hq0.2.1; omega) (by have := hq0.2.2.1; omega)) ?_
  exact .cons hn0 (.nil)
theorem region_least_lifted (os : Os) (started : os.Started) (H : Type) (enc : TypeId × Value → H) (F : Stop.Interp) :
    ReturnsInHanded {} Try.checked os 4 .any ((Rows.OpenSpec.upto Rows.regionLeastSpec).pre6 enc Try.prog Try.f4 Rows.regionLeastUptoRow.domain false) (((Rows.OpenSpec.upto Rows.regionLeastSpec).at F).post enc Try.prog Try.f4 false true false false) := by
  refine returnsInHanded_of_cond (C := Try.checked) (s := Rows.OpenSpec.upto Rows.regionLeastSpec) (k := Rows.uptoSmall) rfl region_least_own started (by kernel_rfl) Try.func4
    (OpenSpec.witness (enc := enc) (C := Try.checked) (s := Rows.OpenSpec.upto Rows.regionLeastSpec) (k := Rows.uptoSmall) rfl false ⟨#[], #[.agg #[.int .u8 0, .int .u8 0, .int .u8 0, .slice none 0 0, .slice none 0 0, .slice none 0 0, .int .u8 0, .int .u8 0, .int .u8 0, .int .u8 0, .int .u8 0, .int .u8 0]], []⟩ 8 (by kernel_rfl) (by kernel_rfl) (by kernel_rfl)
      (x := ([.agg [.lit (.int .u8 0), .lit (.int .u8 0), .lit (.int .u8 0), .agg [.nil, .nil], .nil, .agg [.lit (.int .u8 0), .lit (.int .u8 0), .lit (.int .u8 0), .lit (.int .u8 0), .lit (.int .u8 0), .lit (.int .u8 0)]]], [], [])) (by kernel_rfl) rfl (by kernel_rfl)) ?_
  intro W base args ds gs before hval hW _ hk _
  exact region_least_contract H enc W base args ds gs before hval hW hk
theorem region_least_said : Rows.RegionLeastUptoSaid :=
  OpenClaim.holds_of_cond 4 Try.f4 rfl rfl rfl rfl rfl rfl rfl ⟨rfl, rfl, rfl, rfl, rfl⟩ rfl rfl rfl rfl rfl (by kernel_rfl) Try.func4 (by kernel_rfl)
    (of_decide_eq_true (by kernel_rfl)) (by unfold Func.isWrapper; first | (rw [if_pos (by decide +kernel)]; kernel_rfl) | (rw [if_neg (by decide +kernel)]; exact ⟨rfl, rfl⟩))
    (fun os started H enc _ F => region_least_lifted os started H enc F)
end Go.Proofs.Ytpngjhfkaogdeaa
end
