/- Where what it reads is of bulk at most 1048576, the function GenTurns gives true and leaves its input as it was. -/
import Derived.Test.YtbcnlnpgkonjpaaGreatBk
import Derived.Test.YtbcnlnpgkonjpaaGreatOp6
import Derived.JoinedCond
import Derived.Handed
import Derived.HandedShaped
section
set_option linter.unusedSimpArgs false
set_option linter.unusedVariables false
open Go Go.Proofs Go.Av Go.ChangeShapes Go.RowKit
set_option maxRecDepth 100000
namespace Go.Proofs.YtbcnlnpgkonjpaaGreat
theorem gen_turns_own : ownKnob Tryz.prog.godebug = none := by kernel_rfl
theorem gen_turns_laid : laidOutB Tryz.prog = true := by kernel_rfl
theorem gen_turns_contract (H : Type) (enc : TypeId × Value → H) (W : World) (base : Nat) (args : Array Value) (ds gs : List (DataW H)) (before : List MemPlace)
    (hval : ∀ (j : Nat) t v, Tryz.f4.params[j]? = some t → args[j]? = some v → Value.okWide Tryz.prog W .any base t v)
    (hW : DataW.Whole enc Tryz.prog Tryz.f4.params.toList Rows.genTurnsSpec.vars false W args.toList ds gs before) (hk : Rows.uptoSmall H (ds ++ gs) = true) :
    Calls Tryz.prog 4 args W fun e W' => ∃ v, e = .returned v ∧ Rows.genTurnsSpec.post enc Tryz.prog Tryz.f4 false true false false W args v W' := by
  have hW' := hW
  obtain ⟨p, q, hA0, hV, rfl, hfz, hnd⟩ := hW
  have hA : DataW.TrodAll enc Tryz.prog W 0 (fun _ => true) true Tryz.f4.params.toList args.toList ds p := hA0
  rw [Tryz.params4] at hA hval
  obtain ⟨v0, vs0, d0, ds0, p0, q0, hargs, rfl, rfl, h0, r0⟩ := trodAll_cons hA
  obtain ⟨v1, vs1, d1, ds1, p1, q1, rfl, rfl, rfl, h1, r1⟩ := trodAll_cons r0
  obtain ⟨rfl, rfl, rfl⟩ := trodAll_nil r1
  obtain rfl : args = #[v0, v1] := by cases args; simp_all
  have k0 := upto_bound hk (d := d0) (by simp)
  obtain ⟨x, hn0, hq0⟩ := Opn.arg opn_raw6 (ag := true) (by kernel_rfl) (fun h => by cases h) (hval 0 32 v0 rfl rfl) h0 k0
  have k1 := upto_bound hk (d := d1) (by simp)
  obtain ⟨n1, hn1, hq1⟩ := Opn.arg (Opn.int (B := 1048576) (bk := UpB) (P := Tryz.prog) Tryz.underlying5 (by kernel_rfl)) (ag := false) (by kernel_rfl) (fun _ => by kernel_rfl) (hval 1 5 v1 rfl rfl) h1 k1
  have hb1 := bounds_u8 hq1
  refine contract_of_pure (fn := Tryz.f4) (tb := 4) gen_turns_laid (by kernel_rfl) rfl (by kernel_rfl) Tryz.underlying4 hW' (fun h => by subst h; rfl) (GenTurns_pure x hq0 n1 hb1) ?_
  exact .cons hn0 (.cons hn1 (.nil))
theorem gen_turns_lifted (os : Os) (started : os.Started) (H : Type) (enc : TypeId × Value → H) (F : Stop.Interp) :
    ReturnsInHanded {} Tryz.checked os 4 .any ((Rows.OpenSpec.upto Rows.genTurnsSpec).pre6 enc Tryz.prog Tryz.f4 Rows.genTurnsUptoRow.domain false) (((Rows.OpenSpec.upto Rows.genTurnsSpec).at F).post enc Tryz.prog Tryz.f4 false true false false) := by
  refine returnsInHanded_of_cond (C := Tryz.checked) (s := Rows.OpenSpec.upto Rows.genTurnsSpec) (k := Rows.uptoSmall) rfl gen_turns_own started (by kernel_rfl) Tryz.func4
    (OpenSpec.witness (enc := enc) (C := Tryz.checked) (s := Rows.OpenSpec.upto Rows.genTurnsSpec) (k := Rows.uptoSmall) rfl false ⟨#[], #[.agg #[.int .u8 0, .int .u8 0, .int .u8 0, .slice none 0 0, .slice none 0 0, .slice none 0 0, .int .u8 0, .int .u8 0, .int .u8 0, .int .u8 0, .int .u8 0, .int .u8 0, .int .u8 0, .int .u8 0, .int .u8 0, .int .u8 0, .int .u8 0, .int .u8 0, .int .u8 0, .int .u8 0, .int .u8 0, .int .u8 0, .int .u8 0, .int .u8 0, .int .u8 0, .int .u8 0, .int .u8 0, .int .u8 0, .int .u8 0, .int .u8 0, .slice none 0 0], .int .u8 0], []⟩ 8 (by kernel_rfl) (by kernel_rfl) (by kernel_rfl)
      (x := ([.agg [.agg [.lit (.int .u8 0), .lit (.int .u8 0), .lit (.int .u8 0), .agg [.nil, .nil], .nil, .agg [.lit (.int .u8 0), .lit (.int .u8 0), .lit (.int .u8 0), .lit (.int .u8 0), .lit (.int .u8 0), .lit (.int .u8 0)]], .agg [.agg [.lit (.int .u8 0), .lit (.int .u8 0), .lit (.int .u8 0), .lit (.int .u8 0), .lit (.int .u8 0), .lit (.int .u8 0)], .agg [.lit (.int .u8 0), .lit (.int .u8 0), .lit (.int .u8 0), .lit (.int .u8 0), .lit (.int .u8 0), .lit (.int .u8 0)], .agg [.lit (.int .u8 0), .lit (.int .u8 0), .lit (.int .u8 0), .lit (.int .u8 0)], .lit (.int .u8 0), .lit (.int .u8 0)], .nil], .lit (.int .u8 0)], [], [])) (by kernel_rfl) rfl (by kernel_rfl)) ?_
  intro W base args ds gs before hval hW _ hk _
  exact gen_turns_contract H enc W base args ds gs before hval hW hk
theorem gen_turns_said : Rows.GenTurnsUptoSaid :=
  OpenClaim.holds_of_cond 4 Tryz.f4 rfl rfl rfl rfl rfl rfl rfl ⟨rfl, rfl, rfl, rfl, rfl⟩ rfl rfl rfl rfl rfl (by kernel_rfl) Tryz.func4 (by kernel_rfl)
    (of_decide_eq_true (by kernel_rfl)) (by unfold Func.isWrapper; first | (rw [if_pos (by decide +kernel)]; kernel_rfl) | (rw [if_neg (by decide +kernel)]; exact ⟨rfl, rfl⟩))
    (fun os started H enc _ F => gen_turns_lifted os started H enc F)
end Go.Proofs.YtbcnlnpgkonjpaaGreat
end
