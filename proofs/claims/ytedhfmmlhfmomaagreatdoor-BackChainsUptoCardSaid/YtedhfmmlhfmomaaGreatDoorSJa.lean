/- What the row needs: Where what it reads is of bulk at most 1048576, and the listed variables hold what the text of the program lays, the function BackChains gives true and leaves its input as it was. -/
import Derived.Test.YtedhfmmlhfmomaaGreatDoorB12
import Derived.JoinedCond
import Derived.Handed
import Derived.HandedShaped
import Derived.Deep.DeepHandedRow
import Derived.LaidHandle
import Derived.LaidMore
set_option linter.unusedSimpArgs false
set_option linter.unusedVariables false
set_option maxRecDepth 100000
set_option maxHeartbeats 40000000
section
open Go Go.Proofs Go.Av Go.ChangeShapes Go.RowKit
namespace Go.Proofs.YtedhfmmlhfmomaaGreatDoor
theorem back_chains_contract (H : Type) (enc : TypeId × Value → H) (W : World) (base : Nat) (args : Array Value) (ds gs : List (DataW H)) (before : List MemPlace)
  (hval : ∀ (j : Nat) t v, Tryz.f10.params[j]? = some t → args[j]? = some v → Value.okWide Tryz.prog W .any base t v)
  (hW : DataW.Whole enc Tryz.prog Tryz.f10.params.toList Rows.backChainsSpec.vars false W args.toList ds gs before) (hk : Rows.uptoSmall H (ds ++ gs) = true) (hL : laidMetH Tryz.prog Rows.backChainsUptoRow.laid W) :
  Calls Tryz.prog 10 args W fun e W' => ∃ v, e = .returned v ∧ Rows.backChainsSpec.post enc Tryz.prog Tryz.f10 false true false false W args v W' := by
 have hW' := hW
 obtain ⟨p, q, hA0, hV, rfl, hfz, hnd⟩ := hW
 have hA : DataW.TrodAll enc Tryz.prog W 0 (fun _ => true) true Tryz.f10.params.toList args.toList ds p := hA0
 rw [Tryz.params10] at hA hval
 obtain ⟨v0, vs0, d0, ds0, p0, q0, hargs, rfl, rfl, h0, r0⟩ := trodAll_cons hA
 obtain ⟨v1, vs1, d1, ds1, p1, q1, rfl, rfl, rfl, h1, r1⟩ := trodAll_cons r0
 obtain ⟨v2, vs2, d2, ds2, p2, q2, rfl, rfl, rfl, h2, r2⟩ := trodAll_cons r1
 obtain ⟨rfl, rfl, rfl⟩ := trodAll_nil r2
 obtain rfl : args = #[v0, v1, v2] := by cases args; simp_all
 have k0 := zgx hk (d := d0) (by simp)
 obtain ⟨x0, hn0, hq0⟩ := zyj opn_g3 (ag := true) (by kernel_rfl) (fun h => by cases h) (hval 0 27 v0 rfl rfl) h0 k0
 have k1 := zgx hk (d := d1) (by simp)
 obtain ⟨x1, hn1, hq1⟩ := zyj (Opn.int (B := 1048576) (bk := UpB) (P := Tryz.prog) Tryz.underlying83 (by kernel_rfl)) (ag := false) (by kernel_rfl) (fun _ => by kernel_rfl) (hval 1 83 v1 rfl rfl) h1 k1
 have hb1 := bounds_u16 hq1
 have k2 := zgx hk (d := d2) (by simp)
 obtain ⟨x2, hn2, hq2⟩ := zyj zvv (ag := true) (by kernel_rfl) (fun h => by cases h) (hval 2 80 v2 rfl rfl) h2 k2
 refine zg0 (fn := Tryz.f10) (tb := 4) zw3 (by kernel_rfl) rfl (by kernel_rfl) Tryz.underlying4 hW' (fun h => by subst h; rfl) (zhl x0 hq0.1 (by have := hq0.2.2.2; omega) (by have := hq0.2.1; omega) (by have := hq0.2.2.1; omega) x1 hb1 x2.1 x2.2.1 x2.2.2 hq2.1 hq2.2.1 hq2.2.2) ?_ (zmj (hL.funcs (n := "skewer/play.conditions") (d := zoO) (.tail _ (.tail _ (.tail _ (.head _))))))
 exact .cons hn0 (.cons hn1 (.cons hn2 (.nil)))
theorem back_chains_reads (os : Os) {H : Type} (enc : TypeId × Value → H) : ∃ places, DataW.whole enc Tryz.prog ((World.doorLaid Tryz.prog 29 os).forCall (fun _ _ => 0) ⟨#[], #[.agg #[.int .u8 0, .int .u8 0, .int .u8 0, .slice none 0 0, .slice none 0 0, .slice none 0 0, .int .u8 0, .int .u8 0, .int .u8 0, .int .u8 0, .int .u8 0, .int .u8 0], .int .u16 0, .agg #[.int .u8 0, .int .u8 0, .int .u8 0]], []⟩).memory Tryz.f10.params.toList Rows.backChainsSpec.vars false (#[.agg #[.int .u8 0, .int .u8 0, .int .u8 0, .slice none 0 0, .slice none 0 0, .slice none 0 0, .int .u8 0, .int .u8 0, .int .u8 0, .int .u8 0, .int .u8 0, .int .u8 0], .int .u16 0, .agg #[.int .u8 0, .int .u8 0, .int .u8 0]] : Array Value).toList 8 = some ([.agg [.lit (.int .u8 0), .lit (.int .u8 0), .lit (.int .u8 0), .agg [.nil, .nil], .nil, .agg [.lit (.int .u8 0), .lit (.int .u8 0), .lit (.int .u8 0), .lit (.int .u8 0), .lit (.int .u8 0), .lit (.int .u8 0)]], .lit (.int .u16 0), .agg [.lit (.int .u8 0), .lit (.int .u8 0), .lit (.int .u8 0)]], [], places) :=
 ⟨[], by kernel_rfl⟩
theorem back_chains_lifted (os : Os) (started : os.Started) (H : Type) (enc : TypeId × Value → H) (F : Stop.Interp) :
  ReturnsInHanded {} Tryz.checked os 10 .any ((Rows.OpenSpec.upto Rows.backChainsSpec).preRow enc Tryz.prog Tryz.f10 Rows.backChainsUptoRow.domain false Rows.backChainsUptoRow.laid) (((Rows.OpenSpec.upto Rows.backChainsSpec).at F).post enc Tryz.prog Tryz.f10 false true false false) := by
 obtain ⟨places, hx⟩ := back_chains_reads os enc
 refine returnsInHanded_of_row (C := Tryz.checked) (s := Rows.OpenSpec.upto Rows.backChainsSpec) zu1 started (by kernel_rfl) Tryz.func10
  (witness_row_at (enc := enc) (C := Tryz.checked) false (World.doorLaid Tryz.prog 29 os) #[.agg #[.int .u8 0, .int .u8 0, .int .u8 0, .slice none 0 0, .slice none 0 0, .slice none 0 0, .int .u8 0, .int .u8 0, .int .u8 0, .int .u8 0, .int .u8 0, .int .u8 0], .int .u16 0, .agg #[.int .u8 0, .int .u8 0, .int .u8 0]] rfl (zsu os _) (zst os _) (by kernel_rfl)
   (OpenSpec.preRow_of_cond 8 hx (by kernel_rfl) (fun k hk => by cases hk; kernel_rfl) (by kernel_rfl) (zu0 os _))) ?_
 intro W base args ds gs before hval hW _ hcond _ hL _ _
 exact back_chains_contract H enc W base args ds gs before hval hW (hcond _ rfl) hL
theorem back_chains_row : Rows.BackChainsUptoSaid :=
 OpenClaim.holds_of_cond 10 Tryz.f10 rfl rfl rfl rfl rfl rfl rfl ⟨rfl, rfl, rfl, rfl, rfl⟩ rfl rfl rfl rfl rfl (by kernel_rfl) Tryz.func10 (by unfold joinedFacts; simp only [Bool.and_eq_true]; (repeat' (with_reducible refine And.intro ?_ ?_)) <;> (as_aux_lemma => kernel_rfl))
  (of_decide_eq_true (by kernel_rfl)) (by unfold Func.isWrapper; first | (rw [if_pos (by decide +kernel)]; kernel_rfl) | (rw [if_neg (by decide +kernel)]; exact ⟨rfl, rfl⟩))
  (fun os started H enc _ F => by rw [OpenClaim.pre_eq_preRow]; exact back_chains_lifted os started H enc F)
theorem back_chains_plain (f : FuncId) (fn : Func) (hf : Tryz.pinned.checked.prog.funcNamed "skewer/skewerlaw09.BackChains" = some f) (hfn : Tryz.pinned.checked.prog.funcs[f]? = some fn) :
  false = Tryz.pinned.checked.prog.looks [] ∧ ∀ (j : Nat) t, fn.params[j]? = some t → Tryz.pinned.checked.prog.wantsStandIn t = false := by
 obtain rfl : f = 10 := Option.some.inj ((show Tryz.prog.funcNamed "skewer/skewerlaw09.BackChains" = some 10 by kernel_rfl).symm.trans hf) |>.symm
 obtain rfl : fn = Tryz.f10 := (Option.some.inj (Tryz.func10.symm.trans hfn)).symm
 refine ⟨by kernel_rfl, fun j t ht => ?_⟩
 rw [Tryz.params10] at ht
 have hm : t ∈ [27, 83, 80] := by simpa using Array.mem_of_getElem? ht
 have hall : ([27, 83, 80].all fun u => !Tryz.prog.wantsStandIn u) = true := by kernel_rfl
 exact (show Tryz.prog.wantsStandIn t = false by simpa using List.all_eq_true.1 hall t hm)
end Go.Proofs.YtedhfmmlhfmomaaGreatDoor
end
