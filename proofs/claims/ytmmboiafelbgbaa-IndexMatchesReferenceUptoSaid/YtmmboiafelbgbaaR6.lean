/- Where what it reads is of bulk at most 1048576, the function IndexMatchesReference gives true and leaves its input as it was. -/
import Derived.Test.YtmmboiafelbgbaaL6
import Derived.Test.YtmmboiafelbgbaaBk
import Derived.JoinedCond
import Derived.Handed
import Derived.HandedShaped
set_option linter.unusedSimpArgs false
set_option linter.unusedVariables false
open Go Go.Proofs Go.Av Go.ChangeShapes Go.RowKit
set_option maxRecDepth 100000
namespace Go.Proofs.Ytmmboiafelbgbaa
theorem ix_matches_own : ownKnob Try.prog.godebug = none := by kernel_rfl
theorem ix_matches_laid : laidOutB Try.prog = true := by kernel_rfl
abbrev PosTup := List Int × (List (List Int)) × Int × Int × Unit
def posOfTup (x : PosTup) : PosD := ⟨x.1, nth x.2.1 0, nth x.2.1 1, x.2.2.1, x.2.2.2.1⟩
def encTup (x : PosTup) : List AV := [AV.lst 1 (x.1.map fun n => [.v (.int .i64 n)])] ++ ((x.2.1.map fun l => [AV.lst 1 (l.map fun n => [.v (.int .i64 n)])]).flatten ++ ([.v (.int .i64 x.2.2.1)] ++ ([.v (.int .i64 x.2.2.2.1)] ++ [])))
theorem opn_pos : Opn Try.prog 1048576 (fun d => Rows.uptoBulk d) 44 encPos (fun p => FitsP p) := by
  have hI : Opn Try.prog 1048576 (fun d => Rows.uptoBulk d) 3 (fun n : Int => [.v (.int .i64 n)]) (fun n => (Lit.int .i64 n).wf = true) := Opn.int Try.underlying3 (by kernel_rfl)
  have hS : Opn Try.prog 1048576 (fun d => Rows.uptoBulk d) 35 (fun l : List Int => [.lst 1 (l.map fun n => [.v (.int .i64 n)])]) (fun l => l.length ≤ 1048576 ∧ ∀ x ∈ l, (Lit.int .i64 x).wf = true) :=
    Opn.slice (sz := 1) Bulk.upto Try.underlying35 (by kernel_rfl) (by kernel_rfl) Nat.one_pos hI
  have hA : Opn Try.prog 1048576 (fun d => Rows.uptoBulk d) 42 (fun l : List (List Int) => (l.map fun l => [AV.lst 1 (l.map fun n => [.v (.int .i64 n)])]).flatten) (fun l => l.length = 2 ∧ ∀ x ∈ l, x.length ≤ 1048576 ∧ ∀ y ∈ x, (Lit.int .i64 y).wf = true) :=
    Opn.array (sz := 1) (n := 2) Bulk.upto Try.underlying42 (by kernel_rfl) (by kernel_rfl) hS
  have hF : OpnF Try.prog 1048576 (fun d => Rows.uptoBulk d) [35, 42, 3, 3] encTup (fun x => (x.1.length ≤ 1048576 ∧ ∀ y ∈ x.1, (Lit.int .i64 y).wf = true) ∧ (x.2.1.length = 2 ∧ ∀ z ∈ x.2.1, z.length ≤ 1048576 ∧ ∀ y ∈ z, (Lit.int .i64 y).wf = true) ∧ (Lit.int .i64 x.2.2.1).wf = true ∧ (Lit.int .i64 x.2.2.2.1).wf = true ∧ True) :=
    OpnF.cons hS (OpnF.cons hA (OpnF.cons hI (OpnF.cons hI OpnF.nil)))
  have hT : Opn Try.prog 1048576 (fun d => Rows.uptoBulk d) 44 encTup (fun x => (x.1.length ≤ 1048576 ∧ ∀ y ∈ x.1, (Lit.int .i64 y).wf = true) ∧ (x.2.1.length = 2 ∧ ∀ z ∈ x.2.1, z.length ≤ 1048576 ∧ ∀ y ∈ z, (Lit.int .i64 y).wf = true) ∧ (Lit.int .i64 x.2.2.1).wf = true ∧ (Lit.int .i64 x.2.2.2.1).wf = true ∧ True) :=
    Opn.struct Bulk.upto (by kernel_rfl) hF
  intro H enc w fuel cs d ps k1 k2
  obtain ⟨x, r1, r2, r3, hx⟩ := hT enc w fuel cs d ps k1 k2
  obtain ⟨x1, x2, x3, x4, ⟨⟩⟩ := x
  obtain ⟨⟨h1, _⟩, ⟨h2, h3⟩, _⟩ := hx
  simp only at h1 h2 h3
  match x2, h2 with
  | [a, b], _ =>
    refine ⟨⟨x1, a, b, x3, x4⟩, r1, r2, r3, ?_, ?_, ?_⟩
    · unfold Fits; simp only; omega
    · have := (h3 a (by simp)).1
      unfold Fits; simp only; omega
    · have := (h3 b (by simp)).1
      unfold Fits; simp only; omega
theorem ix_matches_contract (H : Type) (enc : TypeId × Value → H) (W : World) (base : Nat) (args : Array Value) (ds gs : List (DataW H)) (before : List MemPlace)
    (hval : ∀ (j : Nat) t v, Try.f6.params[j]? = some t → args[j]? = some v → Value.okWide Try.prog W .any base t v)
    (hW : DataW.Whole enc Try.prog Try.f6.params.toList Rows.indexMatchesReferenceSpec.vars false W args.toList ds gs before) (hk : Rows.uptoSmall H (ds ++ gs) = true) :
    Calls Try.prog 6 args W fun e W' => ∃ v, e = .returned v ∧ Rows.indexMatchesReferenceSpec.post enc Try.prog Try.f6 false true false false W args v W' := by
  have hW' := hW
  obtain ⟨p, q, hA0, hV, rfl, hfz, hnd⟩ := hW
  have hA : DataW.TrodAll enc Try.prog W 0 (fun _ => true) true Try.f6.params.toList args.toList ds p := hA0
  rw [Try.params6] at hA hval
  obtain ⟨v0, vs0, d0, ds0, p0, q0, hargs, rfl, rfl, h0, r0⟩ := trodAll_cons hA
  obtain ⟨v1, vs1, d1, ds1, p1, q1, rfl, rfl, rfl, h1, r1⟩ := trodAll_cons r0
  obtain ⟨v2, vs2, d2, ds2, p2, q2, rfl, rfl, rfl, h2, r2⟩ := trodAll_cons r1
  obtain ⟨rfl, rfl, rfl⟩ := trodAll_nil r2
  obtain rfl : args = #[v0, v1, v2] := by cases args; simp_all
  have k2 := upto_bound hk (d := d2) (by simp)
  obtain ⟨l0, hn0, hq0⟩ := Opn.arg (Opn.array (sz := 1) Bulk.any Try.underlying70 (by kernel_rfl) (by kernel_rfl) (Opn.int (B := maxLen) (bk := fun _ => 0) (P := Try.prog) Try.underlying5 (by kernel_rfl))) (ag := true) (by kernel_rfl) (fun h => by cases h) (hval 0 70 v0 rfl rfl) h0 (Nat.zero_le _)
  obtain ⟨a00, a01, rfl⟩ : ∃ a00 a01 : Int, l0 = [a00, a01] := by
    obtain ⟨hl, _⟩ := hq0
    match l0, hl with
    | [a00, a01], _ => exact ⟨a00, a01, rfl⟩
  have hba00 := bounds_u8 (hq0.2 a00 (by simp))
  have hba01 := bounds_u8 (hq0.2 a01 (by simp))
  obtain ⟨l1, hn1, hq1⟩ := Opn.arg (Opn.slice (sz := 1) Bulk.any Try.underlying22 (by kernel_rfl) (by kernel_rfl) (Nat.one_pos) (Opn.int (B := maxLen) (bk := fun _ => 0) (P := Try.prog) Try.underlying5 (by kernel_rfl))) (ag := false) (by kernel_rfl) (fun _ => by kernel_rfl) (hval 1 22 v1 rfl rfl) h1 (Nat.zero_le _)
  have hb1 : ∀ x ∈ l1, 0 ≤ x ∧ x ≤ 255 := fun x hx => bounds_u8 (hq1.2 x hx)
  obtain ⟨x, hn2, hq2⟩ := Opn.arg opn_pos (ag := true) (by kernel_rfl) (fun h => by cases h) (hval 2 44 v2 rfl rfl) h2 k2
  refine contract_of_pure (fn := Try.f6) (tb := 4) ix_matches_laid (by kernel_rfl) rfl (by kernel_rfl) Try.underlying4 hW' (fun h => by subst h; rfl) (IndexMatchesReference_pure a00 a01 l1 x hba00 hba01 hq1.1 hb1 hq2) ?_
  exact .cons hn0 (.cons hn1 (.cons hn2 (.nil)))
theorem ix_matches_lifted (os : Os) (started : os.Started) (H : Type) (enc : TypeId × Value → H) (F : Stop.Interp) :
    ReturnsInHanded {} Try.checked os 6 .any ((Rows.OpenSpec.upto Rows.indexMatchesReferenceSpec).pre6 enc Try.prog Try.f6 Rows.indexMatchesReferenceUptoRow.domain false) (((Rows.OpenSpec.upto Rows.indexMatchesReferenceSpec).at F).post enc Try.prog Try.f6 false true false false) := by
  refine returnsInHanded_of_cond (C := Try.checked) (s := Rows.OpenSpec.upto Rows.indexMatchesReferenceSpec) (k := Rows.uptoSmall) rfl ix_matches_own started (by kernel_rfl) Try.func6
    (OpenSpec.witness (enc := enc) (C := Try.checked) (s := Rows.OpenSpec.upto Rows.indexMatchesReferenceSpec) (k := Rows.uptoSmall) rfl false ⟨#[], #[.agg #[.int .u8 0, .int .u8 0], .slice none 0 0, .agg #[.slice none 0 0, .slice none 0 0, .slice none 0 0, .int .i64 0, .int .i64 0]], []⟩ 8 (by kernel_rfl) (by kernel_rfl) (by kernel_rfl)
      (x := ([.agg [.lit (.int .u8 0), .lit (.int .u8 0)], .nil, .agg [.nil, .agg [.nil, .nil], .lit (.int .i64 0), .lit (.int .i64 0)]], [], [])) (by kernel_rfl) rfl (by kernel_rfl)) ?_
  intro W base args ds gs before hval hW _ hk _
  exact ix_matches_contract H enc W base args ds gs before hval hW hk
theorem index_matches_reference : Rows.IndexMatchesReferenceUptoSaid :=
  OpenClaim.holds_of_cond 6 Try.f6 rfl rfl rfl rfl rfl rfl rfl ⟨rfl, rfl, rfl, rfl, rfl⟩ rfl rfl rfl rfl rfl (by kernel_rfl) Try.func6 (by kernel_rfl)
    (of_decide_eq_true (by kernel_rfl)) (by unfold Func.isWrapper; first | (rw [if_pos (by decide +kernel)]; kernel_rfl) | (rw [if_neg (by decide +kernel)]; exact ⟨rfl, rfl⟩))
    (fun os started H enc _ F => ix_matches_lifted os started H enc F)
end Go.Proofs.Ytmmboiafelbgbaa
