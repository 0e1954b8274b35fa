/-
  NARROWER THAN 'FOR EVERY INPUT', by the rows' own cells (each row's printed sentence says how): SumMatchesReference: laid · SumForms: laid · SumTotals: laid · SumWinners: laid · SumBest: laid · SumRefuses: laid.
  DERIVED. THE GIVEN ROWS OF THIS SEAT. 6 by the template 'for every input the law returns true; each argument reads behind the call as it read before'; 0 by the template 'total and deterministic' (their statements: YtgdfnfffibhkjaaGreatDoorTotals.lean).
  GIVEN WITH THE SEED: the statements are not yours to turn. If you find one false, say at which input.
  Laid BY PROGRAM, IN A SANDBOX (cutbox-rows.mjs): the forced cells as the released guide's own fill.sh prints them over the translation e66ae839b41d95c3… (all of the seat's roots in one cut). By AI agents, Wed Nov 11 2026. No macro, syntax, notation, axiom, sorry.
-/
import Derived.Test.YtgdfnfffibhkjaaGreatDoorChecked
import GoSem.Claim
import GoSem.ClaimJoined
import GoSem.ClaimMapViews
import Derived.JoinedTies
import Derived.KernelRfl
namespace Go.Proofs.YtgdfnfffibhkjaaGreatDoor
/- THE CELL 'sum', in the pinned program and in every row, IS THE sha256 OF THE DUMP (.gsa) THAT YtgdfnfffibhkjaaGreatDoorProg.lean LOADS. Nothing in Lean hashes anything: it is a label: what it is worth is what the hold of that sum in a sandbox is worth. -/
noncomputable def Tryz.pinned : Pinned := { name := "ytgdfnfffibhkjaagreatdoor", sum := "e66ae839b41d95c3a08bb0add04e227327d0842e5efe762df23b4d7956053a1b", checked := Tryz.checked }
namespace Rows
def none {H : Type} : Left H := { results := [], args := [] }

/- WHAT THE LISTED PACKAGE-LEVEL VARIABLES READ AS WHEN THE CALL BEGINS. Each datum BY PROGRAM (the guide's laid-datum.mjs) off the statement by which the dump's own 'gosem.cut.vars' lays the variable. In a bare row this is a premise. The card (YtgdfnfffibhkjaaGreatDoorCards.lean) ties it to the program's text. -/
def laid_math_bits_deBruijn32tab {H : Type} : DataW H := .agg [.lit (.int .u8 0), .lit (.int .u8 1), .lit (.int .u8 28), .lit (.int .u8 2), .lit (.int .u8 29), .lit (.int .u8 14), .lit (.int .u8 24), .lit (.int .u8 3), .lit (.int .u8 30), .lit (.int .u8 22), .lit (.int .u8 20), .lit (.int .u8 15), .lit (.int .u8 25), .lit (.int .u8 17), .lit (.int .u8 4), .lit (.int .u8 8), .lit (.int .u8 31), .lit (.int .u8 27), .lit (.int .u8 13), .lit (.int .u8 23), .lit (.int .u8 21), .lit (.int .u8 19), .lit (.int .u8 16), .lit (.int .u8 7), .lit (.int .u8 26), .lit (.int .u8 12), .lit (.int .u8 18), .lit (.int .u8 6), .lit (.int .u8 11), .lit (.int .u8 5), .lit (.int .u8 10), .lit (.int .u8 9)]
def laid_math_bits_deBruijn64tab {H : Type} : DataW H := .agg [.lit (.int .u8 0), .lit (.int .u8 1), .lit (.int .u8 56), .lit (.int .u8 2), .lit (.int .u8 57), .lit (.int .u8 49), .lit (.int .u8 28), .lit (.int .u8 3), .lit (.int .u8 61), .lit (.int .u8 58), .lit (.int .u8 42), .lit (.int .u8 50), .lit (.int .u8 38), .lit (.int .u8 29), .lit (.int .u8 17), .lit (.int .u8 4), .lit (.int .u8 62), .lit (.int .u8 47), .lit (.int .u8 59), .lit (.int .u8 36), .lit (.int .u8 45), .lit (.int .u8 43), .lit (.int .u8 51), .lit (.int .u8 22), .lit (.int .u8 53), .lit (.int .u8 39), .lit (.int .u8 33), .lit (.int .u8 30), .lit (.int .u8 24), .lit (.int .u8 18), .lit (.int .u8 12), .lit (.int .u8 5), .lit (.int .u8 63), .lit (.int .u8 55), .lit (.int .u8 48), .lit (.int .u8 27), .lit (.int .u8 60), .lit (.int .u8 41), .lit (.int .u8 37), .lit (.int .u8 16), .lit (.int .u8 46), .lit (.int .u8 35), .lit (.int .u8 44), .lit (.int .u8 21), .lit (.int .u8 52), .lit (.int .u8 32), .lit (.int .u8 23), .lit (.int .u8 11), .lit (.int .u8 54), .lit (.int .u8 26), .lit (.int .u8 40), .lit (.int .u8 15), .lit (.int .u8 34), .lit (.int .u8 20), .lit (.int .u8 31), .lit (.int .u8 10), .lit (.int .u8 25), .lit (.int .u8 14), .lit (.int .u8 19), .lit (.int .u8 9), .lit (.int .u8 13), .lit (.int .u8 8), .lit (.int .u8 7), .lit (.int .u8 6)]
def laid_internal_strconv_uint64pow10 {H : Type} : DataW H := .agg [.lit (.int .u64 1), .lit (.int .u64 10), .lit (.int .u64 100), .lit (.int .u64 1000), .lit (.int .u64 10000), .lit (.int .u64 100000), .lit (.int .u64 1000000), .lit (.int .u64 10000000), .lit (.int .u64 100000000), .lit (.int .u64 1000000000), .lit (.int .u64 10000000000), .lit (.int .u64 100000000000), .lit (.int .u64 1000000000000), .lit (.int .u64 10000000000000), .lit (.int .u64 100000000000000), .lit (.int .u64 1000000000000000), .lit (.int .u64 10000000000000000), .lit (.int .u64 100000000000000000), .lit (.int .u64 1000000000000000000), .lit (.int .u64 10000000000000000000)]
def laid_skewer_play_conditions {H : Type} : DataW H := .iface "func table" (.agg [.nil, .iface "func" (.lit (.string [115, 107, 101, 119, 101, 114, 47, 112, 108, 97, 121, 46, 99, 111, 110, 100, 105, 116, 105, 111, 110, 115, 36, 49])), .iface "func" (.lit (.string [115, 107, 101, 119, 101, 114, 47, 112, 108, 97, 121, 46, 99, 111, 110, 100, 105, 116, 105, 111, 110, 115, 36, 50])), .iface "func" (.lit (.string [115, 107, 101, 119, 101, 114, 47, 112, 108, 97, 121, 46, 99, 111, 110, 100, 105, 116, 105, 111, 110, 115, 36, 51]))])

/-- 'skewerlaw23.SumMatchesReference': WHATEVER THE INPUT: true; the input reads as it did. -/
def sumMatchesReferenceSpec : ChangeSpec := { name := "sumMatchesReference", fn := fun _ => fun
  | [d1, d2] => { results := [.lit (.bool true)], args := [d1, d2] }
  | _ => none }
def sumMatchesReferenceRow : OpenClaim := { program := "ytgdfnfffibhkjaagreatdoor", sum := "e66ae839b41d95c3a08bb0add04e227327d0842e5efe762df23b4d7956053a1b", func := "skewer/skewerlaw23.SumMatchesReference", spec := "sumMatchesReference", inPlace := ["internal/abi.NoEscape", "internal/bytealg.abigen_runtime_cmpstring"], unfollowed := true, recurses := true, named := ["skewer/play.conditions", "internal/strconv.uint64pow10", "math/bits.deBruijn32tab", "math/bits.deBruijn64tab"], plainKeys := false, apart := false, laid := [("math/bits.deBruijn32tab", laid_math_bits_deBruijn32tab), ("math/bits.deBruijn64tab", laid_math_bits_deBruijn64tab), ("internal/strconv.uint64pow10", laid_internal_strconv_uint64pow10), ("skewer/play.conditions", laid_skewer_play_conditions)] }
def SumMatchesReferenceSaid : Prop := sumMatchesReferenceRow.holds Tryz.pinned (OpenSpec.ofChange sumMatchesReferenceSpec)

/-- ITS FALSE NEIGHBOUR: 'it returns false'. Refute it at one input. -/
def sumMatchesReferenceWrong : ChangeSpec := { name := "sumMatchesReference", fn := fun _ => fun
  | [d1, d2] => { results := [.lit (.bool false)], args := [d1, d2] }
  | _ => none }
def SumMatchesReferenceWrongFalsely : Prop := sumMatchesReferenceRow.holds Tryz.pinned (OpenSpec.ofChange sumMatchesReferenceWrong)

/-- 'skewerlaw23.SumForms': WHATEVER THE INPUT: true; the input reads as it did. -/
def sumFormsSpec : ChangeSpec := { name := "sumForms", fn := fun _ => fun
  | [d1, d2] => { results := [.lit (.bool true)], args := [d1, d2] }
  | _ => none }
def sumFormsRow : OpenClaim := { program := "ytgdfnfffibhkjaagreatdoor", sum := "e66ae839b41d95c3a08bb0add04e227327d0842e5efe762df23b4d7956053a1b", func := "skewer/skewerlaw23.SumForms", spec := "sumForms", inPlace := ["internal/abi.NoEscape", "internal/bytealg.abigen_runtime_cmpstring"], unfollowed := true, recurses := true, named := ["skewer/play.conditions", "internal/strconv.uint64pow10", "math/bits.deBruijn32tab", "math/bits.deBruijn64tab"], plainKeys := false, apart := false, laid := [("math/bits.deBruijn32tab", laid_math_bits_deBruijn32tab), ("math/bits.deBruijn64tab", laid_math_bits_deBruijn64tab), ("internal/strconv.uint64pow10", laid_internal_strconv_uint64pow10), ("skewer/play.conditions", laid_skewer_play_conditions)] }
def SumFormsSaid : Prop := sumFormsRow.holds Tryz.pinned (OpenSpec.ofChange sumFormsSpec)

/-- ITS FALSE NEIGHBOUR: 'it returns false'. Refute it at one input. -/
def sumFormsWrong : ChangeSpec := { name := "sumForms", fn := fun _ => fun
  | [d1, d2] => { results := [.lit (.bool false)], args := [d1, d2] }
  | _ => none }
def SumFormsWrongFalsely : Prop := sumFormsRow.holds Tryz.pinned (OpenSpec.ofChange sumFormsWrong)

/-- 'skewerlaw23.SumTotals': WHATEVER THE INPUT: true; the input reads as it did. -/
def sumTotalsSpec : ChangeSpec := { name := "sumTotals", fn := fun _ => fun
  | [d1, d2] => { results := [.lit (.bool true)], args := [d1, d2] }
  | _ => none }
def sumTotalsRow : OpenClaim := { program := "ytgdfnfffibhkjaagreatdoor", sum := "e66ae839b41d95c3a08bb0add04e227327d0842e5efe762df23b4d7956053a1b", func := "skewer/skewerlaw23.SumTotals", spec := "sumTotals", inPlace := ["internal/abi.NoEscape", "internal/bytealg.abigen_runtime_cmpstring"], unfollowed := true, recurses := true, named := ["skewer/play.conditions", "internal/strconv.uint64pow10", "math/bits.deBruijn32tab", "math/bits.deBruijn64tab"], plainKeys := false, apart := false, laid := [("math/bits.deBruijn32tab", laid_math_bits_deBruijn32tab), ("math/bits.deBruijn64tab", laid_math_bits_deBruijn64tab), ("internal/strconv.uint64pow10", laid_internal_strconv_uint64pow10), ("skewer/play.conditions", laid_skewer_play_conditions)] }
def SumTotalsSaid : Prop := sumTotalsRow.holds Tryz.pinned (OpenSpec.ofChange sumTotalsSpec)

/-- ITS FALSE NEIGHBOUR: 'it returns false'. Refute it at one input. -/
def sumTotalsWrong : ChangeSpec := { name := "sumTotals", fn := fun _ => fun
  | [d1, d2] => { results := [.lit (.bool false)], args := [d1, d2] }
  | _ => none }
def SumTotalsWrongFalsely : Prop := sumTotalsRow.holds Tryz.pinned (OpenSpec.ofChange sumTotalsWrong)

/-- 'skewerlaw23.SumWinners': WHATEVER THE INPUT: true; the input reads as it did. -/
def sumWinnersSpec : ChangeSpec := { name := "sumWinners", fn := fun _ => fun
  | [d1, d2] => { results := [.lit (.bool true)], args := [d1, d2] }
  | _ => none }
def sumWinnersRow : OpenClaim := { program := "ytgdfnfffibhkjaagreatdoor", sum := "e66ae839b41d95c3a08bb0add04e227327d0842e5efe762df23b4d7956053a1b", func := "skewer/skewerlaw23.SumWinners", spec := "sumWinners", inPlace := ["internal/abi.NoEscape", "internal/bytealg.abigen_runtime_cmpstring"], unfollowed := true, recurses := true, named := ["skewer/play.conditions", "internal/strconv.uint64pow10", "math/bits.deBruijn32tab", "math/bits.deBruijn64tab"], plainKeys := false, apart := false, laid := [("math/bits.deBruijn32tab", laid_math_bits_deBruijn32tab), ("math/bits.deBruijn64tab", laid_math_bits_deBruijn64tab), ("internal/strconv.uint64pow10", laid_internal_strconv_uint64pow10), ("skewer/play.conditions", laid_skewer_play_conditions)] }
def SumWinnersSaid : Prop := sumWinnersRow.holds Tryz.pinned (OpenSpec.ofChange sumWinnersSpec)

/-- ITS FALSE NEIGHBOUR: 'it returns false'. Refute it at one input. -/
def sumWinnersWrong : ChangeSpec := { name := "sumWinners", fn := fun _ => fun
  | [d1, d2] => { results := [.lit (.bool false)], args := [d1, d2] }
  | _ => none }
def SumWinnersWrongFalsely : Prop := sumWinnersRow.holds Tryz.pinned (OpenSpec.ofChange sumWinnersWrong)

/-- 'skewerlaw23.SumBest': WHATEVER THE INPUT: true; the input reads as it did. -/
def sumBestSpec : ChangeSpec := { name := "sumBest", fn := fun _ => fun
  | [d1, d2] => { results := [.lit (.bool true)], args := [d1, d2] }
  | _ => none }
def sumBestRow : OpenClaim := { program := "ytgdfnfffibhkjaagreatdoor", sum := "e66ae839b41d95c3a08bb0add04e227327d0842e5efe762df23b4d7956053a1b", func := "skewer/skewerlaw23.SumBest", spec := "sumBest", inPlace := ["internal/abi.NoEscape", "internal/bytealg.abigen_runtime_cmpstring"], unfollowed := true, recurses := true, named := ["skewer/play.conditions", "internal/strconv.uint64pow10", "math/bits.deBruijn32tab", "math/bits.deBruijn64tab"], plainKeys := false, apart := false, laid := [("math/bits.deBruijn32tab", laid_math_bits_deBruijn32tab), ("math/bits.deBruijn64tab", laid_math_bits_deBruijn64tab), ("internal/strconv.uint64pow10", laid_internal_strconv_uint64pow10), ("skewer/play.conditions", laid_skewer_play_conditions)] }
def SumBestSaid : Prop := sumBestRow.holds Tryz.pinned (OpenSpec.ofChange sumBestSpec)

/-- ITS FALSE NEIGHBOUR: 'it returns false'. Refute it at one input. -/
def sumBestWrong : ChangeSpec := { name := "sumBest", fn := fun _ => fun
  | [d1, d2] => { results := [.lit (.bool false)], args := [d1, d2] }
  | _ => none }
def SumBestWrongFalsely : Prop := sumBestRow.holds Tryz.pinned (OpenSpec.ofChange sumBestWrong)

/-- 'skewerlaw23.SumRefuses': WHATEVER THE INPUT: true; the input reads as it did. -/
def sumRefusesSpec : ChangeSpec := { name := "sumRefuses", fn := fun _ => fun
  | [d1, d2] => { results := [.lit (.bool true)], args := [d1, d2] }
  | _ => none }
def sumRefusesRow : OpenClaim := { program := "ytgdfnfffibhkjaagreatdoor", sum := "e66ae839b41d95c3a08bb0add04e227327d0842e5efe762df23b4d7956053a1b", func := "skewer/skewerlaw23.SumRefuses", spec := "sumRefuses", inPlace := ["internal/abi.NoEscape", "internal/bytealg.abigen_runtime_cmpstring"], unfollowed := true, recurses := true, named := ["skewer/play.conditions", "internal/strconv.uint64pow10", "math/bits.deBruijn32tab", "math/bits.deBruijn64tab"], plainKeys := false, apart := false, laid := [("math/bits.deBruijn32tab", laid_math_bits_deBruijn32tab), ("math/bits.deBruijn64tab", laid_math_bits_deBruijn64tab), ("internal/strconv.uint64pow10", laid_internal_strconv_uint64pow10), ("skewer/play.conditions", laid_skewer_play_conditions)] }
def SumRefusesSaid : Prop := sumRefusesRow.holds Tryz.pinned (OpenSpec.ofChange sumRefusesSpec)

/-- ITS FALSE NEIGHBOUR: 'it returns false'. Refute it at one input. -/
def sumRefusesWrong : ChangeSpec := { name := "sumRefuses", fn := fun _ => fun
  | [d1, d2] => { results := [.lit (.bool false)], args := [d1, d2] }
  | _ => none }
def SumRefusesWrongFalsely : Prop := sumRefusesRow.holds Tryz.pinned (OpenSpec.ofChange sumRefusesWrong)

/- THE SECOND FORM. 'bulk': how many values and letters a reading holds, each counted each time it is reached (what is shared counts as often as it is met; a slice's spare places count too). A statement '..UptoSaid' is the law's where the arguments, and the package variables that the reading takes, are together of bulk at most 1048576: NARROWER than '..Said'. Prove '..Said' where nothing that the law and all that it calls make is longer than what came in: it says more and counts as full. Else prove '..UptoSaid'. A law counts once. -/
mutual
def uptoBulk {H : Type} : DataW H → Nat
  | .lit (.string bytes) => bytes.length + 1
  | .lit _ => 1
  | .nil => 1
  | .ptr d => uptoBulk d + 1
  | .slice elems spare => uptoBulkAll elems + uptoBulkAll spare + 1
  | .agg parts => uptoBulkAll parts + 1
  | .iface _ d => uptoBulk d + 1
  | .map entries => uptoBulkEntries entries + 1
  | .held _ => 1
def uptoBulkAll {H : Type} : List (DataW H) → Nat
  | [] => 0
  | d :: r => uptoBulk d + uptoBulkAll r
def uptoBulkEntries {H : Type} : List (Lit × DataW H) → Nat
  | [] => 0
  | x :: r => uptoBulkEntry x + uptoBulkEntries r
def uptoBulkEntry {H : Type} : Lit × DataW H → Nat
  | (.string bytes, d) => bytes.length + uptoBulk d + 1
  | (_, d) => uptoBulk d + 1
 end
def uptoSmall : (H : Type) → List (DataW H) → Bool := fun _ ds => decide (uptoBulkAll ds ≤ 1048576)
def OpenSpec.upto (s : _root_.Go.ChangeSpec) : _root_.Go.OpenSpec := { _root_.Go.OpenSpec.ofChange s with cond := some uptoSmall }

/-- 'skewerlaw23.SumMatchesReference', WHERE WHAT IT READS IS OF BULK AT MOST 1048576: true; the input reads as it did. -/
def sumMatchesReferenceUptoRow : OpenClaim := { program := "ytgdfnfffibhkjaagreatdoor", sum := "e66ae839b41d95c3a08bb0add04e227327d0842e5efe762df23b4d7956053a1b", func := "skewer/skewerlaw23.SumMatchesReference", spec := "sumMatchesReference", inPlace := ["internal/abi.NoEscape", "internal/bytealg.abigen_runtime_cmpstring"], unfollowed := true, recurses := true, named := ["skewer/play.conditions", "internal/strconv.uint64pow10", "math/bits.deBruijn32tab", "math/bits.deBruijn64tab"], plainKeys := false, apart := false, laid := [("math/bits.deBruijn32tab", laid_math_bits_deBruijn32tab), ("math/bits.deBruijn64tab", laid_math_bits_deBruijn64tab), ("internal/strconv.uint64pow10", laid_internal_strconv_uint64pow10), ("skewer/play.conditions", laid_skewer_play_conditions)], narrowed := true }
def SumMatchesReferenceUptoSaid : Prop := sumMatchesReferenceUptoRow.holds Tryz.pinned (OpenSpec.upto sumMatchesReferenceSpec)

/-- 'skewerlaw23.SumForms', WHERE WHAT IT READS IS OF BULK AT MOST 1048576: true; the input reads as it did. -/
def sumFormsUptoRow : OpenClaim := { program := "ytgdfnfffibhkjaagreatdoor", sum := "e66ae839b41d95c3a08bb0add04e227327d0842e5efe762df23b4d7956053a1b", func := "skewer/skewerlaw23.SumForms", spec := "sumForms", inPlace := ["internal/abi.NoEscape", "internal/bytealg.abigen_runtime_cmpstring"], unfollowed := true, recurses := true, named := ["skewer/play.conditions", "internal/strconv.uint64pow10", "math/bits.deBruijn32tab", "math/bits.deBruijn64tab"], plainKeys := false, apart := false, laid := [("math/bits.deBruijn32tab", laid_math_bits_deBruijn32tab), ("math/bits.deBruijn64tab", laid_math_bits_deBruijn64tab), ("internal/strconv.uint64pow10", laid_internal_strconv_uint64pow10), ("skewer/play.conditions", laid_skewer_play_conditions)], narrowed := true }
def SumFormsUptoSaid : Prop := sumFormsUptoRow.holds Tryz.pinned (OpenSpec.upto sumFormsSpec)

/-- 'skewerlaw23.SumTotals', WHERE WHAT IT READS IS OF BULK AT MOST 1048576: true; the input reads as it did. -/
def sumTotalsUptoRow : OpenClaim := { program := "ytgdfnfffibhkjaagreatdoor", sum := "e66ae839b41d95c3a08bb0add04e227327d0842e5efe762df23b4d7956053a1b", func := "skewer/skewerlaw23.SumTotals", spec := "sumTotals", inPlace := ["internal/abi.NoEscape", "internal/bytealg.abigen_runtime_cmpstring"], unfollowed := true, recurses := true, named := ["skewer/play.conditions", "internal/strconv.uint64pow10", "math/bits.deBruijn32tab", "math/bits.deBruijn64tab"], plainKeys := false, apart := false, laid := [("math/bits.deBruijn32tab", laid_math_bits_deBruijn32tab), ("math/bits.deBruijn64tab", laid_math_bits_deBruijn64tab), ("internal/strconv.uint64pow10", laid_internal_strconv_uint64pow10), ("skewer/play.conditions", laid_skewer_play_conditions)], narrowed := true }
def SumTotalsUptoSaid : Prop := sumTotalsUptoRow.holds Tryz.pinned (OpenSpec.upto sumTotalsSpec)

/-- 'skewerlaw23.SumWinners', WHERE WHAT IT READS IS OF BULK AT MOST 1048576: true; the input reads as it did. -/
def sumWinnersUptoRow : OpenClaim := { program := "ytgdfnfffibhkjaagreatdoor", sum := "e66ae839b41d95c3a08bb0add04e227327d0842e5efe762df23b4d7956053a1b", func := "skewer/skewerlaw23.SumWinners", spec := "sumWinners", inPlace := ["internal/abi.NoEscape", "internal/bytealg.abigen_runtime_cmpstring"], unfollowed := true, recurses := true, named := ["skewer/play.conditions", "internal/strconv.uint64pow10", "math/bits.deBruijn32tab", "math/bits.deBruijn64tab"], plainKeys := false, apart := false, laid := [("math/bits.deBruijn32tab", laid_math_bits_deBruijn32tab), ("math/bits.deBruijn64tab", laid_math_bits_deBruijn64tab), ("internal/strconv.uint64pow10", laid_internal_strconv_uint64pow10), ("skewer/play.conditions", laid_skewer_play_conditions)], narrowed := true }
def SumWinnersUptoSaid : Prop := sumWinnersUptoRow.holds Tryz.pinned (OpenSpec.upto sumWinnersSpec)

/-- 'skewerlaw23.SumBest', WHERE WHAT IT READS IS OF BULK AT MOST 1048576: true; the input reads as it did. -/
def sumBestUptoRow : OpenClaim := { program := "ytgdfnfffibhkjaagreatdoor", sum := "e66ae839b41d95c3a08bb0add04e227327d0842e5efe762df23b4d7956053a1b", func := "skewer/skewerlaw23.SumBest", spec := "sumBest", inPlace := ["internal/abi.NoEscape", "internal/bytealg.abigen_runtime_cmpstring"], unfollowed := true, recurses := true, named := ["skewer/play.conditions", "internal/strconv.uint64pow10", "math/bits.deBruijn32tab", "math/bits.deBruijn64tab"], plainKeys := false, apart := false, laid := [("math/bits.deBruijn32tab", laid_math_bits_deBruijn32tab), ("math/bits.deBruijn64tab", laid_math_bits_deBruijn64tab), ("internal/strconv.uint64pow10", laid_internal_strconv_uint64pow10), ("skewer/play.conditions", laid_skewer_play_conditions)], narrowed := true }
def SumBestUptoSaid : Prop := sumBestUptoRow.holds Tryz.pinned (OpenSpec.upto sumBestSpec)

/-- 'skewerlaw23.SumRefuses', WHERE WHAT IT READS IS OF BULK AT MOST 1048576: true; the input reads as it did. -/
def sumRefusesUptoRow : OpenClaim := { program := "ytgdfnfffibhkjaagreatdoor", sum := "e66ae839b41d95c3a08bb0add04e227327d0842e5efe762df23b4d7956053a1b", func := "skewer/skewerlaw23.SumRefuses", spec := "sumRefuses", inPlace := ["internal/abi.NoEscape", "internal/bytealg.abigen_runtime_cmpstring"], unfollowed := true, recurses := true, named := ["skewer/play.conditions", "internal/strconv.uint64pow10", "math/bits.deBruijn32tab", "math/bits.deBruijn64tab"], plainKeys := false, apart := false, laid := [("math/bits.deBruijn32tab", laid_math_bits_deBruijn32tab), ("math/bits.deBruijn64tab", laid_math_bits_deBruijn64tab), ("internal/strconv.uint64pow10", laid_internal_strconv_uint64pow10), ("skewer/play.conditions", laid_skewer_play_conditions)], narrowed := true }
def SumRefusesUptoSaid : Prop := sumRefusesUptoRow.holds Tryz.pinned (OpenSpec.upto sumRefusesSpec)

end Rows
end Go.Proofs.YtgdfnfffibhkjaaGreatDoor
