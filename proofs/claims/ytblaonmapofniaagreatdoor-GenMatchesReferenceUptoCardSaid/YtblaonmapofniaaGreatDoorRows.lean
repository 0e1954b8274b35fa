/-
  NARROWER THAN 'FOR EVERY INPUT', by the rows' own cells (each row's printed sentence says how): PlayPrograms: laid · ReachChecks: laid · LastMatchesReference: laid · LastRights: laid · LastLooks: laid · LastBudgets: laid · LastMoves: laid · LastGames: laid · IndexMoves: laid · GenMatchesReference: laid · GenMoves: laid · RegionPaths: laid.
  DERIVED. THE GIVEN ROWS OF THIS SEAT. 12 by the template 'for every input the law returns true; each argument reads behind the call as it read before'; 0 by the template 'total and deterministic' (their statements: YtblaonmapofniaaGreatDoorTotals.lean).
  GIVEN WITH THE SEED: the statements are not yours to turn. If you find one false, say at which input.
  Laid BY PROGRAM, IN A SANDBOX (cutbox-rows.mjs): the forced cells as the released guide's own fill.sh prints them over the translation 3d3a0774700baa6e… (all of the seat's roots in one cut). By AI agents, Wed Nov 11 2026. No macro, syntax, notation, axiom, sorry.
-/
import Derived.Test.YtblaonmapofniaaGreatDoorChecked
import GoSem.Claim
import GoSem.ClaimJoined
import GoSem.ClaimMapViews
import Derived.JoinedTies
import Derived.KernelRfl
namespace Go.Proofs.YtblaonmapofniaaGreatDoor
/- THE CELL 'sum', in the pinned program and in every row, IS THE sha256 OF THE DUMP (.gsa) THAT YtblaonmapofniaaGreatDoorProg.lean LOADS. Nothing in Lean hashes anything: it is a label: what it is worth is what the hold of that sum in a sandbox is worth. -/
noncomputable def Tryz.pinned : Pinned := { name := "ytblaonmapofniaagreatdoor", sum := "3d3a0774700baa6e0c46833eb21b0beda9e7d92203f40ad23baedf17b7f8e106", checked := Tryz.checked }
namespace Rows
def none {H : Type} : Left H := { results := [], args := [] }

/- WHAT THE LISTED PACKAGE-LEVEL VARIABLES READ AS WHEN THE CALL BEGINS. Each datum BY PROGRAM (the guide's laid-datum.mjs) off the statement by which the dump's own 'gosem.cut.vars' lays the variable. In a bare row this is a premise. The card (YtblaonmapofniaaGreatDoorCards.lean) ties it to the program's text. -/
def laid_math_bits_deBruijn32tab {H : Type} : DataW H := .agg [.lit (.int .u8 0), .lit (.int .u8 1), .lit (.int .u8 28), .lit (.int .u8 2), .lit (.int .u8 29), .lit (.int .u8 14), .lit (.int .u8 24), .lit (.int .u8 3), .lit (.int .u8 30), .lit (.int .u8 22), .lit (.int .u8 20), .lit (.int .u8 15), .lit (.int .u8 25), .lit (.int .u8 17), .lit (.int .u8 4), .lit (.int .u8 8), .lit (.int .u8 31), .lit (.int .u8 27), .lit (.int .u8 13), .lit (.int .u8 23), .lit (.int .u8 21), .lit (.int .u8 19), .lit (.int .u8 16), .lit (.int .u8 7), .lit (.int .u8 26), .lit (.int .u8 12), .lit (.int .u8 18), .lit (.int .u8 6), .lit (.int .u8 11), .lit (.int .u8 5), .lit (.int .u8 10), .lit (.int .u8 9)]
def laid_math_bits_deBruijn64tab {H : Type} : DataW H := .agg [.lit (.int .u8 0), .lit (.int .u8 1), .lit (.int .u8 56), .lit (.int .u8 2), .lit (.int .u8 57), .lit (.int .u8 49), .lit (.int .u8 28), .lit (.int .u8 3), .lit (.int .u8 61), .lit (.int .u8 58), .lit (.int .u8 42), .lit (.int .u8 50), .lit (.int .u8 38), .lit (.int .u8 29), .lit (.int .u8 17), .lit (.int .u8 4), .lit (.int .u8 62), .lit (.int .u8 47), .lit (.int .u8 59), .lit (.int .u8 36), .lit (.int .u8 45), .lit (.int .u8 43), .lit (.int .u8 51), .lit (.int .u8 22), .lit (.int .u8 53), .lit (.int .u8 39), .lit (.int .u8 33), .lit (.int .u8 30), .lit (.int .u8 24), .lit (.int .u8 18), .lit (.int .u8 12), .lit (.int .u8 5), .lit (.int .u8 63), .lit (.int .u8 55), .lit (.int .u8 48), .lit (.int .u8 27), .lit (.int .u8 60), .lit (.int .u8 41), .lit (.int .u8 37), .lit (.int .u8 16), .lit (.int .u8 46), .lit (.int .u8 35), .lit (.int .u8 44), .lit (.int .u8 21), .lit (.int .u8 52), .lit (.int .u8 32), .lit (.int .u8 23), .lit (.int .u8 11), .lit (.int .u8 54), .lit (.int .u8 26), .lit (.int .u8 40), .lit (.int .u8 15), .lit (.int .u8 34), .lit (.int .u8 20), .lit (.int .u8 31), .lit (.int .u8 10), .lit (.int .u8 25), .lit (.int .u8 14), .lit (.int .u8 19), .lit (.int .u8 9), .lit (.int .u8 13), .lit (.int .u8 8), .lit (.int .u8 7), .lit (.int .u8 6)]
def laid_internal_strconv_uint64pow10 {H : Type} : DataW H := .agg [.lit (.int .u64 1), .lit (.int .u64 10), .lit (.int .u64 100), .lit (.int .u64 1000), .lit (.int .u64 10000), .lit (.int .u64 100000), .lit (.int .u64 1000000), .lit (.int .u64 10000000), .lit (.int .u64 100000000), .lit (.int .u64 1000000000), .lit (.int .u64 10000000000), .lit (.int .u64 100000000000), .lit (.int .u64 1000000000000), .lit (.int .u64 10000000000000), .lit (.int .u64 100000000000000), .lit (.int .u64 1000000000000000), .lit (.int .u64 10000000000000000), .lit (.int .u64 100000000000000000), .lit (.int .u64 1000000000000000000), .lit (.int .u64 10000000000000000000)]
def laid_skewer_play_conditions {H : Type} : DataW H := .iface "func table" (.agg [.nil, .iface "func" (.lit (.string [115, 107, 101, 119, 101, 114, 47, 112, 108, 97, 121, 46, 99, 111, 110, 100, 105, 116, 105, 111, 110, 115, 36, 49])), .iface "func" (.lit (.string [115, 107, 101, 119, 101, 114, 47, 112, 108, 97, 121, 46, 99, 111, 110, 100, 105, 116, 105, 111, 110, 115, 36, 50])), .iface "func" (.lit (.string [115, 107, 101, 119, 101, 114, 47, 112, 108, 97, 121, 46, 99, 111, 110, 100, 105, 116, 105, 111, 110, 115, 36, 51]))])

/-- 'skewerlaw06.PlayPrograms': WHATEVER THE INPUT: true; the input reads as it did. -/
def playProgramsSpec : ChangeSpec := { name := "playPrograms", fn := fun _ => fun
  | [d1, d2] => { results := [.lit (.bool true)], args := [d1, d2] }
  | _ => none }
def playProgramsRow : OpenClaim := { program := "ytblaonmapofniaagreatdoor", sum := "3d3a0774700baa6e0c46833eb21b0beda9e7d92203f40ad23baedf17b7f8e106", func := "skewer/skewerlaw06.PlayPrograms", spec := "playPrograms", unfollowed := true, recurses := true, named := ["skewer/play.conditions", "internal/strconv.uint64pow10", "math/bits.deBruijn32tab", "math/bits.deBruijn64tab"], apart := false, laid := [("math/bits.deBruijn32tab", laid_math_bits_deBruijn32tab), ("math/bits.deBruijn64tab", laid_math_bits_deBruijn64tab), ("internal/strconv.uint64pow10", laid_internal_strconv_uint64pow10), ("skewer/play.conditions", laid_skewer_play_conditions)] }
def PlayProgramsSaid : Prop := playProgramsRow.holds Tryz.pinned (OpenSpec.ofChange playProgramsSpec)

/-- ITS FALSE NEIGHBOUR: 'it returns false'. Refute it at one input. -/
def playProgramsWrong : ChangeSpec := { name := "playPrograms", fn := fun _ => fun
  | [d1, d2] => { results := [.lit (.bool false)], args := [d1, d2] }
  | _ => none }
def PlayProgramsWrongFalsely : Prop := playProgramsRow.holds Tryz.pinned (OpenSpec.ofChange playProgramsWrong)

/-- 'skewerlaw27.ReachChecks': WHATEVER THE INPUT: true; the input reads as it did. -/
def reachChecksSpec : ChangeSpec := { name := "reachChecks", fn := fun _ => fun
  | [d1, d2, d3] => { results := [.lit (.bool true)], args := [d1, d2, d3] }
  | _ => none }
def reachChecksRow : OpenClaim := { program := "ytblaonmapofniaagreatdoor", sum := "3d3a0774700baa6e0c46833eb21b0beda9e7d92203f40ad23baedf17b7f8e106", func := "skewer/skewerlaw27.ReachChecks", spec := "reachChecks", unfollowed := true, recurses := true, named := ["skewer/play.conditions", "internal/strconv.uint64pow10", "math/bits.deBruijn32tab", "math/bits.deBruijn64tab"], apart := false, laid := [("math/bits.deBruijn32tab", laid_math_bits_deBruijn32tab), ("math/bits.deBruijn64tab", laid_math_bits_deBruijn64tab), ("internal/strconv.uint64pow10", laid_internal_strconv_uint64pow10), ("skewer/play.conditions", laid_skewer_play_conditions)] }
def ReachChecksSaid : Prop := reachChecksRow.holds Tryz.pinned (OpenSpec.ofChange reachChecksSpec)

/-- ITS FALSE NEIGHBOUR: 'it returns false'. Refute it at one input. -/
def reachChecksWrong : ChangeSpec := { name := "reachChecks", fn := fun _ => fun
  | [d1, d2, d3] => { results := [.lit (.bool false)], args := [d1, d2, d3] }
  | _ => none }
def ReachChecksWrongFalsely : Prop := reachChecksRow.holds Tryz.pinned (OpenSpec.ofChange reachChecksWrong)

/-- 'skewerlaw29.LastMatchesReference': WHATEVER THE INPUT: true; the input reads as it did. -/
def lastMatchesReferenceSpec : ChangeSpec := { name := "lastMatchesReference", fn := fun _ => fun
  | [d1, d2, d3] => { results := [.lit (.bool true)], args := [d1, d2, d3] }
  | _ => none }
def lastMatchesReferenceRow : OpenClaim := { program := "ytblaonmapofniaagreatdoor", sum := "3d3a0774700baa6e0c46833eb21b0beda9e7d92203f40ad23baedf17b7f8e106", func := "skewer/skewerlaw29.LastMatchesReference", spec := "lastMatchesReference", unfollowed := true, recurses := true, named := ["skewer/play.conditions", "internal/strconv.uint64pow10", "math/bits.deBruijn32tab", "math/bits.deBruijn64tab"], apart := false, laid := [("math/bits.deBruijn32tab", laid_math_bits_deBruijn32tab), ("math/bits.deBruijn64tab", laid_math_bits_deBruijn64tab), ("internal/strconv.uint64pow10", laid_internal_strconv_uint64pow10), ("skewer/play.conditions", laid_skewer_play_conditions)] }
def LastMatchesReferenceSaid : Prop := lastMatchesReferenceRow.holds Tryz.pinned (OpenSpec.ofChange lastMatchesReferenceSpec)

/-- ITS FALSE NEIGHBOUR: 'it returns false'. Refute it at one input. -/
def lastMatchesReferenceWrong : ChangeSpec := { name := "lastMatchesReference", fn := fun _ => fun
  | [d1, d2, d3] => { results := [.lit (.bool false)], args := [d1, d2, d3] }
  | _ => none }
def LastMatchesReferenceWrongFalsely : Prop := lastMatchesReferenceRow.holds Tryz.pinned (OpenSpec.ofChange lastMatchesReferenceWrong)

/-- 'skewerlaw29.LastRights': WHATEVER THE INPUT: true; the input reads as it did. -/
def lastRightsSpec : ChangeSpec := { name := "lastRights", fn := fun _ => fun
  | [d1, d2] => { results := [.lit (.bool true)], args := [d1, d2] }
  | _ => none }
def lastRightsRow : OpenClaim := { program := "ytblaonmapofniaagreatdoor", sum := "3d3a0774700baa6e0c46833eb21b0beda9e7d92203f40ad23baedf17b7f8e106", func := "skewer/skewerlaw29.LastRights", spec := "lastRights", unfollowed := true, recurses := true, named := ["skewer/play.conditions", "internal/strconv.uint64pow10", "math/bits.deBruijn32tab", "math/bits.deBruijn64tab"], apart := false, laid := [("math/bits.deBruijn32tab", laid_math_bits_deBruijn32tab), ("math/bits.deBruijn64tab", laid_math_bits_deBruijn64tab), ("internal/strconv.uint64pow10", laid_internal_strconv_uint64pow10), ("skewer/play.conditions", laid_skewer_play_conditions)] }
def LastRightsSaid : Prop := lastRightsRow.holds Tryz.pinned (OpenSpec.ofChange lastRightsSpec)

/-- ITS FALSE NEIGHBOUR: 'it returns false'. Refute it at one input. -/
def lastRightsWrong : ChangeSpec := { name := "lastRights", fn := fun _ => fun
  | [d1, d2] => { results := [.lit (.bool false)], args := [d1, d2] }
  | _ => none }
def LastRightsWrongFalsely : Prop := lastRightsRow.holds Tryz.pinned (OpenSpec.ofChange lastRightsWrong)

/-- 'skewerlaw29.LastLooks': WHATEVER THE INPUT: true; the input reads as it did. -/
def lastLooksSpec : ChangeSpec := { name := "lastLooks", fn := fun _ => fun
  | [d1, d2, d3] => { results := [.lit (.bool true)], args := [d1, d2, d3] }
  | _ => none }
def lastLooksRow : OpenClaim := { program := "ytblaonmapofniaagreatdoor", sum := "3d3a0774700baa6e0c46833eb21b0beda9e7d92203f40ad23baedf17b7f8e106", func := "skewer/skewerlaw29.LastLooks", spec := "lastLooks", unfollowed := true, recurses := true, named := ["skewer/play.conditions", "internal/strconv.uint64pow10", "math/bits.deBruijn32tab", "math/bits.deBruijn64tab"], apart := false, laid := [("math/bits.deBruijn32tab", laid_math_bits_deBruijn32tab), ("math/bits.deBruijn64tab", laid_math_bits_deBruijn64tab), ("internal/strconv.uint64pow10", laid_internal_strconv_uint64pow10), ("skewer/play.conditions", laid_skewer_play_conditions)] }
def LastLooksSaid : Prop := lastLooksRow.holds Tryz.pinned (OpenSpec.ofChange lastLooksSpec)

/-- ITS FALSE NEIGHBOUR: 'it returns false'. Refute it at one input. -/
def lastLooksWrong : ChangeSpec := { name := "lastLooks", fn := fun _ => fun
  | [d1, d2, d3] => { results := [.lit (.bool false)], args := [d1, d2, d3] }
  | _ => none }
def LastLooksWrongFalsely : Prop := lastLooksRow.holds Tryz.pinned (OpenSpec.ofChange lastLooksWrong)

/-- 'skewerlaw29.LastBudgets': WHATEVER THE INPUT: true; the input reads as it did. -/
def lastBudgetsSpec : ChangeSpec := { name := "lastBudgets", fn := fun _ => fun
  | [d1, d2, d3] => { results := [.lit (.bool true)], args := [d1, d2, d3] }
  | _ => none }
def lastBudgetsRow : OpenClaim := { program := "ytblaonmapofniaagreatdoor", sum := "3d3a0774700baa6e0c46833eb21b0beda9e7d92203f40ad23baedf17b7f8e106", func := "skewer/skewerlaw29.LastBudgets", spec := "lastBudgets", unfollowed := true, recurses := true, named := ["skewer/play.conditions", "internal/strconv.uint64pow10", "math/bits.deBruijn32tab", "math/bits.deBruijn64tab"], apart := false, laid := [("math/bits.deBruijn32tab", laid_math_bits_deBruijn32tab), ("math/bits.deBruijn64tab", laid_math_bits_deBruijn64tab), ("internal/strconv.uint64pow10", laid_internal_strconv_uint64pow10), ("skewer/play.conditions", laid_skewer_play_conditions)] }
def LastBudgetsSaid : Prop := lastBudgetsRow.holds Tryz.pinned (OpenSpec.ofChange lastBudgetsSpec)

/-- ITS FALSE NEIGHBOUR: 'it returns false'. Refute it at one input. -/
def lastBudgetsWrong : ChangeSpec := { name := "lastBudgets", fn := fun _ => fun
  | [d1, d2, d3] => { results := [.lit (.bool false)], args := [d1, d2, d3] }
  | _ => none }
def LastBudgetsWrongFalsely : Prop := lastBudgetsRow.holds Tryz.pinned (OpenSpec.ofChange lastBudgetsWrong)

/-- 'skewerlaw29.LastMoves': WHATEVER THE INPUT: true; the input reads as it did. -/
def lastMovesSpec : ChangeSpec := { name := "lastMoves", fn := fun _ => fun
  | [d1, d2] => { results := [.lit (.bool true)], args := [d1, d2] }
  | _ => none }
def lastMovesRow : OpenClaim := { program := "ytblaonmapofniaagreatdoor", sum := "3d3a0774700baa6e0c46833eb21b0beda9e7d92203f40ad23baedf17b7f8e106", func := "skewer/skewerlaw29.LastMoves", spec := "lastMoves", unfollowed := true, recurses := true, named := ["skewer/play.conditions", "internal/strconv.uint64pow10", "math/bits.deBruijn32tab", "math/bits.deBruijn64tab"], apart := false, laid := [("math/bits.deBruijn32tab", laid_math_bits_deBruijn32tab), ("math/bits.deBruijn64tab", laid_math_bits_deBruijn64tab), ("internal/strconv.uint64pow10", laid_internal_strconv_uint64pow10), ("skewer/play.conditions", laid_skewer_play_conditions)] }
def LastMovesSaid : Prop := lastMovesRow.holds Tryz.pinned (OpenSpec.ofChange lastMovesSpec)

/-- ITS FALSE NEIGHBOUR: 'it returns false'. Refute it at one input. -/
def lastMovesWrong : ChangeSpec := { name := "lastMoves", fn := fun _ => fun
  | [d1, d2] => { results := [.lit (.bool false)], args := [d1, d2] }
  | _ => none }
def LastMovesWrongFalsely : Prop := lastMovesRow.holds Tryz.pinned (OpenSpec.ofChange lastMovesWrong)

/-- 'skewerlaw29.LastGames': WHATEVER THE INPUT: true; the input reads as it did. -/
def lastGamesSpec : ChangeSpec := { name := "lastGames", fn := fun _ => fun
  | [d1, d2] => { results := [.lit (.bool true)], args := [d1, d2] }
  | _ => none }
def lastGamesRow : OpenClaim := { program := "ytblaonmapofniaagreatdoor", sum := "3d3a0774700baa6e0c46833eb21b0beda9e7d92203f40ad23baedf17b7f8e106", func := "skewer/skewerlaw29.LastGames", spec := "lastGames", unfollowed := true, recurses := true, named := ["skewer/play.conditions", "internal/strconv.uint64pow10", "math/bits.deBruijn32tab", "math/bits.deBruijn64tab"], apart := false, laid := [("math/bits.deBruijn32tab", laid_math_bits_deBruijn32tab), ("math/bits.deBruijn64tab", laid_math_bits_deBruijn64tab), ("internal/strconv.uint64pow10", laid_internal_strconv_uint64pow10), ("skewer/play.conditions", laid_skewer_play_conditions)] }
def LastGamesSaid : Prop := lastGamesRow.holds Tryz.pinned (OpenSpec.ofChange lastGamesSpec)

/-- ITS FALSE NEIGHBOUR: 'it returns false'. Refute it at one input. -/
def lastGamesWrong : ChangeSpec := { name := "lastGames", fn := fun _ => fun
  | [d1, d2] => { results := [.lit (.bool false)], args := [d1, d2] }
  | _ => none }
def LastGamesWrongFalsely : Prop := lastGamesRow.holds Tryz.pinned (OpenSpec.ofChange lastGamesWrong)

/-- 'skewerlaw14.IndexMoves': WHATEVER THE INPUT: true; the input reads as it did. -/
def indexMovesSpec : ChangeSpec := { name := "indexMoves", fn := fun _ => fun
  | [d] => { results := [.lit (.bool true)], args := [d] }
  | _ => none }
def indexMovesRow : OpenClaim := { program := "ytblaonmapofniaagreatdoor", sum := "3d3a0774700baa6e0c46833eb21b0beda9e7d92203f40ad23baedf17b7f8e106", func := "skewer/skewerlaw14.IndexMoves", spec := "indexMoves", unfollowed := true, recurses := true, named := ["skewer/play.conditions", "internal/strconv.uint64pow10", "math/bits.deBruijn32tab", "math/bits.deBruijn64tab"], apart := false, laid := [("math/bits.deBruijn32tab", laid_math_bits_deBruijn32tab), ("math/bits.deBruijn64tab", laid_math_bits_deBruijn64tab), ("internal/strconv.uint64pow10", laid_internal_strconv_uint64pow10), ("skewer/play.conditions", laid_skewer_play_conditions)] }
def IndexMovesSaid : Prop := indexMovesRow.holds Tryz.pinned (OpenSpec.ofChange indexMovesSpec)

/-- ITS FALSE NEIGHBOUR: 'it returns false'. Refute it at one input. -/
def indexMovesWrong : ChangeSpec := { name := "indexMoves", fn := fun _ => fun
  | [d] => { results := [.lit (.bool false)], args := [d] }
  | _ => none }
def IndexMovesWrongFalsely : Prop := indexMovesRow.holds Tryz.pinned (OpenSpec.ofChange indexMovesWrong)

/-- 'skewerlaw08.GenMatchesReference': WHATEVER THE INPUT: true; the input reads as it did. -/
def genMatchesReferenceSpec : ChangeSpec := { name := "genMatchesReference", fn := fun _ => fun
  | [d1, d2] => { results := [.lit (.bool true)], args := [d1, d2] }
  | _ => none }
def genMatchesReferenceRow : OpenClaim := { program := "ytblaonmapofniaagreatdoor", sum := "3d3a0774700baa6e0c46833eb21b0beda9e7d92203f40ad23baedf17b7f8e106", func := "skewer/skewerlaw08.GenMatchesReference", spec := "genMatchesReference", unfollowed := true, recurses := true, named := ["skewer/play.conditions", "internal/strconv.uint64pow10", "math/bits.deBruijn32tab", "math/bits.deBruijn64tab"], apart := false, laid := [("math/bits.deBruijn32tab", laid_math_bits_deBruijn32tab), ("math/bits.deBruijn64tab", laid_math_bits_deBruijn64tab), ("internal/strconv.uint64pow10", laid_internal_strconv_uint64pow10), ("skewer/play.conditions", laid_skewer_play_conditions)] }
def GenMatchesReferenceSaid : Prop := genMatchesReferenceRow.holds Tryz.pinned (OpenSpec.ofChange genMatchesReferenceSpec)

/-- ITS FALSE NEIGHBOUR: 'it returns false'. Refute it at one input. -/
def genMatchesReferenceWrong : ChangeSpec := { name := "genMatchesReference", fn := fun _ => fun
  | [d1, d2] => { results := [.lit (.bool false)], args := [d1, d2] }
  | _ => none }
def GenMatchesReferenceWrongFalsely : Prop := genMatchesReferenceRow.holds Tryz.pinned (OpenSpec.ofChange genMatchesReferenceWrong)

/-- 'skewerlaw08.GenMoves': WHATEVER THE INPUT: true; the input reads as it did. -/
def genMovesSpec : ChangeSpec := { name := "genMoves", fn := fun _ => fun
  | [d] => { results := [.lit (.bool true)], args := [d] }
  | _ => none }
def genMovesRow : OpenClaim := { program := "ytblaonmapofniaagreatdoor", sum := "3d3a0774700baa6e0c46833eb21b0beda9e7d92203f40ad23baedf17b7f8e106", func := "skewer/skewerlaw08.GenMoves", spec := "genMoves", unfollowed := true, recurses := true, named := ["skewer/play.conditions", "internal/strconv.uint64pow10", "math/bits.deBruijn32tab", "math/bits.deBruijn64tab"], apart := false, laid := [("math/bits.deBruijn32tab", laid_math_bits_deBruijn32tab), ("math/bits.deBruijn64tab", laid_math_bits_deBruijn64tab), ("internal/strconv.uint64pow10", laid_internal_strconv_uint64pow10), ("skewer/play.conditions", laid_skewer_play_conditions)] }
def GenMovesSaid : Prop := genMovesRow.holds Tryz.pinned (OpenSpec.ofChange genMovesSpec)

/-- ITS FALSE NEIGHBOUR: 'it returns false'. Refute it at one input. -/
def genMovesWrong : ChangeSpec := { name := "genMoves", fn := fun _ => fun
  | [d] => { results := [.lit (.bool false)], args := [d] }
  | _ => none }
def GenMovesWrongFalsely : Prop := genMovesRow.holds Tryz.pinned (OpenSpec.ofChange genMovesWrong)

/-- 'skewerlaw22.RegionPaths': WHATEVER THE INPUT: true; the input reads as it did. -/
def regionPathsSpec : ChangeSpec := { name := "regionPaths", fn := fun _ => fun
  | [d] => { results := [.lit (.bool true)], args := [d] }
  | _ => none }
def regionPathsRow : OpenClaim := { program := "ytblaonmapofniaagreatdoor", sum := "3d3a0774700baa6e0c46833eb21b0beda9e7d92203f40ad23baedf17b7f8e106", func := "skewer/skewerlaw22.RegionPaths", spec := "regionPaths", unfollowed := true, recurses := true, named := ["internal/strconv.uint64pow10", "math/bits.deBruijn32tab", "math/bits.deBruijn64tab"], apart := false, laid := [("math/bits.deBruijn32tab", laid_math_bits_deBruijn32tab), ("math/bits.deBruijn64tab", laid_math_bits_deBruijn64tab), ("internal/strconv.uint64pow10", laid_internal_strconv_uint64pow10)] }
def RegionPathsSaid : Prop := regionPathsRow.holds Tryz.pinned (OpenSpec.ofChange regionPathsSpec)

/-- ITS FALSE NEIGHBOUR: 'it returns false'. Refute it at one input. -/
def regionPathsWrong : ChangeSpec := { name := "regionPaths", fn := fun _ => fun
  | [d] => { results := [.lit (.bool false)], args := [d] }
  | _ => none }
def RegionPathsWrongFalsely : Prop := regionPathsRow.holds Tryz.pinned (OpenSpec.ofChange regionPathsWrong)

/- THE SECOND FORM. 'bulk': how many values and letters a reading holds, each counted each time it is reached (what is shared counts as often as it is met; a slice's spare places count too). A statement '..UptoSaid' is the law's where the arguments, and the package variables that the reading takes, are together of bulk at most 1048576: NARROWER than '..Said'. Prove '..Said' where nothing that the law and all that it calls make is longer than what came in: it says more and counts as full. Else prove '..UptoSaid'. A law counts once. -/
mutual
def uptoBulk {H : Type} : DataW H → Nat
  | .lit (.string bytes) => bytes.length + 1
  | .lit _ => 1
  | .nil => 1
  | .ptr d => uptoBulk d + 1
  | .slice elems spare => uptoBulkAll elems + uptoBulkAll spare + 1
  | .agg parts => uptoBulkAll parts + 1
  | .iface _ d => uptoBulk d + 1
  | .map entries => uptoBulkEntries entries + 1
  | .held _ => 1
def uptoBulkAll {H : Type} : List (DataW H) → Nat
  | [] => 0
  | d :: r => uptoBulk d + uptoBulkAll r
def uptoBulkEntries {H : Type} : List (Lit × DataW H) → Nat
  | [] => 0
  | x :: r => uptoBulkEntry x + uptoBulkEntries r
def uptoBulkEntry {H : Type} : Lit × DataW H → Nat
  | (.string bytes, d) => bytes.length + uptoBulk d + 1
  | (_, d) => uptoBulk d + 1
 end
def uptoSmall : (H : Type) → List (DataW H) → Bool := fun _ ds => decide (uptoBulkAll ds ≤ 1048576)
def OpenSpec.upto (s : _root_.Go.ChangeSpec) : _root_.Go.OpenSpec := { _root_.Go.OpenSpec.ofChange s with cond := some uptoSmall }

/-- 'skewerlaw06.PlayPrograms', WHERE WHAT IT READS IS OF BULK AT MOST 1048576: true; the input reads as it did. -/
def playProgramsUptoRow : OpenClaim := { program := "ytblaonmapofniaagreatdoor", sum := "3d3a0774700baa6e0c46833eb21b0beda9e7d92203f40ad23baedf17b7f8e106", func := "skewer/skewerlaw06.PlayPrograms", spec := "playPrograms", unfollowed := true, recurses := true, named := ["skewer/play.conditions", "internal/strconv.uint64pow10", "math/bits.deBruijn32tab", "math/bits.deBruijn64tab"], apart := false, laid := [("math/bits.deBruijn32tab", laid_math_bits_deBruijn32tab), ("math/bits.deBruijn64tab", laid_math_bits_deBruijn64tab), ("internal/strconv.uint64pow10", laid_internal_strconv_uint64pow10), ("skewer/play.conditions", laid_skewer_play_conditions)], narrowed := true }
def PlayProgramsUptoSaid : Prop := playProgramsUptoRow.holds Tryz.pinned (OpenSpec.upto playProgramsSpec)

/-- 'skewerlaw27.ReachChecks', WHERE WHAT IT READS IS OF BULK AT MOST 1048576: true; the input reads as it did. -/
def reachChecksUptoRow : OpenClaim := { program := "ytblaonmapofniaagreatdoor", sum := "3d3a0774700baa6e0c46833eb21b0beda9e7d92203f40ad23baedf17b7f8e106", func := "skewer/skewerlaw27.ReachChecks", spec := "reachChecks", unfollowed := true, recurses := true, named := ["skewer/play.conditions", "internal/strconv.uint64pow10", "math/bits.deBruijn32tab", "math/bits.deBruijn64tab"], apart := false, laid := [("math/bits.deBruijn32tab", laid_math_bits_deBruijn32tab), ("math/bits.deBruijn64tab", laid_math_bits_deBruijn64tab), ("internal/strconv.uint64pow10", laid_internal_strconv_uint64pow10), ("skewer/play.conditions", laid_skewer_play_conditions)], narrowed := true }
def ReachChecksUptoSaid : Prop := reachChecksUptoRow.holds Tryz.pinned (OpenSpec.upto reachChecksSpec)

/-- 'skewerlaw29.LastMatchesReference', WHERE WHAT IT READS IS OF BULK AT MOST 1048576: true; the input reads as it did. -/
def lastMatchesReferenceUptoRow : OpenClaim := { program := "ytblaonmapofniaagreatdoor", sum := "3d3a0774700baa6e0c46833eb21b0beda9e7d92203f40ad23baedf17b7f8e106", func := "skewer/skewerlaw29.LastMatchesReference", spec := "lastMatchesReference", unfollowed := true, recurses := true, named := ["skewer/play.conditions", "internal/strconv.uint64pow10", "math/bits.deBruijn32tab", "math/bits.deBruijn64tab"], apart := false, laid := [("math/bits.deBruijn32tab", laid_math_bits_deBruijn32tab), ("math/bits.deBruijn64tab", laid_math_bits_deBruijn64tab), ("internal/strconv.uint64pow10", laid_internal_strconv_uint64pow10), ("skewer/play.conditions", laid_skewer_play_conditions)], narrowed := true }
def LastMatchesReferenceUptoSaid : Prop := lastMatchesReferenceUptoRow.holds Tryz.pinned (OpenSpec.upto lastMatchesReferenceSpec)

/-- 'skewerlaw29.LastRights', WHERE WHAT IT READS IS OF BULK AT MOST 1048576: true; the input reads as it did. -/
def lastRightsUptoRow : OpenClaim := { program := "ytblaonmapofniaagreatdoor", sum := "3d3a0774700baa6e0c46833eb21b0beda9e7d92203f40ad23baedf17b7f8e106", func := "skewer/skewerlaw29.LastRights", spec := "lastRights", unfollowed := true, recurses := true, named := ["skewer/play.conditions", "internal/strconv.uint64pow10", "math/bits.deBruijn32tab", "math/bits.deBruijn64tab"], apart := false, laid := [("math/bits.deBruijn32tab", laid_math_bits_deBruijn32tab), ("math/bits.deBruijn64tab", laid_math_bits_deBruijn64tab), ("internal/strconv.uint64pow10", laid_internal_strconv_uint64pow10), ("skewer/play.conditions", laid_skewer_play_conditions)], narrowed := true }
def LastRightsUptoSaid : Prop := lastRightsUptoRow.holds Tryz.pinned (OpenSpec.upto lastRightsSpec)

/-- 'skewerlaw29.LastLooks', WHERE WHAT IT READS IS OF BULK AT MOST 1048576: true; the input reads as it did. -/
def lastLooksUptoRow : OpenClaim := { program := "ytblaonmapofniaagreatdoor", sum := "3d3a0774700baa6e0c46833eb21b0beda9e7d92203f40ad23baedf17b7f8e106", func := "skewer/skewerlaw29.LastLooks", spec := "lastLooks", unfollowed := true, recurses := true, named := ["skewer/play.conditions", "internal/strconv.uint64pow10", "math/bits.deBruijn32tab", "math/bits.deBruijn64tab"], apart := false, laid := [("math/bits.deBruijn32tab", laid_math_bits_deBruijn32tab), ("math/bits.deBruijn64tab", laid_math_bits_deBruijn64tab), ("internal/strconv.uint64pow10", laid_internal_strconv_uint64pow10), ("skewer/play.conditions", laid_skewer_play_conditions)], narrowed := true }
def LastLooksUptoSaid : Prop := lastLooksUptoRow.holds Tryz.pinned (OpenSpec.upto lastLooksSpec)

/-- 'skewerlaw29.LastBudgets', WHERE WHAT IT READS IS OF BULK AT MOST 1048576: true; the input reads as it did. -/
def lastBudgetsUptoRow : OpenClaim := { program := "ytblaonmapofniaagreatdoor", sum := "3d3a0774700baa6e0c46833eb21b0beda9e7d92203f40ad23baedf17b7f8e106", func := "skewer/skewerlaw29.LastBudgets", spec := "lastBudgets", unfollowed := true, recurses := true, named := ["skewer/play.conditions", "internal/strconv.uint64pow10", "math/bits.deBruijn32tab", "math/bits.deBruijn64tab"], apart := false, laid := [("math/bits.deBruijn32tab", laid_math_bits_deBruijn32tab), ("math/bits.deBruijn64tab", laid_math_bits_deBruijn64tab), ("internal/strconv.uint64pow10", laid_internal_strconv_uint64pow10), ("skewer/play.conditions", laid_skewer_play_conditions)], narrowed := true }
def LastBudgetsUptoSaid : Prop := lastBudgetsUptoRow.holds Tryz.pinned (OpenSpec.upto lastBudgetsSpec)

/-- 'skewerlaw29.LastMoves', WHERE WHAT IT READS IS OF BULK AT MOST 1048576: true; the input reads as it did. -/
def lastMovesUptoRow : OpenClaim := { program := "ytblaonmapofniaagreatdoor", sum := "3d3a0774700baa6e0c46833eb21b0beda9e7d92203f40ad23baedf17b7f8e106", func := "skewer/skewerlaw29.LastMoves", spec := "lastMoves", unfollowed := true, recurses := true, named := ["skewer/play.conditions", "internal/strconv.uint64pow10", "math/bits.deBruijn32tab", "math/bits.deBruijn64tab"], apart := false, laid := [("math/bits.deBruijn32tab", laid_math_bits_deBruijn32tab), ("math/bits.deBruijn64tab", laid_math_bits_deBruijn64tab), ("internal/strconv.uint64pow10", laid_internal_strconv_uint64pow10), ("skewer/play.conditions", laid_skewer_play_conditions)], narrowed := true }
def LastMovesUptoSaid : Prop := lastMovesUptoRow.holds Tryz.pinned (OpenSpec.upto lastMovesSpec)

/-- 'skewerlaw29.LastGames', WHERE WHAT IT READS IS OF BULK AT MOST 1048576: true; the input reads as it did. -/
def lastGamesUptoRow : OpenClaim := { program := "ytblaonmapofniaagreatdoor", sum := "3d3a0774700baa6e0c46833eb21b0beda9e7d92203f40ad23baedf17b7f8e106", func := "skewer/skewerlaw29.LastGames", spec := "lastGames", unfollowed := true, recurses := true, named := ["skewer/play.conditions", "internal/strconv.uint64pow10", "math/bits.deBruijn32tab", "math/bits.deBruijn64tab"], apart := false, laid := [("math/bits.deBruijn32tab", laid_math_bits_deBruijn32tab), ("math/bits.deBruijn64tab", laid_math_bits_deBruijn64tab), ("internal/strconv.uint64pow10", laid_internal_strconv_uint64pow10), ("skewer/play.conditions", laid_skewer_play_conditions)], narrowed := true }
def LastGamesUptoSaid : Prop := lastGamesUptoRow.holds Tryz.pinned (OpenSpec.upto lastGamesSpec)

/-- 'skewerlaw14.IndexMoves', WHERE WHAT IT READS IS OF BULK AT MOST 1048576: true; the input reads as it did. -/
def indexMovesUptoRow : OpenClaim := { program := "ytblaonmapofniaagreatdoor", sum := "3d3a0774700baa6e0c46833eb21b0beda9e7d92203f40ad23baedf17b7f8e106", func := "skewer/skewerlaw14.IndexMoves", spec := "indexMoves", unfollowed := true, recurses := true, named := ["skewer/play.conditions", "internal/strconv.uint64pow10", "math/bits.deBruijn32tab", "math/bits.deBruijn64tab"], apart := false, laid := [("math/bits.deBruijn32tab", laid_math_bits_deBruijn32tab), ("math/bits.deBruijn64tab", laid_math_bits_deBruijn64tab), ("internal/strconv.uint64pow10", laid_internal_strconv_uint64pow10), ("skewer/play.conditions", laid_skewer_play_conditions)], narrowed := true }
def IndexMovesUptoSaid : Prop := indexMovesUptoRow.holds Tryz.pinned (OpenSpec.upto indexMovesSpec)

/-- 'skewerlaw08.GenMatchesReference', WHERE WHAT IT READS IS OF BULK AT MOST 1048576: true; the input reads as it did. -/
def genMatchesReferenceUptoRow : OpenClaim := { program := "ytblaonmapofniaagreatdoor", sum := "3d3a0774700baa6e0c46833eb21b0beda9e7d92203f40ad23baedf17b7f8e106", func := "skewer/skewerlaw08.GenMatchesReference", spec := "genMatchesReference", unfollowed := true, recurses := true, named := ["skewer/play.conditions", "internal/strconv.uint64pow10", "math/bits.deBruijn32tab", "math/bits.deBruijn64tab"], apart := false, laid := [("math/bits.deBruijn32tab", laid_math_bits_deBruijn32tab), ("math/bits.deBruijn64tab", laid_math_bits_deBruijn64tab), ("internal/strconv.uint64pow10", laid_internal_strconv_uint64pow10), ("skewer/play.conditions", laid_skewer_play_conditions)], narrowed := true }
def GenMatchesReferenceUptoSaid : Prop := genMatchesReferenceUptoRow.holds Tryz.pinned (OpenSpec.upto genMatchesReferenceSpec)

/-- 'skewerlaw08.GenMoves', WHERE WHAT IT READS IS OF BULK AT MOST 1048576: true; the input reads as it did. -/
def genMovesUptoRow : OpenClaim := { program := "ytblaonmapofniaagreatdoor", sum := "3d3a0774700baa6e0c46833eb21b0beda9e7d92203f40ad23baedf17b7f8e106", func := "skewer/skewerlaw08.GenMoves", spec := "genMoves", unfollowed := true, recurses := true, named := ["skewer/play.conditions", "internal/strconv.uint64pow10", "math/bits.deBruijn32tab", "math/bits.deBruijn64tab"], apart := false, laid := [("math/bits.deBruijn32tab", laid_math_bits_deBruijn32tab), ("math/bits.deBruijn64tab", laid_math_bits_deBruijn64tab), ("internal/strconv.uint64pow10", laid_internal_strconv_uint64pow10), ("skewer/play.conditions", laid_skewer_play_conditions)], narrowed := true }
def GenMovesUptoSaid : Prop := genMovesUptoRow.holds Tryz.pinned (OpenSpec.upto genMovesSpec)

/-- 'skewerlaw22.RegionPaths', WHERE WHAT IT READS IS OF BULK AT MOST 1048576: true; the input reads as it did. -/
def regionPathsUptoRow : OpenClaim := { program := "ytblaonmapofniaagreatdoor", sum := "3d3a0774700baa6e0c46833eb21b0beda9e7d92203f40ad23baedf17b7f8e106", func := "skewer/skewerlaw22.RegionPaths", spec := "regionPaths", unfollowed := true, recurses := true, named := ["internal/strconv.uint64pow10", "math/bits.deBruijn32tab", "math/bits.deBruijn64tab"], apart := false, laid := [("math/bits.deBruijn32tab", laid_math_bits_deBruijn32tab), ("math/bits.deBruijn64tab", laid_math_bits_deBruijn64tab), ("internal/strconv.uint64pow10", laid_internal_strconv_uint64pow10)], narrowed := true }
def RegionPathsUptoSaid : Prop := regionPathsUptoRow.holds Tryz.pinned (OpenSpec.upto regionPathsSpec)

end Rows
end Go.Proofs.YtblaonmapofniaaGreatDoor
