/- Texts of ours, part 6: our library and contracts of functions. -/
import Derived.Test.YtkahkcakggflaaaGreatDoorB05
import Derived.Test.YtkahkcakggflaaaGreatDoorProg
set_option linter.unusedSimpArgs false
set_option linter.unusedVariables false
set_option maxRecDepth 100000
set_option maxHeartbeats 40000000
section
namespace Go.Av
open Go Go.Proofs Go.Proofs.Tryz
@[go_sem] theorem t_0 : tk prog 0 = .other ∧ tsz prog 0 = some 1 ∧ tby prog 0 = some 0 ∧ zbf prog 0 = some false := by and_intros <;> kernel_rfl
@[go_sem] theorem t_1 : tk prog 1 = .other ∧ tsz prog 1 = some 1 ∧ tby prog 1 = some 8 ∧ tz prog 1 = some [(.v .nilFunc)] ∧ zbf prog 1 = some false := by and_intros <;> kernel_rfl
@[go_sem] theorem t_2 : tk prog 2 = .int .i64 ∧ tsz prog 2 = some 1 ∧ tby prog 2 = some 8 ∧ tz prog 2 = some [(.v (.int .i64 0))] ∧ zbf prog 2 = some false ∧ tz1 prog 2 = some (.int .i64 0) := by and_intros <;> kernel_rfl
@[go_sem] theorem t_3 : tk prog 3 = .int .i64 ∧ tsz prog 3 = some 1 ∧ tby prog 3 = some 8 ∧ tz prog 3 = some [(.v (.int .i64 0))] ∧ zbf prog 3 = some false ∧ tz1 prog 3 = some (.int .i64 0) := by and_intros <;> kernel_rfl
@[go_sem] theorem t_4 : tk prog 4 = .bool ∧ tsz prog 4 = some 1 ∧ tby prog 4 = some 1 ∧ tz prog 4 = some [(.v (.bool false))] ∧ zbf prog 4 = some false ∧ tz1 prog 4 = some (.bool false) := by and_intros <;> kernel_rfl
@[go_sem] theorem t_5 : tk prog 5 = .int .u8 ∧ tsz prog 5 = some 1 ∧ tby prog 5 = some 1 ∧ tz prog 5 = some [(.v (.int .u8 0))] ∧ zbf prog 5 = some false ∧ tz1 prog 5 = some (.int .u8 0) := by and_intros <;> kernel_rfl
@[go_sem] theorem t_6 : tk prog 6 = .int .u8 ∧ tsz prog 6 = some 1 ∧ tby prog 6 = some 1 ∧ tz prog 6 = some [(.v (.int .u8 0))] ∧ zbf prog 6 = some false ∧ tz1 prog 6 = some (.int .u8 0) := by and_intros <;> kernel_rfl
@[go_sem] theorem t_7 : tk prog 7 = .str ∧ tsz prog 7 = some 4 ∧ tby prog 7 = some 24 ∧ tz prog 7 = some [(.v (.int .i64 0)), (.v (.int .i64 0)), (.v (.bool false)), (.v (.int .u8 0))] ∧ zbf prog 7 = some true ∧ tfi prog 7 = true ∧ zoF prog 7 = some [false, false, true, false] ∧ zca prog 7 0 = some 2 ∧ zbZ prog 7 0 = some 0 ∧ zca prog 7 1 = some 3 ∧ zbZ prog 7 1 = some 1 ∧ zca prog 7 2 = some 4 ∧ zbZ prog 7 2 = some 2 ∧ zca prog 7 3 = some 6 ∧ zbZ prog 7 3 = some 3 := by and_intros <;> kernel_rfl
@[go_sem] theorem t_8 : tk prog 8 = .str ∧ tsz prog 8 = some 4 ∧ tby prog 8 = some 24 ∧ tz prog 8 = some [(.v (.int .i64 0)), (.v (.int .i64 0)), (.v (.bool false)), (.v (.int .u8 0))] ∧ zbf prog 8 = some true ∧ tfi prog 8 = true ∧ zoF prog 8 = some [false, false, true, false] ∧ zca prog 8 0 = some 2 ∧ zbZ prog 8 0 = some 0 ∧ zca prog 8 1 = some 3 ∧ zbZ prog 8 1 = some 1 ∧ zca prog 8 2 = some 4 ∧ zbZ prog 8 2 = some 2 ∧ zca prog 8 3 = some 6 ∧ zbZ prog 8 3 = some 3 := by and_intros <;> kernel_rfl
@[go_sem] theorem t_9 : tk prog 9 = .string ∧ tsz prog 9 = some 1 ∧ tby prog 9 = some 16 ∧ tz prog 9 = some [(.v (.string ⟨⟨[]⟩⟩))] ∧ zbf prog 9 = some false ∧ tz1 prog 9 = some (.string ⟨⟨[]⟩⟩) := by and_intros <;> kernel_rfl
@[go_sem] theorem t_10 : tk prog 10 = .string ∧ tsz prog 10 = some 1 ∧ tby prog 10 = some 16 ∧ tz prog 10 = some [(.v (.string ⟨⟨[]⟩⟩))] ∧ zbf prog 10 = some false ∧ tz1 prog 10 = some (.string ⟨⟨[]⟩⟩) := by and_intros <;> kernel_rfl
@[go_sem] theorem t_11 : tk prog 11 = .string ∧ tsz prog 11 = some 1 ∧ tby prog 11 = some 16 ∧ tz prog 11 = some [(.v (.string ⟨⟨[]⟩⟩))] ∧ zbf prog 11 = some false ∧ tz1 prog 11 = some (.string ⟨⟨[]⟩⟩) := by and_intros <;> kernel_rfl
@[go_sem] theorem t_12 : tk prog 12 = .int .u64 ∧ tsz prog 12 = some 1 ∧ tby prog 12 = some 8 ∧ tz prog 12 = some [(.v (.int .u64 0))] ∧ zbf prog 12 = some false ∧ tz1 prog 12 = some (.int .u64 0) := by and_intros <;> kernel_rfl
@[go_sem] theorem t_16 : tk prog 16 = .ptr 364 ∧ tsz prog 16 = some 1 ∧ tby prog 16 = some 8 ∧ tz prog 16 = some [(.v (.pointer .none))] ∧ zbf prog 16 = some false := by and_intros <;> kernel_rfl
@[go_sem] theorem t_20 : tk prog 20 = .other ∧ tsz prog 20 = some 1 ∧ tby prog 20 = some 16 ∧ tz prog 20 = some [(.v .nilIface)] ∧ zbf prog 20 = some false := by and_intros <;> kernel_rfl
@[go_sem] theorem t_22 : tk prog 22 = .sl 5 ∧ tsz prog 22 = some 1 ∧ tby prog 22 = some 24 ∧ tz prog 22 = some [(.v (.slice .none 0 0))] ∧ zbf prog 22 = some false := by and_intros <;> kernel_rfl
@[go_sem] theorem t_23 : tk prog 23 = .arr 2 22 ∧ tsz prog 23 = some 2 ∧ tby prog 23 = some 48 ∧ tz prog 23 = some [(.v (.slice .none 0 0)), (.v (.slice .none 0 0))] ∧ zbf prog 23 = some true := by and_intros <;> kernel_rfl
@[go_sem] theorem t_24 : tk prog 24 = .sl 85 ∧ tsz prog 24 = some 1 ∧ tby prog 24 = some 24 ∧ tz prog 24 = some [(.v (.slice .none 0 0))] ∧ zbf prog 24 = some false := by and_intros <;> kernel_rfl
@[go_sem] theorem t_25 : tk prog 25 = .arr 6 5 ∧ tsz prog 25 = some 6 ∧ tby prog 25 = some 6 ∧ tz prog 25 = some [(.v (.int .u8 0)), (.v (.int .u8 0)), (.v (.int .u8 0)), (.v (.int .u8 0)), (.v (.int .u8 0)), (.v (.int .u8 0))] ∧ zbf prog 25 = some true := by and_intros <;> kernel_rfl
@[go_sem] theorem t_27 : tk prog 27 = .str ∧ tsz prog 27 = some 12 ∧ tby prog 27 = some 88 ∧ tz prog 27 = some [(.v (.int .u8 0)), (.v (.int .u8 0)), (.v (.int .u8 0)), (.v (.slice .none 0 0)), (.v (.slice .none 0 0)), (.v (.slice .none 0 0)), (.v (.int .u8 0)), (.v (.int .u8 0)), (.v (.int .u8 0)), (.v (.int .u8 0)), (.v (.int .u8 0)), (.v (.int .u8 0))] ∧ zbf prog 27 = some true ∧ tfi prog 27 = true ∧ zca prog 27 0 = some 5 ∧ zbZ prog 27 0 = some 0 ∧ zca prog 27 1 = some 5 ∧ zbZ prog 27 1 = some 1 ∧ zca prog 27 2 = some 5 ∧ zbZ prog 27 2 = some 2 ∧ zca prog 27 3 = some 23 ∧ zbZ prog 27 3 = some 3 ∧ zca prog 27 4 = some 24 ∧ zbZ prog 27 4 = some 5 ∧ zca prog 27 5 = some 25 ∧ zbZ prog 27 5 = some 6 := by and_intros <;> kernel_rfl
@[go_sem] theorem t_28 : tk prog 28 = .arr 4 5 ∧ tsz prog 28 = some 4 ∧ tby prog 28 = some 4 ∧ tz prog 28 = some [(.v (.int .u8 0)), (.v (.int .u8 0)), (.v (.int .u8 0)), (.v (.int .u8 0))] ∧ zbf prog 28 = some true := by and_intros <;> kernel_rfl
@[go_sem] theorem t_30 : tk prog 30 = .str ∧ tsz prog 30 = some 18 ∧ tby prog 30 = some 18 ∧ tz prog 30 = some [(.v (.int .u8 0)), (.v (.int .u8 0)), (.v (.int .u8 0)), (.v (.int .u8 0)), (.v (.int .u8 0)), (.v (.int .u8 0)), (.v (.int .u8 0)), (.v (.int .u8 0)), (.v (.int .u8 0)), (.v (.int .u8 0)), (.v (.int .u8 0)), (.v (.int .u8 0)), (.v (.int .u8 0)), (.v (.int .u8 0)), (.v (.int .u8 0)), (.v (.int .u8 0)), (.v (.int .u8 0)), (.v (.int .u8 0))] ∧ zbf prog 30 = some true ∧ tfi prog 30 = true ∧ zca prog 30 0 = some 25 ∧ zbZ prog 30 0 = some 0 ∧ zca prog 30 1 = some 25 ∧ zbZ prog 30 1 = some 6 ∧ zca prog 30 2 = some 28 ∧ zbZ prog 30 2 = some 12 ∧ zca prog 30 3 = some 5 ∧ zbZ prog 30 3 = some 16 ∧ zca prog 30 4 = some 5 ∧ zbZ prog 30 4 = some 17 := by and_intros <;> kernel_rfl
@[go_sem] theorem t_32 : tk prog 32 = .sl 33 ∧ tsz prog 32 = some 1 ∧ tby prog 32 = some 24 ∧ tz prog 32 = some [(.v (.slice .none 0 0))] ∧ zbf prog 32 = some false := by and_intros <;> kernel_rfl
@[go_sem] theorem t_33 : tk prog 33 = .sl 3 ∧ tsz prog 33 = some 1 ∧ tby prog 33 = some 24 ∧ tz prog 33 = some [(.v (.slice .none 0 0))] ∧ zbf prog 33 = some false := by and_intros <;> kernel_rfl
@[go_sem] theorem t_35 : tk prog 35 = .str ∧ tsz prog 35 = some 3 ∧ tby prog 35 = some 56 ∧ tz prog 35 = some [(.v (.int .i64 0)), (.v (.slice .none 0 0)), (.v (.slice .none 0 0))] ∧ zbf prog 35 = some true ∧ tfi prog 35 = true ∧ zca prog 35 0 = some 3 ∧ zbZ prog 35 0 = some 0 ∧ zca prog 35 1 = some 32 ∧ zbZ prog 35 1 = some 1 ∧ zca prog 35 2 = some 33 ∧ zbZ prog 35 2 = some 2 := by and_intros <;> kernel_rfl
@[go_sem] theorem t_36 : tk prog 36 = .sl 107 ∧ tsz prog 36 = some 1 ∧ tby prog 36 = some 24 ∧ tz prog 36 = some [(.v (.slice .none 0 0))] ∧ zbf prog 36 = some false := by and_intros <;> kernel_rfl
@[go_sem] theorem t_37 : tk prog 37 = .sl 78 ∧ tsz prog 37 = some 1 ∧ tby prog 37 = some 24 ∧ tz prog 37 = some [(.v (.slice .none 0 0))] ∧ zbf prog 37 = some false := by and_intros <;> kernel_rfl
@[go_sem] theorem t_39 : tk prog 39 = .str ∧ tsz prog 39 = some 9 ∧ tby prog 39 = some 136 ∧ tz prog 39 = some [(.v (.int .i64 0)), (.v (.slice .none 0 0)), (.v (.slice .none 0 0)), (.v (.slice .none 0 0)), (.v (.int .i64 0)), (.v (.bool false)), (.v (.slice .none 0 0)), (.v (.int .i64 0)), (.v (.int .i64 0))] ∧ zbf prog 39 = some true ∧ tfi prog 39 = true ∧ zca prog 39 0 = some 35 ∧ zbZ prog 39 0 = some 0 ∧ zca prog 39 1 = some 36 ∧ zbZ prog 39 1 = some 3 ∧ zca prog 39 2 = some 3 ∧ zbZ prog 39 2 = some 4 ∧ zca prog 39 3 = some 4 ∧ zbZ prog 39 3 = some 5 ∧ zca prog 39 4 = some 37 ∧ zbZ prog 39 4 = some 6 ∧ zca prog 39 5 = some 3 ∧ zbZ prog 39 5 = some 7 ∧ zca prog 39 6 = some 3 ∧ zbZ prog 39 6 = some 8 := by and_intros <;> kernel_rfl
@[go_sem] theorem t_43 : tk prog 43 = .arr 2 33 ∧ tsz prog 43 = some 2 ∧ tby prog 43 = some 48 ∧ tz prog 43 = some [(.v (.slice .none 0 0)), (.v (.slice .none 0 0))] ∧ zbf prog 43 = some true := by and_intros <;> kernel_rfl
@[go_sem] theorem t_45 : tk prog 45 = .str ∧ tsz prog 45 = some 5 ∧ tby prog 45 = some 88 ∧ tz prog 45 = some [(.v (.slice .none 0 0)), (.v (.slice .none 0 0)), (.v (.slice .none 0 0)), (.v (.int .i64 0)), (.v (.int .i64 0))] ∧ zbf prog 45 = some true ∧ tfi prog 45 = true ∧ zca prog 45 0 = some 33 ∧ zbZ prog 45 0 = some 0 ∧ zca prog 45 1 = some 43 ∧ zbZ prog 45 1 = some 1 ∧ zca prog 45 2 = some 3 ∧ zbZ prog 45 2 = some 3 ∧ zca prog 45 3 = some 3 ∧ zbZ prog 45 3 = some 4 := by and_intros <;> kernel_rfl
@[go_sem] theorem t_47 : tk prog 47 = .sl 45 ∧ tsz prog 47 = some 1 ∧ tby prog 47 = some 24 ∧ tz prog 47 = some [(.v (.slice .none 0 0))] ∧ zbf prog 47 = some false := by and_intros <;> kernel_rfl
@[go_sem] theorem t_48 : tk prog 48 = .int .i64 ∧ tsz prog 48 = some 1 ∧ tby prog 48 = some 8 ∧ tz prog 48 = some [(.v (.int .i64 0))] ∧ zbf prog 48 = some false ∧ tz1 prog 48 = some (.int .i64 0) := by and_intros <;> kernel_rfl
@[go_sem] theorem t_49 : tk prog 49 = .other ∧ tsz prog 49 = some 1 ∧ tby prog 49 = some 0 ∧ zbf prog 49 = some false := by and_intros <;> kernel_rfl
@[go_sem] theorem t_62 : tk prog 62 = .other ∧ tsz prog 62 = some 1 ∧ tby prog 62 = some 0 ∧ zbf prog 62 = some false := by and_intros <;> kernel_rfl
@[go_sem] theorem t_64 : tk prog 64 = .str ∧ tsz prog 64 = some 31 ∧ tby prog 64 = some 136 ∧ tz prog 64 = some [(.v (.int .u8 0)), (.v (.int .u8 0)), (.v (.int .u8 0)), (.v (.slice .none 0 0)), (.v (.slice .none 0 0)), (.v (.slice .none 0 0)), (.v (.int .u8 0)), (.v (.int .u8 0)), (.v (.int .u8 0)), (.v (.int .u8 0)), (.v (.int .u8 0)), (.v (.int .u8 0)), (.v (.int .u8 0)), (.v (.int .u8 0)), (.v (.int .u8 0)), (.v (.int .u8 0)), (.v (.int .u8 0)), (.v (.int .u8 0)), (.v (.int .u8 0)), (.v (.int .u8 0)), (.v (.int .u8 0)), (.v (.int .u8 0)), (.v (.int .u8 0)), (.v (.int .u8 0)), (.v (.int .u8 0)), (.v (.int .u8 0)), (.v (.int .u8 0)), (.v (.int .u8 0)), (.v (.int .u8 0)), (.v (.int .u8 0)), (.v (.slice .none 0 0))] ∧ zbf prog 64 = some true ∧ tfi prog 64 = true ∧ zca prog 64 0 = some 27 ∧ zbZ prog 64 0 = some 0 ∧ zca prog 64 1 = some 30 ∧ zbZ prog 64 1 = some 12 ∧ zca prog 64 2 = some 22 ∧ zbZ prog 64 2 = some 30 := by and_intros <;> kernel_rfl
@[go_sem] theorem t_65 : tk prog 65 = .str ∧ tsz prog 65 = some 31 ∧ tby prog 65 = some 136 ∧ tz prog 65 = some [(.v (.int .u8 0)), (.v (.int .u8 0)), (.v (.int .u8 0)), (.v (.slice .none 0 0)), (.v (.slice .none 0 0)), (.v (.slice .none 0 0)), (.v (.int .u8 0)), (.v (.int .u8 0)), (.v (.int .u8 0)), (.v (.int .u8 0)), (.v (.int .u8 0)), (.v (.int .u8 0)), (.v (.int .u8 0)), (.v (.int .u8 0)), (.v (.int .u8 0)), (.v (.int .u8 0)), (.v (.int .u8 0)), (.v (.int .u8 0)), (.v (.int .u8 0)), (.v (.int .u8 0)), (.v (.int .u8 0)), (.v (.int .u8 0)), (.v (.int .u8 0)), (.v (.int .u8 0)), (.v (.int .u8 0)), (.v (.int .u8 0)), (.v (.int .u8 0)), (.v (.int .u8 0)), (.v (.int .u8 0)), (.v (.int .u8 0)), (.v (.slice .none 0 0))] ∧ zbf prog 65 = some true ∧ tfi prog 65 = true ∧ zca prog 65 0 = some 27 ∧ zbZ prog 65 0 = some 0 ∧ zca prog 65 1 = some 30 ∧ zbZ prog 65 1 = some 12 ∧ zca prog 65 2 = some 22 ∧ zbZ prog 65 2 = some 30 := by and_intros <;> kernel_rfl
@[go_sem] theorem t_66 : tk prog 66 = .other ∧ tsz prog 66 = some 1 ∧ tby prog 66 = some 0 ∧ zbf prog 66 = some false := by and_intros <;> kernel_rfl
@[go_sem] theorem t_70 : tk prog 70 = .str ∧ tsz prog 70 = some 2 ∧ tby prog 70 = some 32 ∧ tz prog 70 = some [(.v (.slice .none 0 0)), (.v (.int .i64 0))] ∧ zbf prog 70 = some true ∧ tfi prog 70 = true ∧ zca prog 70 0 = some 47 ∧ zbZ prog 70 0 = some 0 ∧ zca prog 70 1 = some 48 ∧ zbZ prog 70 1 = some 1 := by and_intros <;> kernel_rfl
@[go_sem] theorem t_78 : tk prog 78 = .str ∧ tsz prog 78 = some 4 ∧ tby prog 78 = some 32 ∧ tz prog 78 = some [(.v (.int .i64 0)), (.v (.int .i64 0)), (.v (.int .i64 0)), (.v (.int .i64 0))] ∧ zbf prog 78 = some true ∧ tfi prog 78 = true ∧ zoF prog 78 = some [false, false, false, false] ∧ zca prog 78 0 = some 3 ∧ zbZ prog 78 0 = some 0 ∧ zca prog 78 1 = some 3 ∧ zbZ prog 78 1 = some 1 ∧ zca prog 78 2 = some 3 ∧ zbZ prog 78 2 = some 2 ∧ zca prog 78 3 = some 3 ∧ zbZ prog 78 3 = some 3 := by and_intros <;> kernel_rfl
@[go_sem] theorem t_80 : tk prog 80 = .other ∧ tsz prog 80 = some 1 ∧ tby prog 80 = some 8 ∧ tz prog 80 = some [(.v .nilFunc)] ∧ zbf prog 80 = some false := by and_intros <;> kernel_rfl
@[go_sem] theorem t_81 : tk prog 81 = .int .u16 ∧ tsz prog 81 = some 1 ∧ tby prog 81 = some 2 ∧ tz prog 81 = some [(.v (.int .u16 0))] ∧ zbf prog 81 = some false ∧ tz1 prog 81 = some (.int .u16 0) := by and_intros <;> kernel_rfl
@[go_sem] theorem t_85 : tk prog 85 = .arr 3 5 ∧ tsz prog 85 = some 3 ∧ tby prog 85 = some 3 ∧ tz prog 85 = some [(.v (.int .u8 0)), (.v (.int .u8 0)), (.v (.int .u8 0))] ∧ zbf prog 85 = some true := by and_intros <;> kernel_rfl
@[go_sem] theorem t_105 : tk prog 105 = .sl 116 ∧ tsz prog 105 = some 1 ∧ tby prog 105 = some 24 ∧ tz prog 105 = some [(.v (.slice .none 0 0))] ∧ zbf prog 105 = some false := by and_intros <;> kernel_rfl
@[go_sem] theorem t_107 : tk prog 107 = .str ∧ tsz prog 107 = some 3 ∧ tby prog 107 = some 48 ∧ tz prog 107 = some [(.v (.string ⟨⟨[]⟩⟩)), (.v (.slice .none 0 0)), (.v (.bool false))] ∧ zbf prog 107 = some true ∧ tfi prog 107 = true ∧ zca prog 107 0 = some 9 ∧ zbZ prog 107 0 = some 0 ∧ zca prog 107 1 = some 105 ∧ zbZ prog 107 1 = some 1 ∧ zca prog 107 2 = some 4 ∧ zbZ prog 107 2 = some 2 := by and_intros <;> kernel_rfl
@[go_sem] theorem t_108 : tk prog 108 = .sl 112 ∧ tsz prog 108 = some 1 ∧ tby prog 108 = some 24 ∧ tz prog 108 = some [(.v (.slice .none 0 0))] ∧ zbf prog 108 = some false := by and_intros <;> kernel_rfl
@[go_sem] theorem t_109 : tk prog 109 = .other ∧ tsz prog 109 = some 1 ∧ tby prog 109 = some 0 ∧ zbf prog 109 = some false := by and_intros <;> kernel_rfl
@[go_sem] theorem t_112 : tk prog 112 = .str ∧ tsz prog 112 = some 6 ∧ tby prog 112 = some 96 ∧ tz prog 112 = some [(.v (.slice .none 0 0)), (.v (.slice .none 0 0)), (.v (.slice .none 0 0)), (.v (.int .i64 0)), (.v (.int .i64 0)), (.v (.bool false))] ∧ zbf prog 112 = some true ∧ tfi prog 112 = true ∧ zca prog 112 0 = some 45 ∧ zbZ prog 112 0 = some 0 ∧ zca prog 112 1 = some 4 ∧ zbZ prog 112 1 = some 5 := by and_intros <;> kernel_rfl
@[go_sem] theorem t_114 : tk prog 114 = .str ∧ tsz prog 114 = some 2 ∧ tby prog 114 = some 16 ∧ tz prog 114 = some [(.v (.int .i64 0)), (.v (.int .i64 0))] ∧ zbf prog 114 = some true ∧ tfi prog 114 = true ∧ zoF prog 114 = some [false, false] ∧ zca prog 114 0 = some 3 ∧ zbZ prog 114 0 = some 0 ∧ zca prog 114 1 = some 3 ∧ zbZ prog 114 1 = some 1 := by and_intros <;> kernel_rfl
@[go_sem] theorem t_116 : tk prog 116 = .sl 114 ∧ tsz prog 116 = some 1 ∧ tby prog 116 = some 24 ∧ tz prog 116 = some [(.v (.slice .none 0 0))] ∧ zbf prog 116 = some false := by and_intros <;> kernel_rfl
@[go_sem] theorem t_120 : tk prog 120 = .other ∧ tsz prog 120 = some 1 ∧ tby prog 120 = some 8 ∧ tz prog 120 = some [(.v .nilFunc)] ∧ zbf prog 120 = some false := by and_intros <;> kernel_rfl
@[go_sem] theorem t_124 : tk prog 124 = .sl 9 ∧ tsz prog 124 = some 1 ∧ tby prog 124 = some 24 ∧ tz prog 124 = some [(.v (.slice .none 0 0))] ∧ zbf prog 124 = some false := by and_intros <;> kernel_rfl
@[go_sem] theorem t_127 : tk prog 127 = .sl 139 ∧ tsz prog 127 = some 1 ∧ tby prog 127 = some 24 ∧ tz prog 127 = some [(.v (.slice .none 0 0))] ∧ zbf prog 127 = some false := by and_intros <;> kernel_rfl
@[go_sem] theorem t_128 : tk prog 128 = .arr 2 127 ∧ tsz prog 128 = some 2 ∧ tby prog 128 = some 48 ∧ tz prog 128 = some [(.v (.slice .none 0 0)), (.v (.slice .none 0 0))] ∧ zbf prog 128 = some true := by and_intros <;> kernel_rfl
@[go_sem] theorem t_130 : tk prog 130 = .str ∧ tsz prog 130 = some 2 ∧ tby prog 130 = some 48 ∧ tz prog 130 = some [(.v (.slice .none 0 0)), (.v (.slice .none 0 0))] ∧ zbf prog 130 = some true ∧ tfi prog 130 = true ∧ zca prog 130 0 = some 128 ∧ zbZ prog 130 0 = some 0 := by and_intros <;> kernel_rfl
@[go_sem] theorem t_134 : tk prog 134 = .other ∧ tsz prog 134 = some 1 ∧ tby prog 134 = some 8 ∧ tz prog 134 = some [(.v .nilFunc)] ∧ zbf prog 134 = some false := by and_intros <;> kernel_rfl
@[go_sem] theorem t_135 : tk prog 135 = .other ∧ tsz prog 135 = some 1 ∧ tby prog 135 = some 8 ∧ tz prog 135 = some [(.v .nilFunc)] ∧ zbf prog 135 = some false := by and_intros <;> kernel_rfl
@[go_sem] theorem t_139 : tk prog 139 = .sl 140 ∧ tsz prog 139 = some 1 ∧ tby prog 139 = some 24 ∧ tz prog 139 = some [(.v (.slice .none 0 0))] ∧ zbf prog 139 = some false := by and_intros <;> kernel_rfl
@[go_sem] theorem t_140 : tk prog 140 = .sl 143 ∧ tsz prog 140 = some 1 ∧ tby prog 140 = some 24 ∧ tz prog 140 = some [(.v (.slice .none 0 0))] ∧ zbf prog 140 = some false := by and_intros <;> kernel_rfl
@[go_sem] theorem t_141 : tk prog 141 = .sl 146 ∧ tsz prog 141 = some 1 ∧ tby prog 141 = some 24 ∧ tz prog 141 = some [(.v (.slice .none 0 0))] ∧ zbf prog 141 = some false := by and_intros <;> kernel_rfl
@[go_sem] theorem t_143 : tk prog 143 = .str ∧ tsz prog 143 = some 2 ∧ tby prog 143 = some 32 ∧ tz prog 143 = some [(.v (.slice .none 0 0)), (.v (.int .i64 0))] ∧ zbf prog 143 = some true ∧ tfi prog 143 = true ∧ zca prog 143 0 = some 141 ∧ zbZ prog 143 0 = some 0 ∧ zca prog 143 1 = some 3 ∧ zbZ prog 143 1 = some 1 := by and_intros <;> kernel_rfl
@[go_sem] theorem t_146 : tk prog 146 = .str ∧ tsz prog 146 = some 3 ∧ tby prog 146 = some 24 ∧ tz prog 146 = some [(.v (.int .i64 0)), (.v (.int .i64 0)), (.v (.int .i64 0))] ∧ zbf prog 146 = some true ∧ tfi prog 146 = true ∧ zoF prog 146 = some [false, false, false] ∧ zca prog 146 0 = some 3 ∧ zbZ prog 146 0 = some 0 ∧ zca prog 146 1 = some 3 ∧ zbZ prog 146 1 = some 1 ∧ zca prog 146 2 = some 3 ∧ zbZ prog 146 2 = some 2 := by and_intros <;> kernel_rfl
@[go_sem] theorem t_154 : tk prog 154 = .other ∧ tsz prog 154 = some 1 ∧ tby prog 154 = some 8 ∧ tz prog 154 = some [(.v .nilFunc)] ∧ zbf prog 154 = some false := by and_intros <;> kernel_rfl
@[go_sem] theorem t_179 : tk prog 179 = .other ∧ tsz prog 179 = some 1 ∧ tby prog 179 = some 8 ∧ tz prog 179 = some [(.v .nilFunc)] ∧ zbf prog 179 = some false := by and_intros <;> kernel_rfl
@[go_sem] theorem t_184 : tk prog 184 = .str ∧ tsz prog 184 = some 8 ∧ tby prog 184 = some 112 ∧ tz prog 184 = some [(.v (.slice .none 0 0)), (.v (.slice .none 0 0)), (.v (.slice .none 0 0)), (.v (.int .i64 0)), (.v (.int .i64 0)), (.v (.int .i64 0)), (.v (.int .i64 0)), (.v (.bool false))] ∧ zbf prog 184 = some true ∧ tfi prog 184 = true ∧ zca prog 184 0 = some 45 ∧ zbZ prog 184 0 = some 0 ∧ zca prog 184 1 = some 3 ∧ zbZ prog 184 1 = some 5 ∧ zca prog 184 2 = some 3 ∧ zbZ prog 184 2 = some 6 ∧ zca prog 184 3 = some 4 ∧ zbZ prog 184 3 = some 7 := by and_intros <;> kernel_rfl
@[go_sem] theorem t_186 : tk prog 186 = .other ∧ tsz prog 186 = some 1 ∧ tby prog 186 = some 8 ∧ tz prog 186 = some [(.v .nilFunc)] ∧ zbf prog 186 = some false := by and_intros <;> kernel_rfl
@[go_sem] theorem t_188 : tk prog 188 = .other ∧ tsz prog 188 = some 1 ∧ tby prog 188 = some 8 ∧ tz prog 188 = some [(.v .nilFunc)] ∧ zbf prog 188 = some false := by and_intros <;> kernel_rfl
@[go_sem] theorem t_190 : tk prog 190 = .other ∧ tsz prog 190 = some 1 ∧ tby prog 190 = some 8 ∧ tz prog 190 = some [(.v .nilFunc)] ∧ zbf prog 190 = some false := by and_intros <;> kernel_rfl
@[go_sem] theorem t_194 : tk prog 194 = .other ∧ tsz prog 194 = some 1 ∧ tby prog 194 = some 0 ∧ zbf prog 194 = some false := by and_intros <;> kernel_rfl
@[go_sem] theorem t_200 : tk prog 200 = .other ∧ tsz prog 200 = some 1 ∧ tby prog 200 = some 8 ∧ tz prog 200 = some [(.v .nilFunc)] ∧ zbf prog 200 = some false := by and_intros <;> kernel_rfl
@[go_sem] theorem t_201 : tk prog 201 = .arr 4 200 ∧ tsz prog 201 = some 4 ∧ tby prog 201 = some 32 ∧ tz prog 201 = some [(.v .nilFunc), (.v .nilFunc), (.v .nilFunc), (.v .nilFunc)] ∧ zbf prog 201 = some true := by and_intros <;> kernel_rfl
@[go_sem] theorem t_202 : tk prog 202 = .other ∧ tsz prog 202 = some 1 ∧ tby prog 202 = some 8 ∧ tz prog 202 = some [(.v .nilFunc)] ∧ zbf prog 202 = some false := by and_intros <;> kernel_rfl
@[go_sem] theorem t_203 : tk prog 203 = .other ∧ tsz prog 203 = some 1 ∧ tby prog 203 = some 0 ∧ zbf prog 203 = some false := by and_intros <;> kernel_rfl
@[go_sem] theorem t_208 : tk prog 208 = .str ∧ tsz prog 208 = some 9 ∧ tby prog 208 = some 136 ∧ tz prog 208 = some [(.v (.int .i64 0)), (.v (.slice .none 0 0)), (.v (.slice .none 0 0)), (.v (.slice .none 0 0)), (.v (.int .i64 0)), (.v (.bool false)), (.v (.slice .none 0 0)), (.v (.int .i64 0)), (.v (.int .i64 0))] ∧ zbf prog 208 = some true ∧ tfi prog 208 = true ∧ zca prog 208 0 = some 39 ∧ zbZ prog 208 0 = some 0 := by and_intros <;> kernel_rfl
@[go_sem] theorem t_211 : tk prog 211 = .other ∧ tsz prog 211 = some 1 ∧ tby prog 211 = some 8 ∧ tz prog 211 = some [(.v .nilFunc)] ∧ zbf prog 211 = some false := by and_intros <;> kernel_rfl
@[go_sem] theorem t_214 : tk prog 214 = .str ∧ tsz prog 214 = some 2 ∧ tby prog 214 = some 16 ∧ tz prog 214 = some [(.v (.int .i64 0)), (.v (.int .i64 0))] ∧ zbf prog 214 = some true ∧ tfi prog 214 = true ∧ zoF prog 214 = some [false, false] ∧ zca prog 214 0 = some 3 ∧ zbZ prog 214 0 = some 0 ∧ zca prog 214 1 = some 3 ∧ zbZ prog 214 1 = some 1 := by and_intros <;> kernel_rfl
@[go_sem] theorem t_219 : tk prog 219 = .int .u64 ∧ tsz prog 219 = some 1 ∧ tby prog 219 = some 8 ∧ tz prog 219 = some [(.v (.int .u64 0))] ∧ zbf prog 219 = some false ∧ tz1 prog 219 = some (.int .u64 0) := by and_intros <;> kernel_rfl
@[go_sem] theorem t_225 : tk prog 225 = .other ∧ tsz prog 225 = some 1 ∧ tby prog 225 = some 8 ∧ tz prog 225 = some [(.v .nilFunc)] ∧ zbf prog 225 = some false := by and_intros <;> kernel_rfl
@[go_sem] theorem t_226 : tk prog 226 = .other ∧ tsz prog 226 = some 1 ∧ tby prog 226 = some 8 ∧ tz prog 226 = some [(.v .nilFunc)] ∧ zbf prog 226 = some false := by and_intros <;> kernel_rfl
@[go_sem] theorem t_230 : tk prog 230 = .map 9 4 ∧ tsz prog 230 = some 1 ∧ tby prog 230 = some 8 ∧ tz prog 230 = some [(.v (.map .none))] ∧ zbf prog 230 = some false := by and_intros <;> kernel_rfl
@[go_sem] theorem t_234 : tk prog 234 = .sl 184 ∧ tsz prog 234 = some 1 ∧ tby prog 234 = some 24 ∧ tz prog 234 = some [(.v (.slice .none 0 0))] ∧ zbf prog 234 = some false := by and_intros <;> kernel_rfl
@[go_sem] theorem t_239 : tk prog 239 = .map 4 3 ∧ tsz prog 239 = some 1 ∧ tby prog 239 = some 8 ∧ tz prog 239 = some [(.v (.map .none))] ∧ zbf prog 239 = some false := by and_intros <;> kernel_rfl
@[go_sem] theorem t_254 : tk prog 254 = .other ∧ tsz prog 254 = some 1 ∧ tby prog 254 = some 8 ∧ tz prog 254 = some [(.v .nilFunc)] ∧ zbf prog 254 = some false := by and_intros <;> kernel_rfl
@[go_sem] theorem t_267 : tk prog 267 = .other ∧ tsz prog 267 = some 1 ∧ tby prog 267 = some 8 ∧ tz prog 267 = some [(.v .nilFunc)] ∧ zbf prog 267 = some false := by and_intros <;> kernel_rfl
@[go_sem] theorem t_269 : tk prog 269 = .arr 11 267 ∧ tsz prog 269 = some 11 ∧ tby prog 269 = some 88 ∧ tz prog 269 = some [(.v .nilFunc), (.v .nilFunc), (.v .nilFunc), (.v .nilFunc), (.v .nilFunc), (.v .nilFunc), (.v .nilFunc), (.v .nilFunc), (.v .nilFunc), (.v .nilFunc), (.v .nilFunc)] ∧ zbf prog 269 = some true := by and_intros <;> kernel_rfl
@[go_sem] theorem t_273 : tk prog 273 = .int .i64 ∧ tsz prog 273 = some 1 ∧ tby prog 273 = some 8 ∧ tz prog 273 = some [(.v (.int .i64 0))] ∧ zbf prog 273 = some false ∧ tz1 prog 273 = some (.int .i64 0) := by and_intros <;> kernel_rfl
@[go_sem] theorem t_274 : tk prog 274 = .other ∧ tsz prog 274 = some 1 ∧ tby prog 274 = some 0 ∧ zbf prog 274 = some false := by and_intros <;> kernel_rfl
@[go_sem] theorem t_280 : tk prog 280 = .int .u32 ∧ tsz prog 280 = some 1 ∧ tby prog 280 = some 4 ∧ tz prog 280 = some [(.v (.int .u32 0))] ∧ zbf prog 280 = some false ∧ tz1 prog 280 = some (.int .u32 0) := by and_intros <;> kernel_rfl
@[go_sem] theorem t_282 : tk prog 282 = .int .u64 ∧ tsz prog 282 = some 1 ∧ tby prog 282 = some 8 ∧ tz prog 282 = some [(.v (.int .u64 0))] ∧ zbf prog 282 = some false ∧ tz1 prog 282 = some (.int .u64 0) := by and_intros <;> kernel_rfl
@[go_sem] theorem t_303 : tk prog 303 = .other ∧ tsz prog 303 = some 1 ∧ tby prog 303 = some 8 ∧ tz prog 303 = some [(.v .nilFunc)] ∧ zbf prog 303 = some false := by and_intros <;> kernel_rfl
@[go_sem] theorem t_313 : tk prog 313 = .int .u64 ∧ tsz prog 313 = some 1 ∧ tby prog 313 = some 8 ∧ tz prog 313 = some [(.v (.int .u64 0))] ∧ zbf prog 313 = some false ∧ tz1 prog 313 = some (.int .u64 0) := by and_intros <;> kernel_rfl
@[go_sem] theorem t_317 : tk prog 317 = .ptr 3 ∧ tsz prog 317 = some 1 ∧ tby prog 317 = some 8 ∧ tz prog 317 = some [(.v (.pointer .none))] ∧ zbf prog 317 = some false := by and_intros <;> kernel_rfl
@[go_sem] theorem t_326 : tk prog 326 = .sl 141 ∧ tsz prog 326 = some 1 ∧ tby prog 326 = some 24 ∧ tz prog 326 = some [(.v (.slice .none 0 0))] ∧ zbf prog 326 = some false := by and_intros <;> kernel_rfl
@[go_sem] theorem t_328 : tk prog 328 = .other ∧ tsz prog 328 = some 1 ∧ tby prog 328 = some 8 ∧ tz prog 328 = some [(.v .nilFunc)] ∧ zbf prog 328 = some false := by and_intros <;> kernel_rfl
@[go_sem] theorem t_329 : tk prog 329 = .other ∧ tsz prog 329 = some 1 ∧ tby prog 329 = some 8 ∧ tz prog 329 = some [(.v .nilFunc)] ∧ zbf prog 329 = some false := by and_intros <;> kernel_rfl
@[go_sem] theorem t_332 : tk prog 332 = .sl 336 ∧ tsz prog 332 = some 1 ∧ tby prog 332 = some 24 ∧ tz prog 332 = some [(.v (.slice .none 0 0))] ∧ zbf prog 332 = some false := by and_intros <;> kernel_rfl
@[go_sem] theorem t_334 : tk prog 334 = .str ∧ tsz prog 334 = some 2 ∧ tby prog 334 = some 32 ∧ tz prog 334 = some [(.v (.slice .none 0 0)), (.v (.int .i64 0))] ∧ zbf prog 334 = some true ∧ tfi prog 334 = true ∧ zca prog 334 0 = some 332 ∧ zbZ prog 334 0 = some 0 ∧ zca prog 334 1 = some 48 ∧ zbZ prog 334 1 = some 1 := by and_intros <;> kernel_rfl
@[go_sem] theorem t_336 : tk prog 336 = .sl 338 ∧ tsz prog 336 = some 1 ∧ tby prog 336 = some 24 ∧ tz prog 336 = some [(.v (.slice .none 0 0))] ∧ zbf prog 336 = some false := by and_intros <;> kernel_rfl
@[go_sem] theorem t_338 : tk prog 338 = .str ∧ tsz prog 338 = some 8 ∧ tby prog 338 = some 112 ∧ tz prog 338 = some [(.v (.slice .none 0 0)), (.v (.slice .none 0 0)), (.v (.slice .none 0 0)), (.v (.int .i64 0)), (.v (.int .i64 0)), (.v (.int .i64 0)), (.v (.int .i64 0)), (.v (.bool false))] ∧ zbf prog 338 = some true ∧ tfi prog 338 = true ∧ zca prog 338 0 = some 45 ∧ zbZ prog 338 0 = some 0 ∧ zca prog 338 1 = some 3 ∧ zbZ prog 338 1 = some 5 ∧ zca prog 338 2 = some 3 ∧ zbZ prog 338 2 = some 6 ∧ zca prog 338 3 = some 4 ∧ zbZ prog 338 3 = some 7 := by and_intros <;> kernel_rfl
@[go_sem] theorem t_341 : tk prog 341 = .ptr 313 ∧ tsz prog 341 = some 1 ∧ tby prog 341 = some 8 ∧ tz prog 341 = some [(.v (.pointer .none))] ∧ zbf prog 341 = some false := by and_intros <;> kernel_rfl
@[go_sem] theorem t_347 : tk prog 347 = .arr 24 5 ∧ tsz prog 347 = some 24 ∧ tby prog 347 = some 24 ∧ tz prog 347 = some [(.v (.int .u8 0)), (.v (.int .u8 0)), (.v (.int .u8 0)), (.v (.int .u8 0)), (.v (.int .u8 0)), (.v (.int .u8 0)), (.v (.int .u8 0)), (.v (.int .u8 0)), (.v (.int .u8 0)), (.v (.int .u8 0)), (.v (.int .u8 0)), (.v (.int .u8 0)), (.v (.int .u8 0)), (.v (.int .u8 0)), (.v (.int .u8 0)), (.v (.int .u8 0)), (.v (.int .u8 0)), (.v (.int .u8 0)), (.v (.int .u8 0)), (.v (.int .u8 0)), (.v (.int .u8 0)), (.v (.int .u8 0)), (.v (.int .u8 0)), (.v (.int .u8 0))] ∧ zbf prog 347 = some true := by and_intros <;> kernel_rfl
@[go_sem] theorem t_349 : tk prog 349 = .other ∧ tsz prog 349 = some 1 ∧ tby prog 349 = some 0 ∧ zbf prog 349 = some false := by and_intros <;> kernel_rfl
@[go_sem] theorem t_362 : tk prog 362 = .arr 0 16 ∧ tsz prog 362 = some 0 ∧ tby prog 362 = some 0 ∧ tz prog 362 = some [] ∧ zbf prog 362 = some true := by and_intros <;> kernel_rfl
@[go_sem] theorem t_364 : tk prog 364 = .str ∧ tsz prog 364 = some 0 ∧ tby prog 364 = some 0 ∧ tz prog 364 = some [] ∧ zbf prog 364 = some true ∧ tfi prog 364 = true ∧ zca prog 364 0 = some 362 ∧ zbZ prog 364 0 = .none := by and_intros <;> kernel_rfl
end Go.Av
end
section
open Go Go.Proofs
namespace Go.Av
def zb3 (n : Int) : List AV := [.v (.int .i64 n)]
def zas (l : List Int) : AV := .lst 1 (l.map zb3)
def zcr (l : List (List Int)) : AV := .lst 1 (l.map fun l => [zas l])
structure zgp where
 name : ByteArray
 progs : List (List (Int × Int))
 keep : Bool
 deriving Inhabited
structure zaf where
 cells : Int
 next : List (List Int)
 turn : List Int
 kinds : List zgp
 rights : Int
 must : Bool
 clauses : List (Int × Int × Int × Int)
 blocked : Int
 endless : Int
structure zaj where
 at_ : List Int
 h0 : List Int
 h1 : List Int
 rights : Int
 side : Int
 deriving DecidableEq
def zau (s : Int × Int) : List AV := [.v (.int .i64 s.1), .v (.int .i64 s.2)]
def zaY (k : zgp) : List AV := [.v (.string k.name), .lst 1 (k.progs.map fun p => [.lst 2 (p.map zau)]), .v (.bool k.keep)]
def za6 (c : Int × Int × Int × Int) : List AV := [.v (.int .i64 c.1), .v (.int .i64 c.2.1), .v (.int .i64 c.2.2.1), .v (.int .i64 c.2.2.2)]
def zab (g : zaf) : List AV := [.v (.int .i64 g.cells), zcr g.next, zas g.turn, .lst 3 (g.kinds.map zaY), .v (.int .i64 g.rights), .v (.bool g.must), .lst 4 (g.clauses.map za6), .v (.int .i64 g.blocked), .v (.int .i64 g.endless)]
def zad (p : zaj) : List AV := [zas p.at_, zas p.h0, zas p.h1, .v (.int .i64 p.rights), .v (.int .i64 p.side)]
attribute [go_sem] zb3 zas zcr zau zaY za6 zab zad
def zeR (l : List Int) : Prop := l.length ≤ 1099511627776
theorem zvW {n : Nat} {l : List Int} : (∀ r ∈ l.map zb3, ∀ c ∈ r, Bel n c) = True := by
 refine eq_true ?_
 intro r hr c hc
 obtain ⟨x, _, rfl⟩ := List.mem_map.1 hr
 simp only [zb3, List.mem_singleton] at hc
 subst hc; exact .v _
theorem zqA {n : Nat} {l : List Int} : Bel n (.lst 1 (l.map zb3)) = True := by rw [zcN, zvW]
attribute [go_sem high] zqA

def zba (a b : Int) : Int := if a < b then -1 else if b < a then 1 else 0
theorem ze6 (a b : Int) : zaC Tryz.prog 166 [.v (.int .i64 a), .v (.int .i64 b)] (.v (.int .i64 (zba a b))) := by
 refine pF Tryz.func166 ?_
 simp [go_sem]
 refine zyK (fun h => ?_) (fun h => ?_)
 ·simp at h
  simp [go_sem, zba, h]
 ·simp at h
  simp [go_sem]
  refine zyK (fun h2 => ?_) (fun h2 => ?_)
  ·simp at h2
   simp [go_sem, zba, h2, show ¬ a < b by omega]
  ·simp at h2
   simp [go_sem, zba, show ¬ b < a by omega, show ¬ a < b by omega]
def zey : List Int → List Int → Int
 | x :: a, y :: b => if x = y then zey a b else zba x y
 | a, b => zba a.length b.length
theorem zg0 (b : List Int) : zey [] b = zba 0 b.length := by cases b <;> rfl
theorem zgh (a : List Int) : zey a [] = zba a.length 0 := by cases a <;> rfl
theorem zjU (a b : List Int) (ha : zeR a) (hb : zeR b) : zaC Tryz.prog 165 [zas a, zas b] (.v (.int .i64 (zey a b))) := by
 refine pF Tryz.func165 ?_
 unfold zeR at ha hb
 simp [go_sem]
 refine zyI (zyN (α := Nat) (fun j => ⟨[(0, zas a), (1, zas b), (5, .v (.int .i64 j))], [], 0⟩)
  (fun d j => j + d = a.length ∧ j ≤ b.length ∧ zey a b = zey (a.drop j) (b.drop j)) ?_ a.length 0 ?_) ?_ ?_
 ·rintro d j ⟨i1, i2, i3⟩ hrec
  simp [go_sem]
  refine zyK (fun hj => ?_) (fun hj => ?_)
  ·simp at hj
   obtain ⟨hj1, hj2⟩ := hj
   have hd1 : a.drop j = nth a j :: a.drop (j + 1) := by rw [List.drop_eq_getElem_cons hj1, zaJ _ _ hj1]
   have hd2 : b.drop j = nth b j :: b.drop (j + 1) := by rw [List.drop_eq_getElem_cons hj2, zaJ _ _ hj2]
   rw [hd1, hd2, zey] at i3
   simp [go_sem]
   try ((with_reducible refine wZ ?_); (try simp [go_sem]))
   refine zza hj1 fun _ => ?_
   simp [go_sem, hj1]
   try ((with_reducible refine wZ ?_); (try simp [go_sem]))
   refine zza hj2 fun _ => ?_
   simp [go_sem, hj2]
   try ((with_reducible refine wZ ?_); (try simp [go_sem]))
   refine zkR.mk (by kernel_rfl) ?_
   simp [go_sem]
   refine zyK (fun he => ?_) (fun he => ?_)
   ·simp at he
    rw [if_neg he] at i3
    simp [go_sem]
    try ((with_reducible refine wZ ?_); (try simp [go_sem]))
    refine zza hj1 fun _ => ?_
    simp [go_sem, hj1]
    try ((with_reducible refine wZ ?_); (try simp [go_sem]))
    refine zza hj2 fun _ => ?_
    simp [go_sem, hj2]
    try ((with_reducible refine wZ ?_); (try simp [go_sem]))
    refine zyM (ze6 _ _) (by simp [go_sem]) ?_
    simp [go_sem]
    try ((with_reducible refine wZ ?_); (try simp [go_sem]))
    refine zkR.mk (by kernel_rfl) ?_
    simp [go_sem, i3]
   ·simp at he
    rw [if_pos he] at i3
    simp [go_sem]
    refine zy6 (by omega) fun _ => ?_
    simp [go_sem]
    refine zyI (hrec (d - 1) (by omega) (j + 1) ⟨by omega, by omega, i3⟩) ?_ (by simp)
    simp [go_sem, zah]
  ·simp at hj
   simp [go_sem]
   refine zyJ (ze6 _ _) (by simp [go_sem]) ?_
   have : zba a.length b.length = zey a b := by
    rw [i3]
    rcases Nat.lt_or_ge j a.length with h | h
    ·have hb' := hj h
     rw [List.drop_eq_nil_of_le hb', zgh]
     simp only [zba, List.length_drop]
     split <;> split <;> (try split) <;> (try split) <;> omega
    ·rw [List.drop_eq_nil_of_le h, zg0]
     simp only [zba, List.length_drop]
     split <;> split <;> (try split) <;> (try split) <;> omega
   simp [go_sem, this]
 ·simp
 ·simp [go_sem, zah]
 ·simp
theorem zfy {l : List Int} {j : Nat} (h : j < l.length) : l.drop j = nth l j :: l.drop (j + 1) := by rw [List.drop_eq_getElem_cons h, zaJ _ _ h]
def zaW (p : zaj) : Prop := zeR p.at_ ∧ zeR p.h0 ∧ zeR p.h1
def zbw (p q : zaj) : Int :=
 if zey p.at_ q.at_ ≠ 0 then zey p.at_ q.at_ else if zey p.h0 q.h0 ≠ 0 then zey p.h0 q.h0 else if zey p.h1 q.h1 ≠ 0 then zey p.h1 q.h1 else if zba p.rights q.rights ≠ 0 then zba p.rights q.rights else zba p.side q.side
theorem zd8 (a b : zaj) (ha : zaW a) (hb : zaW b) : zaC Tryz.prog 107 [.agg (zad a), .agg (zad b)] (.v (.int .i64 (zbw a b))) := by
 refine pF Tryz.func107 ?_
 obtain ⟨a1, a2, a3⟩ := ha
 obtain ⟨b1, b2, b3⟩ := hb
 simp [go_sem]
 try ((with_reducible refine wZ ?_); (try simp [go_sem]))
 refine zyM (zjU _ _ a1 b1) (by simp [go_sem]) ?_
 simp [go_sem]
 try ((with_reducible refine wZ ?_); (try simp [go_sem]))
 refine zyM (zjU _ _ a2 b2) (by simp [go_sem]) ?_
 simp [go_sem]
 try ((with_reducible refine wZ ?_); (try simp [go_sem]))
 refine zyM (zjU _ _ a3 b3) (by simp [go_sem]) ?_
 simp [go_sem]
 try ((with_reducible refine wZ ?_); (try simp [go_sem]))
 refine zyM (ze6 _ _) (by simp [go_sem]) ?_
 simp [go_sem]
 try ((with_reducible refine wZ ?_); (try simp [go_sem]))
 refine zyM (ze6 _ _) (by simp [go_sem]) ?_
 simp [go_sem]
 try ((with_reducible refine wZ ?_); (try simp [go_sem]))
 refine zkR.mk (by kernel_rfl) ?_
 simp [go_sem]
 generalize e1 : zey a.at_ b.at_ = x1
 generalize e2 : zey a.h0 b.h0 = x2
 generalize e3 : zey a.h1 b.h1 = x3
 generalize e4 : zba a.rights b.rights = x4
 generalize e5 : zba a.side b.side = x5
 unfold zbw
 rw [e1, e2, e3, e4, e5]
 refine zyR ?_
 simp [go_sem]
 refine zyK (fun h1 => ?_) (fun h1 => ?_) <;> simp at h1 <;> simp [go_sem, h1]
 refine zyR ?_
 simp [go_sem]
 refine zyK (fun h2 => ?_) (fun h2 => ?_) <;> simp at h2 <;> simp [go_sem, h1, h2]
 refine zyR ?_
 simp [go_sem]
 refine zyK (fun h3 => ?_) (fun h3 => ?_) <;> simp at h3 <;> simp [go_sem, h1, h2, h3]
 refine zyR ?_
 simp [go_sem]
 refine zyK (fun h4 => ?_) (fun h4 => ?_) <;> simp at h4 <;> simp [go_sem, h1, h2, h3, h4]
 refine zyR ?_
 simp [go_sem]
 refine zyK (fun h5 => ?_) (fun h5 => ?_) <;> simp at h5 <;> simp [go_sem, h1, h2, h3, h4, h5]
 refine zyR ?_
 simp [go_sem]
def zor (n : Nat) (p : zaj) : AV := .agg [.sl (n + 2) 1 1 0 p.at_.length, .sl (n + 3) 1 1 0 p.h0.length, .sl (n + 8) 1 1 0 p.h1.length, .v (.int .i64 p.rights), .v (.int .i64 p.side)]
def zj8 (n : Nat) (p : zaj) : List (Nat × zbz) := [(n + 2, .rows true 1 1 (p.at_.map zb3)), (n + 3, .rows true 1 1 (p.h0.map zb3)), (n + 8, .rows true 1 1 (p.h1.map zb3))]
attribute [go_sem] zor zj8
theorem zdM (l : List Int) (hl : zeR l) : zgf Tryz.prog 113 [zas l] (fun n => .sl n 1 1 0 l.length) (fun n => [(n, .rows true 1 1 (l.map zb3))]) 1 := by
 refine ⟨zzd (fun hne => zyL (by kernel_rfl) Tryz.func113 rfl rfl (Nat.le_of_ble_eq_true rfl) (by kernel_rfl) ?_)
  (fun he A c => zyL (by kernel_rfl) Tryz.func113 rfl rfl (Nat.le_of_ble_eq_true rfl) (by kernel_rfl) ?_), fun n => ⟨?_, ?_⟩⟩
 ·unfold zeR at hl
  obtain ⟨x, l, rfl⟩ := List.exists_cons_of_ne_nil (show l ≠ [] by intro h; subst h; exact hne rfl)
  simp only [List.length_cons] at hl
  simp [go_sem]
  refine zy6 (by omega) fun _ => ?_
  simp [go_sem, zah]
 ·obtain rfl : l = [] := by simpa using he
  simp [go_sem]
  refine zyK (fun h => ?_) (fun h => ?_)
  ·simp at h
   subst h
   simp [go_sem, zah]
  ·simp [go_sem, zah]
 ·simp [go_sem]
 ·simp [go_sem]
def idxOf (p : Int → Bool) (l : List Int) : Int := match l.findIdx? p with | some i => (i : Int) | none => -1
theorem zwq {p : Int → Bool} {l : List Int} {j : Nat} (hj : j < l.length) (h : ∀ i, i < j → p (nth l i) = false) (hp : p (nth l j) = true) : idxOf p l = j := by
 have : l.findIdx? p = some j := by
  rw [List.findIdx?_eq_some_iff_getElem]
  refine ⟨hj, by rw [← zaJ _ _ hj]; exact hp, fun i hi => ?_⟩
  have := h i hi
  rw [zaJ _ _ (by omega)] at this
  simp [this]
 simp [idxOf, this]
theorem zsk {p : Int → Bool} {l : List Int} (h : ∀ i, i < l.length → p (nth l i) = false) : idxOf p l = -1 := by
 have : l.findIdx? p = none := by
  rw [List.findIdx?_eq_none_iff]
  intro x hx
  obtain ⟨i, hi, rfl⟩ := List.getElem_of_mem hx
  have := h i hi
  rw [zaJ _ _ hi] at this
  exact this
 simp [idxOf, this]
theorem zum {p : Int → Bool} {l : List Int} : decide (0 ≤ idxOf p l) = l.any p := by
 unfold idxOf
 cases h : l.findIdx? p with
 | none =>
  rw [List.findIdx?_eq_none_iff] at h
  simp
  simpa using h
 | some i =>
  have := List.findIdx?_isSome (xs := l) (p := p)
  rw [h] at this
  simp at this ⊢
  exact this
theorem zkH (l : List Int) (hl : zeR l) (f : FuncId) (first caps : List AV) (p : Int → Bool) (hp : ∀ x ∈ l, zaC Tryz.prog f (first ++ .v (.int .i64 x) :: caps) (.v (.bool (p x)))) (hb : ∀ c ∈ first, Bel 0 c) (hb' : ∀ c ∈ caps, Bel 0 c) :
  zaC Tryz.prog 170 [zas l, .fn (.func f) first caps] (.v (.int .i64 (idxOf p l))) := by
 refine pF Tryz.func170 ?_
 unfold zeR at hl
 simp [go_sem]
 refine zyI (zyN (α := Nat) (fun j => ⟨[(0, zas l), (1, .fn (.func f) first caps), (7, .v (.int .i64 l.length)), (8, .v (.int .i64 j))], [], 0⟩)
  (fun d j => j + d = l.length ∧ (∀ i < j, p (nth l i) = false)) ?_ l.length 0 ?_) ?_ ?_
 ·rintro d j ⟨i1, i2⟩ hrec
  simp [go_sem]
  refine zyK (fun hj => ?_) (fun hj => ?_)
  ·simp at hj
   simp [go_sem]
   refine zy6 hj fun _ => ?_
   simp [go_sem, hj]
   refine zyJ (hp _ (zan hj)) (fun c hc => by
    rcases List.mem_append.1 hc with h | h
    ·exact hb c h
    ·rcases List.mem_cons.1 h with rfl | h
     ·exact .v _
     ·exact hb' c h) ?_
   simp [go_sem]
   refine zyK (fun h => ?_) (fun h => ?_)
   ·simp [go_sem, zwq hj i2 h]
   ·simp [go_sem]
    refine zy6 (by omega) fun _ => ?_
    simp [go_sem]
    refine zyI (hrec (d - 1) (by omega) (j + 1) ⟨by omega, fun i hi => ?_⟩) ?_ (by simp)
    ·rcases Nat.lt_or_ge i j with h' | h'
     ·exact i2 i h'
     ·obtain rfl : i = j := by omega
      exact h
    ·simp [go_sem, zah]
     exact ⟨hb, hb'⟩
  ·simp at hj
   simp [go_sem, zsk fun i hi => i2 i (by omega)]
 ·simp
 ·simp [go_sem, zah]
  exact ⟨hb, hb'⟩
 ·simp
theorem zhv (l : List Int) (hl : zeR l) (f : FuncId) (first caps : List AV) (p : Int → Bool) (hp : ∀ x ∈ l, zaC Tryz.prog f (first ++ .v (.int .i64 x) :: caps) (.v (.bool (p x)))) (hb : ∀ c ∈ first, Bel 0 c) (hb' : ∀ c ∈ caps, Bel 0 c) :
  zaC Tryz.prog 117 [zas l, .fn (.func f) first caps] (.v (.bool (l.any p))) := by
 refine pF Tryz.func117 ?_
 simp [go_sem]
 refine zyJ (zkH l hl f first caps p hp hb hb') (by simp [go_sem]; exact ⟨hb, hb'⟩) ?_
 simp [go_sem, zum]
theorem zgW {n : Nat} {α : Type} {f : α → List AV} {l : List α} {sz : Nat} (h : ∀ x, ∀ c ∈ f x, Bel n c) : Bel n (.lst sz (l.map f)) := by
 refine .lst fun r hr c hc => ?_
 obtain ⟨x, _, rfl⟩ := List.mem_map.1 hr
 exact h x c hc
theorem ztI {n : Nat} {l : List zgp} : Bel n (.lst 3 (l.map zaY)) = True := eq_true (zgW fun k c hc => by
 simp only [zaY, List.mem_cons, List.mem_nil_iff, or_false] at hc
 rcases hc with rfl | rfl | rfl
 ·exact .v _
 ·refine zgW fun p c hc => ?_
  simp only [List.mem_cons, List.mem_nil_iff, or_false] at hc
  subst hc
  exact zgW fun s c hc => by
   simp only [zau, List.mem_cons, List.mem_nil_iff, or_false] at hc
   rcases hc with rfl | rfl <;> exact .v _
 ·exact .v _)
theorem zpk {n : Nat} {l : List (Int × Int × Int × Int)} : Bel n (.lst 4 (l.map za6)) = True := eq_true (zgW fun k c hc => by
 simp only [za6, List.mem_cons, List.mem_nil_iff, or_false] at hc
 rcases hc with rfl | rfl | rfl | rfl <;> exact .v _)
theorem zxR {n : Nat} {l : List (List Int)} : Bel n (.lst 1 (l.map fun l => [.lst 1 (l.map zb3)])) = True := eq_true (zgW fun k c hc => by
 simp only [List.mem_cons, List.mem_nil_iff, or_false] at hc
 subst hc
 exact of_eq_true zqA)
attribute [go_sem high] ztI zpk zxR
def ztT (g : zaf) (x : Int) : Bool := decide (0 ≤ x) && decide (x ≤ 2 * g.kinds.length)
def zfo (g : zaf) : Prop := g.kinds.length ≤ 1000000
theorem znw (g : zaf) (hg : zfo g) (x : Int) : zaC Tryz.prog 143 [.agg (zab g), .v (.int .i64 x)] (.v (.bool (ztT g x))) := by
 refine pF Tryz.func143 ?_
 unfold zfo at hg
 simp [go_sem]
 refine zy6 (by omega) fun _ => ?_
 simp [go_sem, ztT]
theorem zj2 (g : zaf) (hg : zfo g) (x : Int) : zaC Tryz.prog 144 [.v (.int .i64 x), .fp [.fn (.func 143) [.agg (zab g)] []]] (.v (.bool !contOk g x)) := by
 refine pF Tryz.func144 ?_
 simp [go_sem]
 refine zyJ (znw g hg x) (by simp [go_sem]) ?_
 simp [go_sem]
def zck : List Int → List zgp → Bool
 | x :: l, k :: ks => decide (0 ≤ x) && decide (x ≤ 8) && (!decide (0 < x) || k.keep) && zck l ks
 | _, _ => true
def zd1 (g : zaf) (l : List Int) : Bool := decide (l.length = g.kinds.length) && zck l g.kinds
theorem zn3 (g : zaf) (hg : zfo g) (l : List Int) (hl : zeR l) : zaC Tryz.prog 145 [.agg (zab g), zas l] (.v (.bool (zd1 g l))) := by
 refine pF Tryz.func145 ?_
 unfold zfo at hg
 unfold zeR at hl
 simp [go_sem]
 refine zyK (fun hn => ?_) (fun hn => ?_)
 ·simp at hn
  have hn' : l.length ≠ g.kinds.length := by omega
  simp [go_sem, zd1, hn']
 ·simp at hn
  have hn' : l.length = g.kinds.length := by omega
  simp [go_sem]
  have hk : zd1 g l = zck l g.kinds := by simp [zd1, hn']
  rw [hk]
  refine zyI (zyN (α := Nat) (fun j => ⟨[(2, .ref 0 0 9 0 0), (14, zas l), (15, .v (.int .i64 l.length)), (16, .v (.int .i64 j))], [(0, .rows true 0 9 [zab g])], 1⟩)
   (fun d j => j + d = l.length ∧ zck l g.kinds = zck (l.drop j) (g.kinds.drop j)) ?_ l.length 0 ?_) ?_ ?_
  ·rintro d j ⟨i1, i2⟩ hrec
   simp [go_sem]
   refine zyK (fun hj => ?_) (fun hj => ?_)
   ·simp at hj
    have hj2 : j < g.kinds.length := by omega
    rw [zfy hj, show g.kinds.drop j = nth g.kinds j :: g.kinds.drop (j + 1) by rw [List.drop_eq_getElem_cons hj2, zaJ _ _ hj2], zck] at i2
    simp [go_sem]
    refine zy6 hj fun _ => ?_
    simp [go_sem, hj]
    refine zy6 (by intros; omega) fun _ => ?_
    simp [go_sem, hj2]
    refine zy6 (by intros; omega) fun _ => ?_
    simp [go_sem]
    refine zyK (fun hb => ?_) (fun hb => ?_)
    ·have : zck l g.kinds = false := by
      rw [i2]; generalize nth l j = x at *; generalize (nth g.kinds j).keep = y at *
      cases y <;> simp at hb ⊢ <;> omega
     simp [go_sem, this]
    ·have : zck l g.kinds = zck (List.drop (j + 1) l) (List.drop (j + 1) g.kinds) := by
      rw [i2]; generalize nth l j = x at *; generalize (nth g.kinds j).keep = y at *
      cases y <;> simp at hb ⊢ <;> omega
     simp [go_sem]
     refine zy6 (by omega) fun _ => ?_
     simp [go_sem]
     refine zyI (hrec (d - 1) (by omega) (j + 1) ⟨by omega, this⟩) ?_ (by simp)
     simp [go_sem, zah]
   ·simp at hj
    rw [List.drop_eq_nil_of_le hj] at i2
    have : zck l g.kinds = true := by rw [i2]; rfl
    simp [go_sem, this]
  ·simp
  ·simp [go_sem, zah]
  ·simp
def zeH (g : zaf) (p : zaj) : Bool :=
 decide ((p.at_.length : Int) = g.cells) && !(p.at_.any fun x => !contOk g x) && zd1 g p.h0 && zd1 g p.h1 && decide (0 ≤ p.rights) && decide (p.rights < 2 ^ g.rights.toNat) && (decide (p.side = 0) || decide (p.side = 1))
def FitsR (g : zaf) : Prop := 0 ≤ g.rights ∧ g.rights ≤ 60
theorem zk6 (g : zaf) (hg : zfo g) (hr : FitsR g) (p : zaj) (hp : zaW p) : zaC Tryz.prog 78 [.agg (zab g), .agg (zad p)] (.v (.bool (zeH g p))) := by
 refine pF Tryz.func78 ?_
 obtain ⟨p1, p2, p3⟩ := hp
 obtain ⟨r1, r2⟩ := hr
 simp [go_sem]
 try ((with_reducible refine wZ ?_); (try simp [go_sem]))
 refine zzf [zas p.at_, .fn (.func 144) [] [.fp [.fn (.func 143) [.agg (zab g)] []]]] (.v (.bool (p.at_.any fun x => !contOk g x))) [3]
  (fun _ => zhv _ p1 _ [] _ _ (fun x _ => zj2 g hg x) (by simp) (by simp [go_sem])) (.v _) (fun h₁ hS => ?_) (by simp [go_sem]) ?_
 ·have := hS 3 (by simp)
  simp [go_sem] at this
  simp only [List.nil_append, List.append_nil, zas]
  exact .cons (.refl _) (.cons (.fn .nil (.cons (.frzP this.symm (by simp) (by simp) (by simp [noH]) (by simp [nth, go_sem])) .nil)) .nil)
 simp [go_sem]
 try ((with_reducible refine wZ ?_); (try simp [go_sem]))
 refine zyV _ (fun _ => zn3 g hg p.h0 p2) (by simp [go_sem]) ?_
 simp [go_sem]
 try ((with_reducible refine wZ ?_); (try simp [go_sem]))
 refine zyV _ (fun _ => zn3 g hg p.h1 p3) (by simp [go_sem]) ?_
 simp [go_sem]
 have hpow : (0 : Int) ≤ 2 ^ g.rights.toNat ∧ (2 : Int) ^ g.rights.toNat ≤ 1152921504606846976 := by
  have h1 : g.rights.toNat ≤ 60 := by omega
  have h2 : (2 : Int) ^ g.rights.toNat ≤ 2 ^ 60 := by have := Nat.pow_le_pow_right (n := 2) (by omega) h1; exact_mod_cast this
  exact ⟨Int.pow_nonneg (by omega), by simpa using h2⟩
 try ((with_reducible refine wZ ?_); (try simp [go_sem]))
 refine zza (by intros; omega) fun _ => ?_
 simp [go_sem]
 try ((with_reducible refine wZ ?_); (try simp [go_sem]))
 refine zza (fun a1 a2 a3 a4 a5 a6 => ⟨⟨⟨⟨⟨⟨a1, a2⟩, a3⟩, a4⟩, a5⟩, a6⟩, fun a7 => ⟨⟨⟨⟨⟨⟨a1, a2⟩, a3⟩, a4⟩, a5⟩, a6⟩, a7⟩⟩) fun _ => ?_
 simp [go_sem]
 try ((with_reducible refine wZ ?_); (try simp [go_sem]))
 refine zkR.mk (by kernel_rfl) ?_
 simp [go_sem]
 exact zyW (by simp [zeH])
theorem zag {h h' : zav} {n : Nat} : ∀ {xs xs' ys ys' : List (List AV)}, zae h h' n xs xs' → zae h h' n ys ys' → zae h h' n (xs ++ ys) (xs' ++ ys')
 | [], _, _, _, .refl _, h2 => h2
 | [], _, _, _, .nil, h2 => h2
 | x :: xs, _, _, _, .refl _, h2 => .cons (.refl _ _ _ _) (zag (.refl xs) h2)
 | _ :: _, _, _, _, .cons a b, h2 => .cons a (zag b h2)
theorem zyT {h h' : zav} {n : Nat} {xs ys : List (List AV)} (e : xs = ys) : zae h h' n xs ys := e ▸ .refl _
def zaR : Option zbz → Option zbz
 | some (.rows _ g sz rs) => some (.rows false g sz rs)
 | none => none
def zaK (h : zav) (os : List Nat) : zav := fun o => if os.contains o then zaR (h o) else h o
theorem zc5 (h : zav) (os : List Nat) : Frz h (zaK h os) := by
 intro o
 unfold zaK
 split
 ·cases ho : h o with
  | none => exact .inl rfl
  | some x =>
   cases x with
   | rows mt g sz rs =>
    cases mt with
    | true => exact .inr ⟨g, sz, rs, rfl, rfl⟩
    | false => exact .inl rfl
 ·exact .inl rfl
theorem zyP {P : Program} {f : FuncId} {args args' : List AV} {r : AV} {h : zav} {n : Nat} {K : zc0} (os : List Nat) (hp : zaC P f args' r) (hle : zai h (zaK h os) n args args') (hb : ∀ c ∈ args', Bel 0 c)
  (hk : K r (zaK h os) n) : zaa P f args h n K := zaa.pure (zaK h os) hp (zc5 h os) hle hb hk


def znC (n : Int) : List AV := [.v (.int .u8 n)]
def zr9 (l : List Int) : AV := .lst 1 (l.map znC)
theorem bel_U {n : Nat} {l : List Int} : (∀ r ∈ l.map znC, ∀ c ∈ r, Bel n c) = True := by
 refine eq_true ?_
 intro r hr c hc
 obtain ⟨x, _, rfl⟩ := List.mem_map.1 hr
 simp only [znC, List.mem_singleton] at hc
 subst hc; exact .v _
theorem bel_Us {n : Nat} {l : List Int} : Bel n (.lst 1 (l.map znC)) = True := by rw [zcN, bel_U]
attribute [go_sem] znC zr9
attribute [go_sem high] bel_Us
theorem zhi {g : zaf} {p : zaj} : zeH g p = true ↔ ((p.at_.length : Int) = g.cells ∧ (∀ x ∈ p.at_, 0 ≤ x ∧ x ≤ 2 * g.kinds.length) ∧ zd1 g p.h0 = true ∧ zd1 g p.h1 = true ∧ 0 ≤ p.rights ∧ p.rights < 2 ^ g.rights.toNat ∧ (p.side = 0 ∨ p.side = 1)) := by
 unfold zeH
 simp [ztT, and_assoc]
theorem zol {α : Type} [Inhabited α] {l : List α} {c : Nat} {x : α} (h : c < l.length) : nth (l.set c x) c = x := by simp [nth, h]
attribute [go_sem] zol
theorem zaM {α : Type} [Inhabited α] {l : List α} {j : Nat} (h : j < l.length) : l.drop j = nth l j :: l.drop (j + 1) := by rw [List.drop_eq_getElem_cons h, zaJ _ _ h]
def zaz (l : List zaj) : AV := .lst 5 (l.map zad)
attribute [go_sem] zaz
instance : Inhabited zaj := ⟨⟨[], [], [], 0, 0⟩⟩
theorem zxP {n : Nat} {p : zaj} : ∀ c ∈ zad p, Bel n c := by simp [go_sem]
theorem zrT {n : Nat} {l : List zaj} : (∀ r ∈ l.map zad, ∀ c ∈ r, Bel n c) = True := by
 refine eq_true ?_
 intro r hr c hc
 obtain ⟨x, _, rfl⟩ := List.mem_map.1 hr
 exact zxP c hc
theorem zxf {n : Nat} {l : List zaj} : Bel n (.lst 5 (l.map zad)) = True := by rw [zcN, zrT]
attribute [go_sem high] zxf
end Go.Av
end
section
open Go Go.Proofs
namespace Go.Av
structure Cmp {α : Type} (c : α → α → Int) : Prop where
 swap : ∀ a b, c b a = - c a b
 eq : ∀ a b, c a b = 0 ↔ a = b
 tr : ∀ a b d, c a b ≤ 0 → c b d ≤ 0 → c a d ≤ 0
theorem zbS : Cmp zba := by
 refine ⟨fun a b => ?_, fun a b => ?_, fun a b d => ?_⟩ <;> unfold zba <;> (repeat' split) <;> omega
def zyg (x y : Int) : Int := if x ≠ 0 then x else y
theorem Cmp.prod {α β : Type} {c : α → α → Int} {d : β → β → Int} (hc : Cmp c) (hd : Cmp d) : Cmp (fun (p q : α × β) => zyg (c p.1 q.1) (d p.2 q.2)) := by
 refine ⟨fun p q => ?_, fun p q => ?_, fun p q r => ?_⟩
 ·have h1 := hc.swap p.1 q.1
  have h2 := hd.swap p.2 q.2
  simp only [zyg]
  split <;> split <;> omega
 ·have h1 := hc.eq p.1 q.1
  have h2 := hd.eq p.2 q.2
  simp only [zyg]
  constructor
  ·intro h
   split at h
   ·contradiction
   ·rename_i h0
    exact Prod.ext (h1.1 (by omega)) (h2.1 h)
  ·rintro rfl
   have a := h1.2 rfl
   have b := h2.2 rfl
   split <;> omega
 ·intro h1 h2
  simp only [zyg] at h1 h2 ⊢
  have e1 := hc.eq p.1 q.1
  have e2 := hc.eq q.1 r.1
  have e3 := hc.eq p.1 r.1
  have s1 := hc.swap p.1 q.1
  have s2 := hc.swap q.1 r.1
  have s3 := hc.swap p.1 r.1
  have t1 := hc.tr p.1 q.1 r.1
  have t2 := hd.tr p.2 q.2 r.2
  split at h1
  ·rename_i n1
   split at h2
   ·rename_i n2
    split
    ·omega
    ·rename_i n3
     have := e3.1 (by omega)
     rw [this] at h1 n1
     omega
   ·rename_i n2
    have := e2.1 (by omega)
    rw [this] at h1 n1
    rw [if_pos n1]; exact h1
  ·rename_i n1
   have := e1.1 (by omega)
   split at h2
   ·rename_i n2
    rw [← this] at h2 n2
    rw [if_pos n2]; exact h2
   ·rename_i n2
    rw [← this] at n2
    rw [if_neg n2]
    exact t2 h1 h2
theorem Cmp.pull {α β : Type} {c : β → β → Int} (hc : Cmp c) (f : α → β) (hf : ∀ a b, f a = f b → a = b) : Cmp (fun a b => c (f a) (f b)) :=
 ⟨fun a b => hc.swap _ _, fun a b => ⟨fun h => hf _ _ ((hc.eq _ _).1 h), fun h => (hc.eq _ _).2 (by rw [h])⟩, fun a b d => hc.tr _ _ _⟩
theorem zmk : Cmp zey := by
 refine ⟨?_, ?_, ?_⟩
 ·intro a
  induction a with
  | nil => intro b; cases b with
   | nil => rfl
   | cons y b => simp only [zey]; exact zbS.swap _ _
  | cons x a ih => intro b; cases b with
   | nil => simp only [zey]; exact zbS.swap _ _
   | cons y b =>
    have := zbS.swap x y
    simp only [zey]
    split
    ·rename_i h; rw [if_pos h.symm]; exact ih b
    ·rename_i h; rw [if_neg (fun e => h e.symm)]; exact this
 ·intro a
  induction a with
  | nil => intro b; cases b with
   | nil => simp [zey, zba]
   | cons y b => simp [zey, zba]
  | cons x a ih => intro b; cases b with
   | nil => simp [zey, zba]; split <;> (try split) <;> omega
   | cons y b =>
    have := zbS.eq x y
    simp only [zey]
    split
    ·rename_i h; rw [ih b]; simp [h]
    ·rename_i h; rw [this]; simp [h]
 ·intro a
  induction a with
  | nil => intro b d _ _; cases d with
   | nil => simp [zey, zba]
   | cons z d => simp [zey, zba]
  | cons x a ih =>
   intro b d h1 h2
   cases b with
   | nil => simp [zey, zba] at h1; split at h1 <;> (try split at h1) <;> omega
   | cons y b =>
    cases d with
    | nil => simp [zey, zba] at h2; split at h2 <;> (try split at h2) <;> omega
    | cons z d =>
     simp only [zey] at h1 h2 ⊢
     have t := zbS.tr x y z
     have e1 := zbS.eq x z
     have s1 := zbS.swap y z
     have e2 := zbS.eq x y
     split at h1
     ·rename_i xy
      subst xy
      split at h2
      ·rename_i yz; subst yz; rw [if_pos rfl]; exact ih _ _ h1 h2
      ·rename_i yz; rw [if_neg yz]; exact h2
     ·rename_i xy
      split at h2
      ·rename_i yz; subst yz; rw [if_neg xy]; exact h1
      ·rename_i yz
       by_cases xz : x = z
       ·subst xz; omega
       ·rw [if_neg xz]; exact t h1 h2
def tupP (p : zaj) : List Int × List Int × List Int × Int × Int := (p.at_, p.h0, p.h1, p.rights, p.side)
theorem za8 : Cmp zbw :=
 Cmp.pull (zmk.prod (zmk.prod (zmk.prod (zbS.prod zbS)))) tupP (fun a b h => by cases a; cases b; simp [tupP] at h; simp [h])
theorem zpo {p q : zaj} : zbw p q = 0 ↔ p = q := za8.eq p q
section sort
variable {α : Type} {c : α → α → Int} (hc : Cmp c)
def leC (c : α → α → Int) (a b : α) : Bool := decide (c a b ≤ 0)
def zcI (c : α → α → Int) (l : List α) : List α := l.mergeSort (leC c)
include hc
theorem zxp (a b d : α) (h1 : leC c a b = true) (h2 : leC c b d = true) : leC c a d = true := by
 simp only [leC, decide_eq_true_eq] at *
 exact hc.tr _ _ _ h1 h2
theorem zus (a b : α) : (leC c a b || leC c b a) = true := by
 have := hc.swap a b
 simp only [leC, Bool.or_eq_true, decide_eq_true_eq]
 omega
theorem zwu {a b : α} (h1 : leC c a b = true) (h2 : leC c b a = true) : a = b := by
 have := hc.swap a b
 simp only [leC, decide_eq_true_eq] at *
 exact (hc.eq _ _).1 (by omega)
theorem zi3 (l : List α) : (zcI c l).Pairwise (fun a b => leC c a b = true) := List.pairwise_mergeSort (zxp hc) (zus hc) l
theorem zfP {l r : List α} (hp : r.Perm l) (hs : r.Pairwise (fun a b => leC c a b = true)) : zcI c l = r :=
 List.Perm.eq_of_pairwise (fun a b _ _ h1 h2 => zwu hc h1 h2) (zi3 hc l) hs ((List.mergeSort_perm l _).trans hp.symm)
theorem zp9 (a b : List α) : List.merge (zcI c a) (zcI c b) (leC c) = zcI c (a ++ b) :=
 (zfP hc ((List.merge_perm_append (le := leC c)).trans ((List.mergeSort_perm a _).append (List.mergeSort_perm b _)))
  (List.pairwise_merge (zxp hc) (zus hc) _ _ (zi3 hc a) (zi3 hc b))).symm
omit hc in
theorem zl1 (l : List α) : (zcI c l).Perm l := List.mergeSort_perm l _
omit hc in
theorem zeJ (l : List α) : (zcI c l).length = l.length := (zl1 l).length_eq
omit hc in
theorem zeK {l : List α} {x : α} : x ∈ zcI c l ↔ x ∈ l := (zl1 l).mem_iff
omit hc in
theorem zva : zcI c [] = [] := by simp [zcI]
omit hc in
theorem zvb (a : α) : zcI c [a] = [a] := by simp [zcI]
omit hc in
theorem zko {l : List α} (h : l.length < 2) : zcI c l = l := by
 match l, h with
 | [], _ => exact zva
 | [a], _ => exact zvb a
end sort
section once
variable {α : Type} [DecidableEq α]
def zbi : α → List α → List α
 | _, [] => []
 | a, b :: l => if b = a then zbi a l else b :: zbi b l
def zbq : List α → List α
 | [] => []
 | a :: l => a :: zbi a l
theorem zeY : ∀ {l : List α} {a x : α}, (x = a ∨ x ∈ zbi a l) ↔ (x = a ∨ x ∈ l)
 | [], a, x => by simp [zbi]
 | b :: l, a, x => by
  simp only [zbi]
  split
  ·rename_i h; subst h
   rw [zeY (l := l)]
   simp
  ·have := zeY (l := l) (a := b) (x := x)
   simp only [List.mem_cons]
   rw [this]
theorem ztZ {l : List α} {x : α} : x ∈ zbq l ↔ x ∈ l := by
 cases l with
 | nil => simp [zbq]
 | cons a l => simp only [zbq, List.mem_cons]; exact zeY
theorem zhF : ∀ (l : List α) (a : α), (zbi a l).length ≤ l.length
 | [], a => by simp [zbi]
 | b :: l, a => by
  simp only [zbi]
  split
  ·have := zhF l a; simp; omega
  ·have := zhF l b; simp; omega
theorem zwd (l : List α) : (zbq l).length ≤ l.length := by
 cases l with
 | nil => simp [zbq]
 | cons a l => simp [zbq]; exact zhF l a
theorem zhG {c : α → α → Int} (hc : Cmp c) : ∀ {l : List α} {a : α}, (a :: l).Pairwise (fun a b => leC c a b = true) → (a :: zbi a l).Pairwise (fun a b => c a b < 0)
 | [], a, _ => by simp [zbi]
 | b :: l, a, h => by
  simp only [zbi]
  rw [List.pairwise_cons] at h
  obtain ⟨h1, h2⟩ := h
  split
  ·rename_i e; subst e; exact zhG hc h2
  ·rename_i e
   have ih := zhG hc h2
   rw [List.pairwise_cons]
   refine ⟨fun x hx => ?_, ih⟩
   have hx' : x = b ∨ x ∈ l := zeY.1 (by simpa using hx)
   have hax : c a x ≤ 0 := by
    have := h1 x (by simpa using hx')
    simpa [leC] using this
   have hab : c a b ≤ 0 := by
    have := h1 b (by simp)
    simpa [leC] using this
   have hbx : c b x ≤ 0 := by
    rcases hx' with rfl | hm
    ·have := (hc.eq x x).2 rfl; omega
    ·rw [List.pairwise_cons] at h2
     have := h2.1 x hm
     simpa [leC] using this
   rcases Int.lt_or_eq_of_le hax with h | h
   ·exact h
   ·have ex := (hc.eq _ _).1 h
    subst ex
    have := hc.swap a b
    exact absurd ((hc.eq b a).1 (by omega)) e
def zbk (c : α → α → Int) (l : List α) : List α := zbq (zcI c l)
theorem za7 {c : α → α → Int} {l : List α} {x : α} : x ∈ zbk c l ↔ x ∈ l := by rw [zbk, ztZ, zeK]
theorem zhp {c : α → α → Int} (hc : Cmp c) (l : List α) : (zbk c l).Pairwise (fun a b => c a b < 0) := by
 have h := zi3 hc l
 unfold zbk
 cases hs : zcI c l with
 | nil => simp [zbq]
 | cons a m => rw [hs] at h; exact zhG hc h
theorem zdL (c : α → α → Int) (l : List α) : (zbk c l).length ≤ l.length := by
 have := zwd (zcI c l)
 rw [zeJ] at this
 exact this
omit [DecidableEq α] in
theorem zh5 {c : α → α → Int} (hc : Cmp c) : ∀ {l r : List α}, l.Pairwise (fun a b => c a b < 0) → r.Pairwise (fun a b => c a b < 0) → (∀ x, x ∈ l ↔ x ∈ r) → l = r
 | [], r, _, _, h => by
  cases r with
  | nil => rfl
  | cons b r => have := (h b).2 (by simp); simp at this
 | a :: l, [], _, _, h => by have := (h a).1 (by simp); simp at this
 | a :: l, b :: r, h1, h2, h => by
  rw [List.pairwise_cons] at h1 h2
  have irr : ∀ x : α, ¬ c x x < 0 := fun x hx => by have := (hc.eq x x).2 rfl; omega
  have ab : a = b := by
   rcases List.mem_cons.1 ((h a).1 (by simp)) with e | m
   ·exact e
   ·rcases List.mem_cons.1 ((h b).2 (by simp)) with e | m'
    ·exact e.symm
    ·have k1 := h2.1 a m
     have k2 := h1.1 b m'
     have := hc.swap a b
     omega
  subst ab
  rw [zh5 hc h1.2 h2.2 (fun x => ?_)]
  constructor
  ·intro hx
   rcases List.mem_cons.1 ((h x).1 (List.mem_cons_of_mem _ hx)) with e | m
   ·subst e; exact absurd (h1.1 _ hx) (irr _)
   ·exact m
  ·intro hx
   rcases List.mem_cons.1 ((h x).2 (List.mem_cons_of_mem _ hx)) with e | m
   ·subst e; exact absurd (h2.1 _ hx) (irr _)
   ·exact m
theorem zek {c : α → α → Int} (hc : Cmp c) {l r : List α} (hr : r.Pairwise (fun a b => c a b < 0)) (h : ∀ x, x ∈ l ↔ x ∈ r) : zbk c l = r :=
 zh5 hc (zhp hc l) hr (fun x => by rw [za7]; exact h x)
theorem zqa {c : α → α → Int} (hc : Cmp c) {l r : List α} (h : ∀ x, x ∈ l ↔ x ∈ r) : zbk c l = zbk c r :=
 zek hc (zhp hc r) (fun x => by rw [za7]; exact h x)
end once
end Go.Av
end
section
open Go Go.Proofs
namespace Go.Av
structure zaL where
 cells : Int
 next : List (List Int)
 turn : List Int
 deriving DecidableEq
def zde (b : zaL) : List AV := [.v (.int .i64 b.cells), zcr b.next, zas b.turn]
attribute [go_sem] zde
def zaf.board (g : zaf) : zaL := ⟨g.cells, g.next, g.turn⟩
structure za2 (b : zaL) : Prop where
 tl : b.turn.length = b.next.length
 tv : ∀ t ∈ b.turn, 0 ≤ t ∧ t < b.next.length
 nl : ∀ l ∈ b.next, (l.length : Int) = b.cells
 nv : ∀ l ∈ b.next, ∀ x ∈ l, -1 ≤ x ∧ x < b.cells
 c0 : 0 ≤ b.cells
 c1 : b.cells ≤ 1048576
 n1 : b.next.length ≤ 1048576
def toB (b : zaL) (side d c : Int) : Int :=
 if side < 0 ∨ 1 < side ∨ d < 0 ∨ (b.next.length : Int) ≤ d ∨ c < 0 ∨ b.cells ≤ c then -1 else nth (nth b.next (if side = 1 then (nth b.turn d.toNat) else d).toNat) c.toNat
theorem zvp {b : zaL} (hb : za2 b) (side d c : Int) : -1 ≤ toB b side d c ∧ toB b side d c < b.cells ∨ toB b side d c = -1 := by
 unfold toB
 split
 ·exact .inr rfl
 ·rename_i h
  left
  have hd : (if side = 1 then (nth b.turn d.toNat) else d).toNat < b.next.length := by
   split
   ·have := hb.tv _ (zan (l := b.turn) (i := d.toNat) (by have := hb.tl; omega))
    omega
   ·omega
  have hl := hb.nl _ (zan hd)
  exact hb.nv _ (zan hd) _ (zan (by omega))
theorem ziP (b : zaL) (hb : za2 b) (side d c : Int) : zaC Tryz.prog 254 [.agg (zde b), .v (.int .i64 side), .v (.int .i64 d), .v (.int .i64 c)] (.v (.int .i64 (toB b side d c))) := by
 refine pF Tryz.func254 ?_
 obtain ⟨tl, tv, nl, nv, c0, c1, n1⟩ := hb
 repeat first|with_reducible refine wV fun _=>?_|simp [go_sem]
 refine zyK (fun hs => ?_) (fun hs => ?_) <;> simp at hs
 ·have e : toB b side d c = -1 := by unfold toB; rw [if_pos (by omega)]
  rw [e]
  repeat first|with_reducible refine wV fun _=>?_|simp [go_sem]
 ·have hdt : d.toNat < b.next.length := by omega
  have hdu : d.toNat < b.turn.length := by omega
  have e : toB b side d c = nth (nth b.next (if side = 1 then (nth b.turn d.toNat) else d).toNat) c.toNat := by unfold toB; rw [if_neg (by omega)]
  repeat first|with_reducible refine wV fun _=>?_|simp [go_sem]
  refine zyK (fun h1 => ?_) (fun h1 => ?_) <;> simp at h1
  ·rw [if_pos h1] at e
   have ht := tv _ (zan hdu)
   have hn : (nth b.turn d.toNat).toNat < b.next.length := by omega
   have hl := nl _ (zan hn)
   have hc : c.toNat < (nth b.next (nth b.turn d.toNat).toNat).length := by omega
   rw [e]
   repeat first|with_reducible refine wV fun _=>?_|simp [go_sem, hdu, hn, hc]
  ·rw [if_neg h1] at e
   have hl := nl _ (zan hdt)
   have hc : c.toNat < (nth b.next d.toNat).length := by omega
   rw [e]
   repeat first|with_reducible refine wV fun _=>?_|simp [go_sem, hdt, hc]
def zin (l : List Int) (n : Int) : Int := match l.findIdx? (· == n) with | some i => (i : Int) | none => -1
theorem zun {n : Int} {l : List Int} {j : Nat} (hj : j < l.length) (h : ∀ i, i < j → nth l i ≠ n) (hp : nth l j = n) : zin l n = j := by
 have : l.findIdx? (· == n) = some j := by
  rw [List.findIdx?_eq_some_iff_getElem]
  refine ⟨hj, by rw [← zaJ _ _ hj, hp]; simp, fun i hi => ?_⟩
  have := h i hi
  rw [zaJ _ _ (by omega)] at this
  simp [this]
 simp [zin, this]
theorem zpD {n : Int} {l : List Int} (h : ∀ i, i < l.length → nth l i ≠ n) : zin l n = -1 := by
 have : l.findIdx? (· == n) = none := by
  rw [List.findIdx?_eq_none_iff]
  intro x hx
  obtain ⟨i, hi, rfl⟩ := List.getElem_of_mem hx
  have := h i hi
  rw [zaJ _ _ hi] at this
  simp [this]
 simp [zin, this]
theorem zsl {l : List Int} {n : Int} : decide (0 ≤ zin l n) = decide (n ∈ l) := by
 by_cases h : n ∈ l
 ·cases hf : l.findIdx? (· == n) with
  | none =>
   rw [List.findIdx?_eq_none_iff] at hf
   have := hf n h
   simp at this
  | some i => simp [zin, hf, h]
 ·have : l.findIdx? (· == n) = none := by
   rw [List.findIdx?_eq_none_iff]
   intro x hx
   have : x ≠ n := fun e => h (e ▸ hx)
   simp [this]
  simp [zin, this, h]
theorem zrq (l : List Int) (n : Int) (hl : l.length ≤ 1099511627776) : zaC Tryz.prog 292 [zas l, .v (.int .i64 n)] (.v (.int .i64 (zin l n))) := by
 refine pF Tryz.func292 ?_
 repeat first|with_reducible refine wV fun _=>?_|simp [go_sem]
 refine zyI (zyN (α := Nat) (fun j => ⟨[(0, zas l), (1, .v (.int .i64 n)), (7, .v (.int .i64 l.length)), (8, .v (.int .i64 j))], [], 0⟩)
  (fun d j => j + d = l.length ∧ ∀ i, i < j → nth l i ≠ n) ?_ l.length 0 ?_) ?_ ?_
 ·rintro d j ⟨i1, i2⟩ hrec
  repeat first|with_reducible refine wV fun _=>?_|simp [go_sem]
  refine zyK (fun hj => ?_) (fun hj => ?_) <;> simp at hj
  ·repeat first|with_reducible refine wV fun _=>?_|simp [go_sem, hj]
   refine zyK (fun he => ?_) (fun he => ?_) <;> simp at he
   ·rw [zun hj i2 he.symm]
    repeat first|with_reducible refine wV fun _=>?_|simp [go_sem]
   ·repeat first|with_reducible refine wV fun _=>?_|simp [go_sem]
    refine zyI (hrec (d - 1) (by omega) (j + 1) ⟨by omega, fun i hi => ?_⟩) ?_ (by simp)
    ·rcases Nat.lt_or_ge i j with h | h
     ·exact i2 i h
     ·obtain rfl : i = j := by omega
      exact fun e => he e.symm
    ·simp [go_sem, zah]
  ·rw [zpD (fun i hi => i2 i (by omega))]
   repeat first|with_reducible refine wV fun _=>?_|simp [go_sem]
 ·exact ⟨by simp, fun i hi => by omega⟩
 ·simp [go_sem, zah]
 ·simp
theorem zl9 (l : List Int) (n : Int) (hl : l.length ≤ 1099511627776) : zaC Tryz.prog 283 [zas l, .v (.int .i64 n)] (.v (.bool (decide (n ∈ l)))) := by
 refine pF Tryz.func283 ?_
 repeat first|with_reducible refine wV fun _=>?_|simp [go_sem]
 refine zyJ (zrq l n hl) (by simp [go_sem]) ?_
 rw [← zsl]
 repeat first|with_reducible refine wV fun _=>?_|simp [go_sem]
def zd3 (b : zaL) (side d c : Int) : Nat → Int → List Int → List Int
 | 0, _, seen => seen
 | f + 1, x, seen => if 0 ≤ x ∧ x ≠ c ∧ ¬ x ∈ seen then zd3 b side d c f (toB b side d x) (seen ++ [x]) else seen
def zfH (b : zaL) (side d c : Int) : List Int := zd3 b side d c (b.cells.toNat + 1) (toB b side d c) []
theorem zf3 : ∀ (n : Nat) (l : List Int), l.Nodup → (∀ x ∈ l, 0 ≤ x ∧ x < n) → l.length ≤ n
 | 0, l, _, h => by
  cases l with
  | nil => simp
  | cons x l => have := h x (by simp); omega
 | n + 1, l, hn, h => by
  by_cases hm : (n : Int) ∈ l
  ·have := zf3 n (l.erase n) (hn.erase _) (fun x hx => by
    have h1 := (hn.mem_erase_iff).1 hx
    have := h x h1.2
    have := h1.1
    omega)
   rw [List.length_erase_of_mem hm] at this
   omega
  ·have := zf3 n l hn (fun x hx => by
    have := h x hx
    have : x ≠ n := fun e => hm (e ▸ hx)
    omega)
   omega
theorem zfQ {b : zaL} (hb : za2 b) (side d c : Int) : toB b side d c < b.cells := by
 have := hb.c0
 rcases zvp hb side d c with h | h <;> omega
def dxL : List Int := [0, 1, 1, 1, 0, -1, -1, -1]
def dyL : List Int := [-1, -1, 0, 1, 1, 1, 0, -1]
def zf0 (w h : Int) (d : Nat) (c : Nat) : Int :=
  if (0 ≤ (c : Int).tmod w + nth dxL d ∧ (c : Int).tmod w + nth dxL d < w) ∧ 0 ≤ (c : Int).tdiv w + nth dyL d ∧ (c : Int).tdiv w + nth dyL d < h then ((c : Int).tdiv w + nth dyL d) * w + ((c : Int).tmod w + nth dxL d) else -1
def zd0 (w h : Nat) (d : Nat) (n : Nat) : List Int := (List.range n).map (zf0 w h d)
def zbQ (w h : Nat) (d : Nat) : List (List Int) := (List.range d).map fun d => zd0 w h d (w * h)
def zbR (d : Nat) : List Int := (List.range d).map fun i : Nat => Int.tmod ((i : Int) + 4) 8
def zdg (w h : Nat) : zaL := ⟨w * h, zbQ w h 8, zbR 8⟩
theorem zim (w h d n : Nat) : zd0 w h d (n + 1) = zd0 w h d n ++ [zf0 w h d n] := by simp [zd0, List.range_succ]
theorem zmA (w h d : Nat) : zbQ w h (d + 1) = zbQ w h d ++ [zd0 w h d (w * h)] := by simp [zbQ, List.range_succ]
theorem zmB (d : Nat) : zbR (d + 1) = zbR d ++ [Int.tmod ((d : Int) + 4) 8] := by simp [zbR, List.range_succ]
theorem zoW (w h : Nat) (hw : 1 ≤ w ∧ w ≤ 8) (hh : 1 ≤ h ∧ h ≤ 8) : zaC Tryz.prog 132 [.v (.int .i64 w), .v (.int .i64 h)] (.tup [.agg (zde (zdg w h)), .v (.int .i64 0)]) := by
  refine pF Tryz.func132 ?_
  have hwh : (w : Int) * h ≤ 64 := by
    have : w * h ≤ 8 * 8 := Nat.mul_le_mul hw.2 hh.2
    exact_mod_cast this
  have hwh0 : (1 : Int) ≤ (w : Int) * h := by
    have : 1 * 1 ≤ w * h := Nat.mul_le_mul hw.1 hh.1
    exact_mod_cast this
  obtain ⟨D, hD⟩ : ∃ D : Nat, D = w * h := ⟨_, rfl⟩
  have hD' : (w : Int) * h = D := by rw [hD]; simp
  rw [hD'] at hwh hwh0
  have e1 : (zde (zdg w h)) = [.v (.int .i64 D), zcr (zbQ w h 8), zas (zbR 8)] := by simp [zde, zdg, hD']
  rw [e1]
  have hdx : ∀ x ∈ dxL, -1 ≤ x ∧ x ≤ 1 := by decide
  have hdy : ∀ x ∈ dyL, -1 ≤ x ∧ x ≤ 1 := by decide
  have ldx : dxL.length = 8 := rfl
  have ldy : dyL.length = 8 := rfl
  have edx : dxL.map zb3 = [[.v (.int .i64 0)], [.v (.int .i64 1)], [.v (.int .i64 1)], [.v (.int .i64 1)], [.v (.int .i64 0)], [.v (.int .i64 (-1))], [.v (.int .i64 (-1))], [.v (.int .i64 (-1))]] := rfl
  have edy : dyL.map zb3 = [[.v (.int .i64 (-1))], [.v (.int .i64 (-1))], [.v (.int .i64 0)], [.v (.int .i64 1)], [.v (.int .i64 1)], [.v (.int .i64 1)], [.v (.int .i64 0)], [.v (.int .i64 (-1))]] := rfl
  have hst : ∀ d c, zf0 w h d c = zf0 w h d c := fun _ _ => rfl
  repeat first|with_reducible refine wV fun _=>?_|simp [go_sem, hD']
  (refine zyK (fun hF => by first | omega | (simp at hF; omega)) (fun hF => ?_); clear hF)
  repeat first|with_reducible refine wV fun _=>?_|simp [go_sem, hD']
  refine zyI (zyN (α := Nat) (fun d => ⟨[(0, .v (.int .i64 w)), (1, .v (.int .i64 h)), (4, .ref 0 0 3 0 0), (6, .sl 1 0 1 0 8), (7, .sl 2 0 1 0 8), (8, .ref 3 0 3 0 0), (9, .v (.int .i64 d))],
      [(0, .rows true 0 3 [[.v (.int .i64 0), .v (.slice none 0 0), .v (.slice none 0 0)]]), (1, .rows true 0 1 (dxL.map zb3)), (2, .rows true 0 1 (dyL.map zb3)),
       (3, .rows true 0 3 [[.v (.int .i64 D), .sl 4 d 1 0 d, .sl 5 d 1 0 d]]), (4, .rows true d 1 ((zbQ w h d).map fun l => [zas l])), (5, .rows true d 1 ((zbR d).map zb3))], 6⟩)
    (fun r d => d + r = 8) ?_ 8 0 ?_) ?_ ?_
  · rintro r d i1 hrec
    have lgn : (zbQ w h d).length = d := by simp [zbQ]
    have lgt : (zbR d).length = d := by simp [zbR]
    repeat first|with_reducible refine wV fun _=>?_|simp [go_sem]
    refine zyK (fun hd => ?_) (fun hd => ?_) <;> simp at hd
    · have hd1 : d < dxL.length := by omega
      have hd2 : d < dyL.length := by omega
      have bx := hdx _ (zan hd1)
      have by_ := hdy _ (zan hd2)
      have hgs : ∀ c, zf0 w h d c = if (0 ≤ (c : Int).tmod w + nth dxL d ∧ (c : Int).tmod w + nth dxL d < w) ∧ 0 ≤ (c : Int).tdiv w + nth dyL d ∧ (c : Int).tdiv w + nth dyL d < h then ((c : Int).tdiv w + nth dyL d) * w + ((c : Int).tmod w + nth dxL d) else -1 := fun _ => rfl
      repeat first|with_reducible refine wV fun _=>?_|simp [go_sem]
      refine zyI (zyN (α := Nat) (fun c => ⟨[(0, .v (.int .i64 w)), (1, .v (.int .i64 h)), (4, .ref 0 0 3 0 0), (6, .sl 1 0 1 0 8), (7, .sl 2 0 1 0 8), (8, .ref 3 0 3 0 0), (9, .v (.int .i64 d)), (10, .sl 6 c 1 0 c), (11, .v (.int .i64 c))],
          [(0, .rows true 0 3 [[.v (.int .i64 0), .v (.slice none 0 0), .v (.slice none 0 0)]]), (1, .rows true 0 1 (dxL.map zb3)), (2, .rows true 0 1 (dyL.map zb3)),
           (3, .rows true 0 3 [[.v (.int .i64 D), .sl 4 d 1 0 d, .sl 5 d 1 0 d]]), (4, .rows true d 1 ((zbQ w h d).map fun l => [zas l])), (5, .rows true d 1 ((zbR d).map zb3)), (6, .rows true c 1 ((zd0 w h d c).map zb3))], 7⟩)
        (fun s c => c + s = D) ?_ D 0 ?_) ?_ ?_
      · rintro s c j1 hrec2
        have lgr : (zd0 w h d c).length = c := by simp [zd0]
        repeat first|with_reducible refine wV fun _=>?_|simp [go_sem, hD']
        refine zyK (fun hc => ?_) (fun hc => ?_) <;> simp at hc
        · have m0 := Int.tmod_nonneg (w : Int) (show (0 : Int) ≤ c by omega)
          have m1 := Int.tmod_lt_of_pos (c : Int) (show (0 : Int) < w by omega)
          have q0 : 0 ≤ (c : Int).tdiv w := Int.tdiv_nonneg (by omega) (by omega)
          have q1 : (c : Int).tdiv w ≤ c := by rw [Int.tdiv_eq_ediv_of_nonneg (by omega)]; exact Int.ediv_le_self _ (by omega)
          have hgs := hgs c
          generalize hmv : (c : Int).tmod w = mv at *
          generalize hqv : (c : Int).tdiv w = qv at *
          generalize hvx : nth dxL d = vx at *
          generalize hvy : nth dyL d = vy at *
          have hp : 0 ≤ qv + vy → qv + vy < h → 0 ≤ (qv + vy) * w ∧ (qv + vy) * w ≤ 64 := fun k1 k2 =>
            ⟨Int.mul_nonneg k1 (by omega), by have := Int.mul_le_mul (show qv + vy ≤ 8 by omega) (show (w : Int) ≤ 8 by omega) (by omega) (by omega); omega⟩
          repeat first|with_reducible refine wV fun _=>?_|simp [go_sem, hd1, hd2, hmv, hqv, hD', hvx, hvy]
          refine zyK (fun hg => ?_) (fun hg => ?_) <;> simp at hg
          · rw [if_pos (by omega)] at hgs
            have hp := hp (by omega) (by omega)
            generalize hpw : (qv + vy) * (w : Int) = pw at *
            repeat first|with_reducible refine wV fun _=>?_|simp [go_sem, hpw]
            refine zyI (hrec2 (s - 1) (by omega) (c + 1) (by omega)) ?_ (by simp)
            simp [go_sem, zah, zim, hgs]
            (first|done|exact blX)
          · rw [if_neg (by omega)] at hgs
            repeat first|with_reducible refine wV fun _=>?_|simp [go_sem]
            refine zyI (hrec2 (s - 1) (by omega) (c + 1) (by omega)) ?_ (by simp)
            simp [go_sem, zah, zim, hgs]
            (first|done|exact blX)
        · have hcD : c = w * h := by omega
          subst hcD
          have hgn := zmA w h d
          have hgt := zmB d
          repeat first|with_reducible refine wV fun _=>?_|simp [go_sem]
          refine zyI (hrec (r - 1) (by omega) (d + 1) (by omega)) ?_ (by simp)
          simp [go_sem, zah, hgn, hgt]
          refine ⟨⟨?_, ?_⟩, ?_⟩
          · refine zag (.refl _) ?_
            refine zae.cons (zai.cons ?_ zai.nil) zae.nil
            refine LeV.frz rfl ?_ ?_ (zyT ?_) <;> simp [mkH, upd, lgr, List.take_of_length_le]
          · rintro r (⟨a, _, rfl⟩ | rfl) c hc <;> simp at hc <;> subst hc <;> exact of_eq_true zqA
          · (first|done|exact blX)
      · simp
      · simp [go_sem, zah, zd0]
      · simp
    · have hd8 : d = 8 := by omega
      subst hd8
      repeat first|with_reducible refine wV fun _=>?_|simp [go_sem]
      refine ⟨?_, ?_⟩ <;> (refine LeV.frz rfl ?_ ?_ (zyT ?_) <;> simp [noH, lgn, lgt, List.take_of_length_le])
  · simp
  · simp [go_sem, zah, edx, edy, zbQ, zbR]
  · simp
def zfe (b : zaL) (c : Int) (d x : Nat) : Int := if (x : Int) = c ∨ nth (nth b.next d) x = c then -1 else nth (nth b.next d) x
def zbW (b : zaL) (c : Int) (d n : Nat) : List Int := (List.range n).map (zfe b c d)
def zbc (b : zaL) (c : Int) (d : Nat) : List (List Int) := (List.range d).map fun d => zbW b c d b.cells.toNat
def zb9 (b : zaL) (c : Int) : zaL := ⟨b.cells, zbc b c b.next.length, b.turn⟩
theorem zfU (b : zaL) (c : Int) (d n : Nat) : zbW b c d (n + 1) = zbW b c d n ++ [zfe b c d n] := by simp [zbW, List.range_succ]
theorem ziK (b : zaL) (c : Int) (d : Nat) : zbc b c (d + 1) = zbc b c d ++ [zbW b c d b.cells.toNat] := by simp [zbc, List.range_succ]
theorem zkI (b : zaL) (hb : za2 b) (c : Int) (h0 : 0 ≤ c) (h1 : c < b.cells) : zaC Tryz.prog 133 [.agg (zde b), .v (.int .i64 c)] (.tup [.agg (zde (zb9 b c)), .v (.int .i64 0)]) := by
  refine pF Tryz.func133 ?_
  obtain ⟨tl, tv, nl, nv, c0, c1, n1⟩ := hb
  have e1 : (zde (zb9 b c)) = [.v (.int .i64 b.cells), zcr (zbc b c b.next.length), zas b.turn] := rfl
  rw [e1]
  repeat first|with_reducible refine wV fun _=>?_|simp [go_sem]
  (refine zyK (fun hF => by first | omega | (simp at hF; omega)) (fun hF => ?_); clear hF)
  repeat first|with_reducible refine wV fun _=>?_|simp [go_sem]
  refine zyI (zyN (α := Nat) (fun d => ⟨[(1, .v (.int .i64 c)), (2, .ref 0 0 3 0 0), (4, .ref 1 0 3 0 0), (6, .ref 9 0 3 0 0), (7, .v (.int .i64 d))],
      [(0, .rows true 0 3 [zde b]), (1, .rows true 0 3 [[.v (.int .i64 0), .v (.slice none 0 0), .v (.slice none 0 0)]]), (4, .rows true 1 1 (b.turn.map zb3)),
       (9, .rows true 0 3 [[.v (.int .i64 b.cells), .sl 11 d 1 0 d, .sl 4 1 1 0 b.turn.length]]), (11, .rows true d 1 ((zbc b c d).map fun l => [zas l]))], 12⟩)
    (fun r d => d + r = b.next.length) ?_ b.next.length 0 ?_) ?_ ?_
  · rintro r d i1 hrec
    have lgn : (zbc b c d).length = d := by simp [zbc]
    repeat first|with_reducible refine wV fun _=>?_|simp [go_sem]
    refine zyK (fun hd => ?_) (fun hd => ?_) <;> simp at hd
    · have hlen := nl _ (zan hd)
      repeat first|with_reducible refine wV fun _=>?_|simp [go_sem]
      refine zyI (zyN (α := Nat) (fun x => ⟨[(1, .v (.int .i64 c)), (2, .ref 0 0 3 0 0), (4, .ref 1 0 3 0 0), (6, .ref 9 0 3 0 0), (7, .v (.int .i64 d)), (8, .sl 12 x 1 0 x), (9, .v (.int .i64 x))],
          [(0, .rows true 0 3 [zde b]), (1, .rows true 0 3 [[.v (.int .i64 0), .v (.slice none 0 0), .v (.slice none 0 0)]]), (4, .rows true 1 1 (b.turn.map zb3)),
           (9, .rows true 0 3 [[.v (.int .i64 b.cells), .sl 11 d 1 0 d, .sl 4 1 1 0 b.turn.length]]), (11, .rows true d 1 ((zbc b c d).map fun l => [zas l])), (12, .rows true x 1 ((zbW b c d x).map zb3))], 13⟩)
        (fun s x => x + s = b.cells.toNat) ?_ b.cells.toNat 0 ?_) ?_ ?_
      · rintro s x j1 hrec2
        have lgr : (zbW b c d x).length = x := by simp [zbW]
        repeat first|with_reducible refine wV fun _=>?_|simp [go_sem]
        refine zyK (fun hx => ?_) (fun hx => ?_) <;> simp at hx
        · have hxl : x < (nth b.next d).length := by omega
          have hgs : zfe b c d x = if (x : Int) = c ∨ nth (nth b.next d) x = c then -1 else nth (nth b.next d) x := rfl
          repeat first|with_reducible refine wV fun _=>?_|simp [go_sem, hd, hxl]
          refine zyK (fun hg => ?_) (fun hg => ?_) <;> simp at hg
          · rw [if_pos (by omega)] at hgs
            repeat first|with_reducible refine wV fun _=>?_|simp [go_sem]
            refine zyI (hrec2 (s - 1) (by omega) (x + 1) (by omega)) ?_ (by simp)
            simp [go_sem, zah, zfU, hgs]
            (first|done|exact blX)
          · rw [if_neg (by omega)] at hgs
            repeat first|with_reducible refine wV fun _=>?_|simp [go_sem]
            refine zyI (hrec2 (s - 1) (by omega) (x + 1) (by omega)) ?_ (by simp)
            simp [go_sem, zah, zfU, hgs]
            (first|done|exact blX)
        · have hcD : x = b.cells.toNat := by omega
          subst hcD
          have hgn := ziK b c d
          repeat first|with_reducible refine wV fun _=>?_|simp [go_sem]
          refine zyI (hrec (r - 1) (by omega) (d + 1) (by omega)) ?_ (by simp)
          simp [go_sem, zah, hgn]
          refine ⟨?_, ?_⟩
          · refine zag (.refl _) ?_
            refine zae.cons (zai.cons ?_ zai.nil) zae.nil
            refine LeV.frz rfl ?_ ?_ (zyT ?_) <;> simp [mkH, upd, lgr, List.take_of_length_le]
          · rintro r (⟨a, _, rfl⟩ | rfl) c hc <;> simp at hc <;> subst hc <;> exact of_eq_true zqA
      · simp
      · simp [go_sem, zah, zbW]
      · simp
    · have hd8 : d = b.next.length := by omega
      subst hd8
      repeat first|with_reducible refine wV fun _=>?_|simp [go_sem]
      refine ⟨?_, ?_⟩ <;> (refine LeV.frz rfl ?_ ?_ (zyT ?_) <;> simp [noH, lgn, List.take_of_length_le])
  · simp
  · simp [go_sem, zah, zbc]
  · simp
theorem zic {w h : Nat} (hw : 1 ≤ w ∧ w ≤ 8) (hh : 1 ≤ h ∧ h ≤ 8) : za2 (zdg w h) := by
 have hwh : w * h ≤ 64 := Nat.mul_le_mul hw.2 hh.2
 have e : ((w : Int) * h) = ((w * h : Nat) : Int) := by simp
 refine ⟨by simp [zdg, zbR, zbQ], ?_, ?_, ?_, ?_, ?_, by simp [zdg, zbQ]⟩
 ·intro t ht
  simp only [zdg, zbR, List.mem_map, List.mem_range] at ht
  obtain ⟨i, hi, rfl⟩ := ht
  have h1 := Int.tmod_nonneg 8 (show (0 : Int) ≤ (i : Int) + 4 by omega)
  have h2 := Int.tmod_lt_of_pos ((i : Int) + 4) (show (0 : Int) < 8 by decide)
  simp [zdg, zbQ]; omega
 ·intro l hl
  simp only [zdg, zbQ, List.mem_map, List.mem_range] at hl
  obtain ⟨i, hi, rfl⟩ := hl
  simp [zd0, zdg]
 ·intro l hl x hx
  simp only [zdg, zbQ, List.mem_map, List.mem_range] at hl
  obtain ⟨i, hi, rfl⟩ := hl
  simp only [zd0, List.mem_map, List.mem_range] at hx
  obtain ⟨c, hc, rfl⟩ := hx
  simp only [zdg, zf0]
  split
  ·rename_i hg
   obtain ⟨⟨g1, g2⟩, g3, g4⟩ := hg
   generalize (c : Int).tmod w + nth dxL i = x at *
   generalize (c : Int).tdiv w + nth dyL i = y at *
   have k1 : 0 ≤ y * w := Int.mul_nonneg g3 (by omega)
   have k2 : y * w ≤ (h - 1) * w := Int.mul_le_mul_of_nonneg_right (by omega) (by omega)
   have k3 : ((h : Int) - 1) * w = w * h - w := by rw [Int.sub_mul, Int.mul_comm]; simp
   omega
  ·omega
 ·simp [zdg]; omega
 ·simp only [zdg]; omega
theorem zjo {b : zaL} (hb : za2 b) (c : Int) : za2 (zb9 b c) := by
 have hl : (zbc b c b.next.length).length = b.next.length := by simp [zbc]
 have hc0 := hb.c0
 refine ⟨by simp only [zb9, hl]; exact hb.tl, ?_, ?_, ?_, hb.c0, hb.c1, by simp only [zb9, hl]; exact hb.n1⟩
 ·intro t ht
  simp only [zb9, hl]
  exact hb.tv t ht
 ·intro l hl
  simp only [zb9, zbc, List.mem_map, List.mem_range] at hl
  obtain ⟨i, hi, rfl⟩ := hl
  simp [zbW, zb9]; omega
 ·intro l hl x hx
  simp only [zb9, zbc, List.mem_map, List.mem_range] at hl
  obtain ⟨i, hi, rfl⟩ := hl
  simp only [zbW, List.mem_map, List.mem_range] at hx
  obtain ⟨k, hk, rfl⟩ := hx
  simp only [zb9, zfe]
  split
  ·omega
  ·have h1 := hb.nl _ (zan hi)
   exact hb.nv _ (zan hi) _ (zan (by omega))
def zeG (w h cut : Int) : zaL :=
 if 200 < cut then zb9 (zdg (1 + w.tmod 3).toNat (1 + h.tmod 3).toNat) (cut.tmod (zdg (1 + w.tmod 3).toNat (1 + h.tmod 3).toNat).cells) else zdg (1 + w.tmod 3).toNat (1 + h.tmod 3).toNat
theorem zid {w h : Int} (hw : 0 ≤ w) (hh : 0 ≤ h) (cut : Int) : za2 (zeG w h cut) := by
 have a0 := Int.tmod_nonneg 3 hw
 have a1 := Int.tmod_lt_of_pos w (show (0 : Int) < 3 by decide)
 have b0 := Int.tmod_nonneg 3 hh
 have b1 := Int.tmod_lt_of_pos h (show (0 : Int) < 3 by decide)
 have hg : za2 (zdg (1 + w.tmod 3).toNat (1 + h.tmod 3).toNat) := zic (by omega) (by omega)
 unfold zeG
 split
 ·exact zjo hg _
 ·exact hg
theorem zoX (w h cut : Int) (hw : 0 ≤ w ∧ w ≤ 255) (hh : 0 ≤ h ∧ h ≤ 255) (hc : 0 ≤ cut ∧ cut ≤ 255) : zaC Tryz.prog 68 [.v (.int .u8 w), .v (.int .u8 h), .v (.int .u8 cut)] (.agg (zde (zeG w h cut))) := by
 refine pF Tryz.func68 ?_
 have a0 := Int.tmod_nonneg 3 hw.1
 have a1 := Int.tmod_lt_of_pos w (show (0 : Int) < 3 by decide)
 have b0 := Int.tmod_nonneg 3 hh.1
 have b1 := Int.tmod_lt_of_pos h (show (0 : Int) < 3 by decide)
 obtain ⟨W, hW⟩ : ∃ W : Nat, 1 + w.tmod 3 = W := ⟨(1 + w.tmod 3).toNat, by omega⟩
 obtain ⟨H, hH⟩ : ∃ H : Nat, 1 + h.tmod 3 = H := ⟨(1 + h.tmod 3).toNat, by omega⟩
 have e : zeG w h cut = if 200 < cut then zb9 (zdg W H) (cut.tmod (zdg W H).cells) else zdg W H := by unfold zeG; rw [hW, hH]; rfl
 rw [e]
 have hG := zoW W H (by omega) (by omega)
 have hok : za2 (zdg W H) := zic (by omega) (by omega)
 have hcl : 1 ≤ (zdg W H).cells := by
  have : 1 * 1 ≤ W * H := Nat.mul_le_mul (by omega) (by omega)
  simp only [zdg]; exact_mod_cast this
 generalize zdg W H = b at *
 have m0 := Int.tmod_nonneg b.cells hc.1
 have m1 := Int.tmod_lt_of_pos cut (show (0 : Int) < b.cells by omega)
 have hWo := zkI b hok (cut.tmod b.cells) m0 m1
 have hel : (zde b).length = 3 := rfl
 have hbl : ∀ n, (∀ c' ∈ zde b, Bel n c') = True := fun n => by simp [go_sem]
 repeat first|with_reducible refine wV fun _=>?_|simp [go_sem, hW, hH]
 refine zyJ hG (by simp [go_sem]) ?_
 repeat first|with_reducible refine wV fun _=>?_|simp [go_sem]
 refine zyK (fun hcut => ?_) (fun hcut => ?_) <;> simp at hcut
 ·rw [if_pos hcut]
  repeat first|with_reducible refine wV fun _=>?_|simp [go_sem]
  refine zyM hWo (by simp [go_sem]) ?_
  repeat first|with_reducible refine wV fun _=>?_|simp [go_sem]
 ·rw [if_neg (by omega)]
  repeat first|with_reducible refine wV fun _=>?_|simp [go_sem]
def zar (p : List (Int × Int)) : AV := .lst 2 (p.map zau)
theorem bel_S {n : Nat} {l : List (Int × Int)} : (∀ r ∈ l.map zau, ∀ c ∈ r, Bel n c) = True := by
  refine eq_true ?_
  intro r hr c hc
  obtain ⟨x, _, rfl⟩ := List.mem_map.1 hr
  simp only [zau, List.mem_cons, List.mem_nil_iff, or_false] at hc
  rcases hc with rfl | rfl <;> exact .v _
theorem zmh {n : Nat} {l : List (Int × Int)} : Bel n (.lst 2 (l.map zau)) = True := by rw [zcN, bel_S]
attribute [go_sem] zar
attribute [go_sem high] zmh
theorem zth (l : List Int) (i : Nat) (hi : i ≤ 1000) (hl : l.length ≤ 9223372036854775807) (hv : ∀ x ∈ l, 0 ≤ x ∧ x ≤ 255) : zaC Tryz.prog 187 [zr9 l, .v (.int .i64 i)] (.v (.int .i64 (if i < l.length then nth l i else 0))) := by
  refine pF Tryz.func187 ?_
  repeat first|with_reducible refine wV fun _=>?_|simp [go_sem]
  refine zyK (fun h => ?_) (fun h => ?_) <;> simp at h
  · have hb := hv _ (zan h)
    rw [if_pos h]
    repeat first|with_reducible refine wV fun _=>?_|simp [go_sem, h]
  · rw [if_neg (by omega)]
    repeat first|with_reducible refine wV fun _=>?_|simp [go_sem]
def zoL (d e k r : Int) : List (List (Int × Int)) :=
  [[(1, d), (3, 0)], [(1, d), (4, 0), (6, 0)], [(2, d)], [(2, d), (4, 0), (6, 0)], [(1, d), (4, 0), (6, 0), (1, d)], [(1, d), (1, e)], [(1, d), (7, d)], [(1, d), (3, 0), (8, k)],
   [(9, r), (1, d), (1, d), (10, r)], [(1, d), (5, 0), (1, d), (3, 0)], [(10, r), (1, d)], [(1, d), (4, 0), (6, 0), (1, (d + 4).tmod 8)], [(1, d), (4, 0), (6, 0), (1, e), (4, 0), (6, 0)], [(2, d), (5, 0), (1, d)], [(1, d), (4, 0), (6, 0), (8, k)], [(1, d), (7, d), (1, e)]]
theorem zrv (a b c d e : Int) (hv : ∀ x ∈ [a, b, c, d, e], 0 ≤ x ∧ x ≤ 255) : zaC Tryz.prog 135 [zr9 [a, b, c, d, e]] (zar (nth (zoL (b.tmod 8) (c.tmod 8) (d.tmod 6) (e.tmod 4)) (a.tmod 16).toNat)) := by
  refine pF Tryz.func135 ?_
  have hA := fun (i : Nat) (hi : i < 5) => zth [a, b, c, d, e] i (by omega) (by simp) hv
  have h0 := hA 0 (by omega)
  have h1 := hA 1 (by omega)
  have h2 := hA 2 (by omega)
  have h3 := hA 3 (by omega)
  have h4 := hA 4 (by omega)
  clear hA
  simp [nth] at h0 h1 h2 h3 h4 hv
  obtain ⟨v0, v1, v2, v3, v4⟩ := hv
  have b0 := Int.tmod_nonneg 8 v1.1
  have b1 := Int.tmod_lt_of_pos b (show (0 : Int) < 8 by decide)
  have a0 := Int.tmod_nonneg 16 v0.1
  have a1 := Int.tmod_lt_of_pos a (show (0 : Int) < 16 by decide)
  repeat first|with_reducible refine wV fun _=>?_|simp [go_sem]
  refine zyJ h1 (by simp [go_sem]) ?_
  repeat first|with_reducible refine wV fun _=>?_|simp [go_sem]
  refine zyJ h2 (by simp [go_sem]) ?_
  repeat first|with_reducible refine wV fun _=>?_|simp [go_sem]
  refine zyJ h3 (by simp [go_sem]) ?_
  repeat first|with_reducible refine wV fun _=>?_|simp [go_sem]
  refine zyJ h4 (by simp [go_sem]) ?_
  generalize hbv : b.tmod 8 = B at *
  generalize hcv : c.tmod 8 = C at *
  generalize hdv : d.tmod 6 = D at *
  generalize hev : e.tmod 4 = E at *
  repeat first|with_reducible refine wV fun _=>?_|simp [go_sem, hbv, hcv, hdv, hev]
  refine zyJ h0 (by simp [go_sem]) ?_
  repeat first|with_reducible refine wV fun _=>?_|simp [go_sem]
  obtain ⟨i, hi⟩ : ∃ i : Nat, a.tmod 16 = i := ⟨(a.tmod 16).toNat, by omega⟩
  rw [hi] at a0 a1 ⊢
  rcases (show i = 0 ∨ i = 1 ∨ i = 2 ∨ i = 3 ∨ i = 4 ∨ i = 5 ∨ i = 6 ∨ i = 7 ∨ i = 8 ∨ i = 9 ∨ i = 10 ∨ i = 11 ∨ i = 12 ∨ i = 13 ∨ i = 14 ∨ i = 15 by omega) with rfl | rfl | rfl | rfl | rfl | rfl | rfl | rfl | rfl | rfl | rfl | rfl | rfl | rfl | rfl | rfl <;>
    (simp [nth, cel, zoL, zau]; refine LeV.frz rfl ?_ ?_ (zyT ?_) <;> simp [noH])
def zbE (dirs kinds rights : Int) (x : Int × Int) : Option (Int × Int) :=
 if x.1 = 1 ∨ x.1 = 2 ∨ x.1 = 7 then some (x.1, x.2.tmod dirs) else if x.1 = 8 then some (x.1, x.2.tmod kinds)
 else if x.1 = 9 ∨ x.1 = 10 then (if rights = 0 then none else some (x.1, x.2.tmod rights)) else some x
def zxm (dirs kinds rights : Int) (p : List (Int × Int)) : List (Int × Int) := if p.filterMap (zbE dirs kinds rights) = [] then [(3, 0)] else p.filterMap (zbE dirs kinds rights)
theorem zuf {α β : Type} [Inhabited α] (f : α → Option β) (l : List α) (j : Nat) (h : j < l.length) : (l.take (j + 1)).filterMap f = (l.take j).filterMap f ++ (f (nth l j)).toList := by
 rw [List.take_add_one, List.filterMap_append, List.getElem?_eq_getElem h, zaJ _ _ h]
 cases hf : f l[j] <;> simp [hf]
theorem zru (p : List (Int × Int)) (hp : p.length ≤ 1048576) (dirs kinds rights : Int) (hd : 1 ≤ dirs) (hk : 1 ≤ kinds) (hr : 0 ≤ rights) :
  zaC Tryz.prog 134 [zar p, .v (.int .i64 dirs), .v (.int .i64 kinds), .v (.int .i64 rights)] (zar (zxm dirs kinds rights p)) := by
 refine pF Tryz.func134 ?_
 repeat first|with_reducible refine wV fun _=>?_|simp [go_sem]
 refine zyI (zyN (α := Nat × List (Int × Int)) (fun a => ⟨[(0, zar p), (1, .v (.int .i64 dirs)), (2, .v (.int .i64 kinds)), (3, .v (.int .i64 rights)), (9, .sl 0 a.2.length 2 0 a.2.length), (10, .v (.int .i64 a.1))], [(0, .rows true a.2.length 2 (a.2.map zau))], 1⟩)
  (fun d a => a.1 + d = p.length ∧ a.2 = (p.take a.1).filterMap (zbE dirs kinds rights) ∧ a.2.length ≤ a.1) ?_ p.length (0, []) ?_) ?_ ?_
 ·rintro d ⟨j, out⟩ ⟨i1, i2, i3⟩ hrec
  simp only at i1 i2 i3
  repeat first|with_reducible refine wV fun _=>?_|simp [go_sem]
  refine zyK (fun hj => ?_) (fun hj => ?_) <;> simp at hj
  ·have hs := zuf (zbE dirs kinds rights) p j hj
   rw [← i2] at hs
   generalize hx : nth p j = x at *
   obtain ⟨op, n⟩ := x
   have hgo : ∀ y, zbE dirs kinds rights (op, n) = some y → out ++ [y] = (p.take (j + 1)).filterMap (zbE dirs kinds rights) ∧ (out ++ [y]).length ≤ j + 1 := fun y hy => by rw [hs, hy]; simp; omega
   have hbel : ∀ y : Int × Int, ∀ r ∈ (out ++ [y]).map zau, ∀ c ∈ r, Bel 1 c := fun y => of_eq_true bel_S
   rcases (show (op = 1 ∨ op = 2 ∨ op = 7) ∨ op = 8 ∨ (op = 9 ∨ op = 10) ∨ (op ≠ 1 ∧ op ≠ 2 ∧ op ≠ 7 ∧ op ≠ 8 ∧ op ≠ 9 ∧ op ≠ 10) by omega) with c1 | c1 | c1 | ⟨c1, c2, c3, c4, c5, c6⟩
   ·have hf : zbE dirs kinds rights (op, n) = some (op, n.tmod dirs) := by unfold zbE; rw [if_pos c1]
    obtain ⟨k1, k2⟩ := hgo _ hf
    have hb := hbel (op, n.tmod dirs)
    rcases c1 with rfl | rfl | rfl <;>
    ·repeat first|with_reducible refine wV fun _=>?_|simp [go_sem, hj, hx]
     refine zyI (hrec (d - 1) (by omega) (j + 1, out ++ [(_, n.tmod dirs)]) ⟨by simp only; omega, k1, k2⟩) ?_ (by simp)
     simp [go_sem, zah] at hb ⊢
     try exact hb
   ·have hf : zbE dirs kinds rights (op, n) = some (op, n.tmod kinds) := by unfold zbE; rw [if_neg (by omega), if_pos c1]
    obtain ⟨k1, k2⟩ := hgo _ hf
    have hb := hbel (op, n.tmod kinds)
    subst c1
    repeat first|with_reducible refine wV fun _=>?_|simp [go_sem, hj, hx]
    refine zyI (hrec (d - 1) (by omega) (j + 1, out ++ [(_, n.tmod kinds)]) ⟨by simp only; omega, k1, k2⟩) ?_ (by simp)
    simp [go_sem, zah] at hb ⊢
    try exact hb
   ·by_cases hr0 : rights = 0
    ·have hf : zbE dirs kinds rights (op, n) = none := by unfold zbE; rw [if_neg (by omega), if_neg (by omega), if_pos c1, if_pos hr0]
     rw [hf, Option.toList_none, List.append_nil] at hs
     have hb := hbel (op, n)
     subst hr0
     rcases c1 with rfl | rfl <;>
     ·repeat first|with_reducible refine wV fun _=>?_|simp [go_sem, hj, hx]
      refine zyI (hrec (d - 1) (by omega) (j + 1, out) ⟨by simp only; omega, hs.symm, by simp only; omega⟩) ?_ (by simp)
      simp [go_sem, zah]
      rintro r x y _ rfl c hc
      simp at hc
      rcases hc with rfl | rfl <;> exact .v _
    ·have hf : zbE dirs kinds rights (op, n) = some (op, n.tmod rights) := by unfold zbE; rw [if_neg (by omega), if_neg (by omega), if_pos c1, if_neg hr0]
     obtain ⟨k1, k2⟩ := hgo _ hf
     have hb := hbel (op, n.tmod rights)
     rcases c1 with rfl | rfl <;>
     ·repeat first|with_reducible refine wV fun _=>?_|simp [go_sem, hj, hx, hr0]
      refine zyI (hrec (d - 1) (by omega) (j + 1, out ++ [(_, n.tmod rights)]) ⟨by simp only; omega, k1, k2⟩) ?_ (by simp)
      simp [go_sem, zah] at hb ⊢
      try exact hb
   ·have hf : zbE dirs kinds rights (op, n) = some (op, n) := by unfold zbE; rw [if_neg (by omega), if_neg (by omega), if_neg (by omega)]
    obtain ⟨k1, k2⟩ := hgo _ hf
    have hb := hbel (op, n)
    repeat first|with_reducible refine wV fun _=>?_|simp [go_sem, hj, hx, c1, c2, c3, c4, c5, c6]
    refine zyI (hrec (d - 1) (by omega) (j + 1, out ++ [(op, n)]) ⟨by simp only; omega, k1, k2⟩) ?_ (by simp)
    simp [go_sem, zah] at hb ⊢
    try exact hb
  ·have hout : zxm dirs kinds rights p = if out = [] then [(3, 0)] else out := by
    unfold zxm
    rw [i2, List.take_of_length_le hj]
   rw [hout]
   repeat first|with_reducible refine wV fun _=>?_|simp [go_sem]
   refine zyK (fun ho => ?_) (fun ho => ?_) <;> simp at ho
   ·rw [if_pos ho]
    repeat first|with_reducible refine wV fun _=>?_|simp [go_sem]
    refine LeV.frz rfl ?_ ?_ (zyT ?_) <;> simp [noH]
   ·rw [if_neg ho]
    repeat first|with_reducible refine wV fun _=>?_|simp [go_sem]
    refine LeV.frz rfl ?_ ?_ (zyT ?_) <;> simp [noH, List.take_of_length_le]
 ·simp
 ·simp [go_sem, zah]
 ·simp
def zkW (n dirs kinds rights : Int) : List (Int × Int) :=
 zxm dirs kinds rights (nth (zoL ((n.tdiv 16).tmod 8) ((n.tdiv 16 + n.tmod 5).tmod 8) ((n.tdiv 3).tmod 6) (n.tmod 4)) (n.tmod 16).toNat)
theorem zwz (d e k r : Int) (i : Nat) : (nth (zoL d e k r) i).length ≤ 6 := by
 rcases Nat.lt_or_ge i 16 with h | h
 ·have : ∀ l ∈ zoL d e k r, l.length ≤ 6 := by simp [zoL]
  exact this _ (zan h)
 ·have : nth (zoL d e k r) i = [] := by
   unfold nth
   rw [List.getD_eq_getElem?_getD, List.getElem?_eq_none (by exact h)]; rfl
  rw [this]; simp
theorem zeS (n dirs kinds rights : Int) (hn : 0 ≤ n ∧ n ≤ 255) (hd : 1 ≤ dirs) (hk : 1 ≤ kinds) (hr : 0 ≤ rights) :
  zaC Tryz.prog 69 [.v (.int .u8 n), .v (.int .i64 dirs), .v (.int .i64 kinds), .v (.int .i64 rights)] (zar (zkW n dirs kinds rights)) := by
 refine pF Tryz.func69 ?_
 have q0 : 0 ≤ n.tdiv 16 ∧ n.tdiv 16 ≤ 15 := by rw [Int.tdiv_eq_ediv_of_nonneg hn.1]; omega
 have q1 : 0 ≤ n.tdiv 3 ∧ n.tdiv 3 ≤ 255 := by rw [Int.tdiv_eq_ediv_of_nonneg hn.1]; omega
 have m0 := Int.tmod_nonneg 5 hn.1
 have m1 := Int.tmod_lt_of_pos n (show (0 : Int) < 5 by decide)
 have hL := zrv n (n.tdiv 16) (n.tdiv 16 + n.tmod 5) (n.tdiv 3) n (by simp; omega)
 unfold zkW
 have hpl := zwz ((n.tdiv 16).tmod 8) ((n.tdiv 16 + n.tmod 5).tmod 8) ((n.tdiv 3).tmod 6) (n.tmod 4) (n.tmod 16).toNat
 generalize nth (zoL ((n.tdiv 16).tmod 8) ((n.tdiv 16 + n.tmod 5).tmod 8) ((n.tdiv 3).tmod 6) (n.tmod 4)) (n.tmod 16).toNat = p at *
 have hF := zru p (by omega) dirs kinds rights hd hk hr
 generalize hqa : n.tdiv 16 = qa at *
 generalize hqb : n.tdiv 3 = qb at *
 generalize hmc : n.tmod 5 = mc at *
 repeat first|with_reducible refine wV fun _=>?_|simp [go_sem, hqa, hqb, hmc]
 refine zyP [0] hL ?_ (by simp [go_sem]) ?_
 ·refine zai.cons ?_ zai.nil
  refine LeV.frz rfl ?_ ?_ (zyT ?_) <;> simp [zaK, zaR, upd, znC]
 ·repeat first|with_reducible refine wV fun _=>?_|simp [go_sem]
  refine zyJ hF (by simp [go_sem]) ?_
  repeat first|with_reducible refine wV fun _=>?_|simp [go_sem]
def zaq (c : Int) : Int × Int := if 1 ≤ c ∧ c ≤ 12 then ((c - 1).tdiv 2, (c - 1).tmod 2) else (-1, -1)
def zaD (k s : Int) : Int := if (0 ≤ k ∧ k ≤ 5) ∧ 0 ≤ s ∧ s ≤ 1 then 2 * k + 1 + s else 0
structure StD where
 p : zaj
 kind : Int
 cursor : Int
 took : Bool
 deriving DecidableEq
structure zco where
 pos : zaj
 took : Bool
 deriving DecidableEq
instance : Inhabited StD := ⟨⟨default, 0, 0, false⟩⟩
instance : Inhabited zco := ⟨⟨default, false⟩⟩
def zal (s : StD) : List AV := [zas s.p.at_, zas s.p.h0, zas s.p.h1, .v (.int .i64 s.p.rights), .v (.int .i64 s.p.side), .v (.int .i64 s.kind), .v (.int .i64 s.cursor), .v (.bool s.took)]
def zaO (l : List StD) : AV := .lst 8 (l.map zal)
def zat (o : zco) : List AV := [zas o.pos.at_, zas o.pos.h0, zas o.pos.h1, .v (.int .i64 o.pos.rights), .v (.int .i64 o.pos.side), .v (.bool o.took)]
def za3 (l : List zco) : AV := .lst 6 (l.map zat)
attribute [go_sem] zal zaO zat za3
theorem zqC {n : Nat} {l : List StD} : (∀ r ∈ l.map zal, ∀ c ∈ r, Bel n c) = True := by
 refine eq_true ?_
 intro r hr c hc
 obtain ⟨x, _, rfl⟩ := List.mem_map.1 hr
 revert c
 simp [go_sem]
theorem zpj {n : Nat} {l : List StD} : Bel n (.lst 8 (l.map zal)) = True := by rw [zcN, zqC]
theorem zqB {n : Nat} {l : List zco} : (∀ r ∈ l.map zat, ∀ c ∈ r, Bel n c) = True := by
 refine eq_true ?_
 intro r hr c hc
 obtain ⟨x, _, rfl⟩ := List.mem_map.1 hr
 revert c
 simp [go_sem]
theorem zxO {n : Nat} {l : List zco} : Bel n (.lst 6 (l.map zat)) = True := by rw [zcN, zqB]
attribute [go_sem high] zpj zxO
def zaj.hand (p : zaj) (side : Int) : List Int := if side = 0 then p.h0 else p.h1
def zaj.withHand (p : zaj) (side : Int) (l : List Int) : zaj := if side = 0 then { p with h0 := l } else { p with h1 := l }
structure zex (dirs kinds rights : Int) (x : Int × Int) : Prop where
 op : 1 ≤ x.1 ∧ x.1 ≤ 10
 dir : x.1 = 1 ∨ x.1 = 2 ∨ x.1 = 7 → 0 ≤ x.2 ∧ x.2 < dirs
 zero : x.1 = 3 ∨ x.1 = 4 ∨ x.1 = 5 ∨ x.1 = 6 → x.2 = 0
 kind : x.1 = 8 → 0 ≤ x.2 ∧ x.2 < kinds
 right : x.1 = 9 ∨ x.1 = 10 → 0 ≤ x.2 ∧ x.2 < rights
def zaI (p : List (Int × Int)) (op : Int) : Nat := p.countP (fun x => x.1 == op)
structure zm5 (dirs kinds rights : Int) (p : List (Int × Int)) : Prop where
 ne : 1 ≤ p.length
 len : p.length ≤ 8
 st : ∀ x ∈ p, zex dirs kinds rights x
 take : zaI p 6 ≤ 2
 push : zaI p 7 ≤ 1
 become : zaI p 8 ≤ 1
structure zfV (cells kinds : Int) (c : Int × Int × Int × Int) : Prop where
 cond : c.1 = 1 ∨ c.1 = 2 ∨ c.1 = 3
 kind : 0 ≤ c.2.1 ∧ c.2.1 < kinds
 n : 0 ≤ c.2.2.1 ∧ (c.1 = 2 → c.2.2.1 < cells) ∧ (c.1 = 1 → c.2.2.1 = 0) ∧ c.2.2.1 ≤ 64
 then_ : 1 ≤ c.2.2.2 ∧ c.2.2.2 ≤ 3
 few : c.1 = 3 → c.2.1 = 0
structure GOk (g : zaf) : Prop where
 board : za2 g.board
 c1 : 1 ≤ g.cells
 c9 : g.cells ≤ 9
 d1 : 1 ≤ g.next.length
 d8 : g.next.length ≤ 8
 turn : ∀ d, d < g.turn.length → nth g.turn (nth g.turn d).toNat = d
 k1 : 1 ≤ g.kinds.length
 k6 : g.kinds.length ≤ 6
 pn : ∀ k ∈ g.kinds, k.progs.length ≤ 8
 pr : ∀ k ∈ g.kinds, ∀ p ∈ k.progs, zm5 g.next.length g.kinds.length g.rights p
 r0 : 0 ≤ g.rights
 r4 : g.rights ≤ 4
 cl : ∀ c ∈ g.clauses, zfV g.cells g.kinds.length c
 cn : g.clauses.length ≤ 6
 bl : 1 ≤ g.blocked ∧ g.blocked ≤ 3
 en : 1 ≤ g.endless ∧ g.endless ≤ 3
def zbN (s : StD) : List Int → List StD
 | [] => []
 | c :: l => { s with cursor := c } :: (if nth s.p.at_ c.toNat = 0 then zbN s l else [])
def zkn (b : zaL) (s : StD) (n : Int) : List StD := zbN s (zfH b s.p.side n s.cursor)
def clr (p : zaj) (c : Int) : zaj := { p with at_ := p.at_.set c.toNat 0 }
def zmS (g : zaf) (s : StD) : List StD :=
 let m := zaq (nth s.p.at_ s.cursor.toNat)
 if m.1 < 0 ∨ m.2 = s.p.side then [] else
 if (nth g.kinds m.1.toNat).keep = true then
  if 8 < nth (s.p.hand s.p.side) m.1.toNat + 1 then []
  else [{ s with p := (clr s.p s.cursor).withHand s.p.side ((s.p.hand s.p.side).set m.1.toNat (nth (s.p.hand s.p.side) m.1.toNat + 1)), took := true }]
 else [{ s with p := clr s.p s.cursor, took := true }]
def zmN (g : zaf) (s : StD) (n : Int) : List StD :=
 let to := toB g.board s.p.side n s.cursor
 if nth s.p.at_ s.cursor.toNat = 0 ∨ to < 0 ∨ nth s.p.at_ to.toNat ≠ 0 then []
 else [{ s with p := { s.p with at_ := (s.p.at_.set to.toNat (nth s.p.at_ s.cursor.toNat)).set s.cursor.toNat 0 } }]
def zcQ (s : StD) (b : Bool) : List StD := if b then [s] else []
def zbV (g : zaf) (s : StD) (x : Int × Int) : List StD :=
 let m := zaq (nth s.p.at_ s.cursor.toNat)
 if x.1 = 1 then zcQ { s with cursor := toB g.board s.p.side x.2 s.cursor } (decide (0 ≤ toB g.board s.p.side x.2 s.cursor))
 else if x.1 = 2 then zkn g.board s x.2
 else if x.1 = 3 then zcQ s (decide (m.1 < 0))
 else if x.1 = 4 then zcQ s (decide (0 ≤ m.1 ∧ m.2 ≠ s.p.side))
 else if x.1 = 5 then zcQ s (decide (0 ≤ m.1 ∧ m.2 = s.p.side))
 else if x.1 = 6 then zmS g s
 else if x.1 = 7 then zmN g s x.2
 else if x.1 = 8 then [{ s with kind := x.2 }]
 else if x.1 = 9 then zcQ s (decide (zhA .i64 (s.p.rights.fdiv (2 ^ x.2.toNat)) 1 = 1))
 else if x.1 = 10 then [{ s with p := { s.p with rights := zbt .i64 s.p.rights (2 ^ x.2.toNat) } }]
 else [s]
def zev (l : List StD) (more : List StD) : List StD := more.foldl (fun l s => if s ∈ l then l else l ++ [s]) l
def zgA (g : zaf) (now : List StD) (x : Int × Int) : List StD := now.foldl (fun next s => zev next (zbV g s x)) []
def zeL (p : zaj) (cell : Int) : StD := ⟨clr p cell, (zaq (nth p.at_ cell.toNat)).1, cell, false⟩
def zeq (g : zaf) (p : zaj) (cell : Int) (prog : List (Int × Int)) : List StD := prog.foldl (zgA g) [zeL p cell]
def za5 (g : zaf) (p : zaj) (cell i : Int) : List (Int × Int) := nth (nth g.kinds (zaq (nth p.at_ cell.toNat)).1.toNat).progs i.toNat
def zgc (side : Int) (s : StD) : Option zco :=
 if nth s.p.at_ s.cursor.toNat = 0 then some ⟨{ s.p with at_ := s.p.at_.set s.cursor.toNat (zaD s.kind side), side := 1 - side }, s.took⟩ else none
def zif (a b : zco) : Int := zyg (zbw a.pos b.pos) (zba (if a.took then 1 else 0) (if b.took then 1 else 0))
theorem zch : Cmp zif := by
 have h : Cmp (fun (a b : Bool) => zba (if a then 1 else 0) (if b then 1 else 0)) :=
  zbS.pull (fun b : Bool => if b then (1 : Int) else 0) (fun a b => by cases a <;> cases b <;> simp)
 exact (za8.prod h).pull (fun o : zco => (o.pos, o.took)) (fun a b e => by cases a; cases b; simp at e; simp [e])
def zn6 (a b : zco) : Bool := decide (zbw a.pos b.pos < 0) || (decide (zbw a.pos b.pos = 0) && !a.took && b.took)
def zbL (x : zco) : List zco → List zco
 | [] => [x]
 | y :: l => if zn6 y x then y :: zbL x l else if zn6 x y then x :: y :: l else y :: l
def zdr (g : zaf) (p : zaj) (cell i : Int) : List zco := zbk zif ((zeq g p cell (za5 g p cell i)).filterMap (zgc p.side))
def zfx (g : zaf) (p : zaj) (k c : Nat) : Option zaj :=
 if nth (p.hand p.side) k = 0 ∨ nth p.at_ c ≠ 0 then none
 else some { ({ p with at_ := p.at_.set c (zaD k p.side) }.withHand p.side ((p.hand p.side).set k (nth (p.hand p.side) k - 1))) with side := 1 - p.side }
def zt2 (g : zaf) (p : zaj) : List zaj := (List.range g.kinds.length).flatMap fun k => (List.range p.at_.length).filterMap fun c => zfx g p k c
def zcF (g : zaf) (p : zaj) : List zaj := zbk zbw (zt2 g p)
def zgx (p : zaj) (side kind : Int) (c : Int) : Bool := decide (0 ≤ (zaq c).1) && decide ((zaq c).2 = side) && (decide (kind < 0) || decide ((zaq c).1 = kind))
def zqV (p : zaj) (side kind : Int) : Nat := p.at_.countP (zgx p side kind)
def zdE (c : Int × Int × Int × Int) (p : zaj) : Bool :=
 if c.1 = 1 then decide (zqV p p.side c.2.1 = 0)
 else if c.1 = 2 then decide (nth p.at_ c.2.2.1.toNat = zaD c.2.1 (1 - p.side))
 else decide ((zqV p p.side (-1) : Int) ≤ c.2.2.1)
def zcj (g : zaf) (p : zaj) : Int := match g.clauses.findIdx? (fun c => zdE c p) with | some i => (i : Int) | none => -1
def zdj (g : zaf) (p : zaj) (c : Nat) : List zco :=
 if 0 ≤ (zaq (nth p.at_ c)).1 ∧ (zaq (nth p.at_ c)).2 = p.side then
  (List.range (nth g.kinds (zaq (nth p.at_ c)).1.toNat).progs.length).flatMap fun (i : Nat) => zdr g p c i
 else []
def zdC (g : zaf) (p : zaj) : List zco := (List.range p.at_.length).flatMap (zdj g p)
def ziH (g : zaf) (p : zaj) : Bool := g.must && (zdC g p).any (·.took)
def zdH (g : zaf) (p : zaj) : List zaj := ((zdC g p).filter fun o => !mustP g p || o.took).map (·.pos) ++ (if ziH g p then [] else zcF g p)
def zaH (g : zaf) (p : zaj) : List zaj := if 0 ≤ zcj g p then [] else zbk zbw (zdH g p)
structure zgr where
 w : Int
 h : Int
 cut : Int
 k0 : List Int
 k1 : List Int
 c : List (Int × Int × Int)
 f0 : Int
 f1 : Int
 f2 : Int
 f3 : Int
 f4 : Int
 f5 : Int
def U8 (n : Int) : Prop := 0 ≤ n ∧ n ≤ 255
structure zjc (x : zgr) : Prop where
 w : U8 x.w
 h : U8 x.h
 cut : U8 x.cut
 k0 : ∀ n ∈ x.k0, U8 n
 k1 : ∀ n ∈ x.k1, U8 n
 c : ∀ t ∈ x.c, U8 t.1 ∧ U8 t.2.1 ∧ U8 t.2.2
 f0 : U8 x.f0
 f1 : U8 x.f1
 f2 : U8 x.f2
 f3 : U8 x.f3
 f4 : U8 x.f4
 f5 : U8 x.f5
def zt3 (c : Int × Int × Int) : List AV := [.v (.int .u8 c.1), .v (.int .u8 c.2.1), .v (.int .u8 c.2.2)]
def zcz (x : zgr) : List AV := [.v (.int .u8 x.w), .v (.int .u8 x.h), .v (.int .u8 x.cut), zr9 x.k0, zr9 x.k1, .lst 3 (x.c.map zt3),
 .v (.int .u8 x.f0), .v (.int .u8 x.f1), .v (.int .u8 x.f2), .v (.int .u8 x.f3), .v (.int .u8 x.f4), .v (.int .u8 x.f5)]
attribute [go_sem] zt3 zcz
theorem zxa {n : Nat} {l : List (Int × Int × Int)} : (∀ r ∈ l.map zt3, ∀ c ∈ r, Bel n c) = True := by
 refine eq_true ?_
 intro r hr c hc
 obtain ⟨x, _, rfl⟩ := List.mem_map.1 hr
 revert c
 simp [go_sem]
theorem zxN {n : Nat} {l : List (Int × Int × Int)} : Bel n (.lst 3 (l.map zt3)) = True := by rw [zcN, zxa]
theorem bel_K {n : Nat} {l : List zgp} : (∀ r ∈ l.map zaY, ∀ c ∈ r, Bel n c) = True := by
 refine eq_true ?_
 intro r hr c hc
 obtain ⟨x, _, rfl⟩ := List.mem_map.1 hr
 simp only [zaY, List.mem_cons, List.not_mem_nil, or_false] at hc
 rcases hc with rfl | rfl | rfl
 ·exact .v _
 ·refine .lst fun r hr c hc => ?_
  obtain ⟨p, _, rfl⟩ := List.mem_map.1 hr
  simp only [List.mem_cons, List.not_mem_nil, or_false] at hc
  subst hc
  exact of_eq_true zmh
 ·exact .v _
theorem zxc {n : Nat} {l : List (Int × Int × Int × Int)} : (∀ r ∈ l.map za6, ∀ c ∈ r, Bel n c) = True := by
 refine eq_true ?_
 intro r hr c hc
 obtain ⟨x, _, rfl⟩ := List.mem_map.1 hr
 revert c
 simp [go_sem]
theorem zxe {n : Nat} {l : List (List (Int × Int))} : (∀ r ∈ l.map (fun p => [zar p]), ∀ c ∈ r, Bel n c) = True := by
 refine eq_true ?_
 intro r hr c hc
 obtain ⟨p, _, rfl⟩ := List.mem_map.1 hr
 simp only [List.mem_cons, List.not_mem_nil, or_false] at hc
 subst hc
 exact of_eq_true zmh
attribute [go_sem high] zxN 
attribute [go_sem ↓] zxa bel_K zxc zxe zrT zvW zqC zqB List.forall_mem_append
def zpQ : ByteArray := ⟨#[97]⟩
def zpR : ByteArray := ⟨#[98, 101, 101]⟩
def ztK (f : Int) (i : Nat) : Bool := decide (zhA .u8 (f.fdiv (2 ^ i)) 1 = 1)
def zcT (x : zgr) : Nat := if x.k1 = [] then 1 else 2
def zgr.board (x : zgr) : zaL := zeG x.w x.h x.cut
def zgr.rights (x : zgr) : Int := x.f0.tmod 3
def zgr.ks (x : zgr) (i : Nat) : List Int := if i = 0 then x.k0 else x.k1
def zeE (x : zgr) (i : Nat) : zgp :=
 ⟨if i = 0 then zpQ else zpR, ((x.ks i).take 4).map (fun n => zkW n x.board.next.length (zcT x) x.rights), ztK x.f2 i⟩
def zbl (cells kinds : Int) (c : Int × Int × Int) : Int × Int × Int × Int :=
 (1 + c.1.tmod 3, (if 1 + c.1.tmod 3 ≠ 3 then c.2.1.tmod kinds else 0), (if 1 + c.1.tmod 3 = 2 then c.2.2.tmod cells else if 1 + c.1.tmod 3 = 3 then c.2.2.tmod 3 else 0), 1 + (c.1.tdiv 4).tmod 3)
def zfm (x : zgr) : zaf :=
 { cells := x.board.cells, next := x.board.next, turn := x.board.turn, kinds := (List.range (zcT x)).map (zeE x), rights := x.rights, must := decide (x.f1.tmod 4 = 3), clauses := (x.c.take 3).map (zbl x.board.cells (zcT x)), blocked := if x.f3.tmod 4 = 3 then 1 + (x.f3.tdiv 4).tmod 3 else 3, endless := if x.f4.tmod 4 = 3 then 1 + (x.f4.tdiv 4).tmod 3 else 2 }
@[go_sem] theorem zvF (s : ByteArray) : (Value.string s).oneCell' = true := rfl
def ksR (x : zgr) (i : Nat) : List (List AV) := ((List.range i).map (zeE x)).map zaY
def zvD (k : zgp) : List AV := zaY k
theorem ziV (x : zgr) (i : Nat) : ksR x (i + 1) = ksR x i ++ [zvD (zeE x i)] := by simp [ksR, List.range_succ, zvD]
@[go_sem] theorem ksR_zero (x : zgr) : ksR x 0 = [] := rfl
@[go_sem] theorem zuq (x : zgr) (i : Nat) : (ksR x i).length = i := by simp [ksR]
@[go_sem ↓] theorem bel_ksR {n : Nat} {x : zgr} {i : Nat} : (∀ r ∈ ksR x i, ∀ c ∈ r, Bel n c) = True := bel_K
def psR (f : Int → List (Int × Int)) (l : List Int) (n : Nat) : List (List AV) := ((l.take n).map f).map fun p => [zar p]
theorem zi1 (f : Int → List (Int × Int)) (l : List Int) {n : Nat} (h : n < l.length) : psR f l (n + 1) = psR f l n ++ [[zar (f (nth l n))]] := by
 unfold psR
 rw [List.take_add_one, List.getElem?_eq_getElem h, zaJ _ _ h, Option.toList_some, List.map_append, List.map_append]
 rfl
theorem zfM (f : Int → List (Int × Int)) (l : List Int) {n : Nat} (h : n ≤ l.length) : (psR f l n).length = n := by simp [psR]; omega
@[go_sem] theorem psR_zero (f : Int → List (Int × Int)) (l : List Int) : psR f l 0 = [] := rfl
@[go_sem ↓] theorem bel_psR {m : Nat} {f : Int → List (Int × Int)} {l : List Int} {n : Nat} : (∀ r ∈ psR f l n, ∀ c ∈ r, Bel m c) = True := zxe
def clR (cells kinds : Int) (l : List (Int × Int × Int)) (n : Nat) : List (List AV) := ((l.take n).map (zbl cells kinds)).map za6
def zrX (c : Int × Int × Int × Int) : List AV := za6 c
theorem zqH (cells kinds : Int) (l : List (Int × Int × Int)) {n : Nat} (h : n < l.length) : clR cells kinds l (n + 1) = clR cells kinds l n ++ [zrX (zbl cells kinds (nth l n))] := by
 unfold clR
 rw [List.take_add_one, List.getElem?_eq_getElem h, zaJ _ _ h, Option.toList_some, List.map_append, List.map_append]
 rfl
theorem zmj (cells kinds : Int) (l : List (Int × Int × Int)) {n : Nat} (h : n ≤ l.length) : (clR cells kinds l n).length = n := by simp [clR]; omega
@[go_sem] theorem clR_zero (cells kinds : Int) (l : List (Int × Int × Int)) : clR cells kinds l 0 = [] := rfl
@[go_sem ↓] theorem bel_clR {m : Nat} {cells kinds : Int} {l : List (Int × Int × Int)} {n : Nat} : (∀ r ∈ clR cells kinds l n, ∀ c ∈ r, Bel m c) = True := zxc
theorem zlH (w h cut : Int) : (zeG w h cut).next.length = 8 := by
 unfold zeG
 split <;> simp [zb9, zbc, zdg, zbQ]
theorem zjV {w h : Int} (hw : 0 ≤ w) (hh : 0 ≤ h) (cut : Int) : 1 ≤ (zeG w h cut).cells ∧ (zeG w h cut).cells ≤ 9 := by
 have a0 := Int.tmod_nonneg 3 hw
 have a1 := Int.tmod_lt_of_pos w (show (0 : Int) < 3 by decide)
 have b0 := Int.tmod_nonneg 3 hh
 have b1 := Int.tmod_lt_of_pos h (show (0 : Int) < 3 by decide)
 have e : (zeG w h cut).cells = ((1 + w.tmod 3).toNat : Int) * ((1 + h.tmod 3).toNat : Int) := by
  unfold zeG
  split <;> simp [zb9, zdg]
 rw [e]
 obtain ⟨W, hW⟩ : ∃ W : Nat, 1 + w.tmod 3 = W := ⟨(1 + w.tmod 3).toNat, by omega⟩
 obtain ⟨H, hH⟩ : ∃ H : Nat, 1 + h.tmod 3 = H := ⟨(1 + h.tmod 3).toNat, by omega⟩
 rw [hW, hH, Int.toNat_natCast, Int.toNat_natCast]
 rcases (show W = 1 ∨ W = 2 ∨ W = 3 by omega) with rfl | rfl | rfl <;> omega
@[go_sem ↓] theorem bel_setI {n k : Nat} {l : List Int} {v : Value} : (∀ r ∈ (l.map zb3).set k [.v v], ∀ c ∈ r, Bel n c) = True := by
 refine eq_true fun r hr c hc => ?_
 rcases List.mem_or_eq_of_mem_set hr with hr | rfl
 ·exact of_eq_true zvW r hr c hc
 ·simp only [List.mem_cons, List.not_mem_nil, or_false] at hc; subst hc; exact .v _
end Go.Av
end
