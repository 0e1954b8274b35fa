/- The facts of the types: printed by a program of ours (types.sh). -/
import Derived.Test.YtodgjebghpgjbaaGreatDoorAv4
import Derived.Test.YtodgjebghpgjbaaGreatDoorProg
section
set_option linter.unusedVariables false
namespace Go.Av
open Go Go.Proofs
@[go_sem] theorem tk_0 : tk Tryz.prog 0 = .other := by kernel_rfl
@[go_sem] theorem tsz_0 : tsz Tryz.prog 0 = .some 1 := by kernel_rfl
@[go_sem] theorem tby_0 : tby Tryz.prog 0 = .some 0 := by kernel_rfl
@[go_sem] theorem tagg_0 : tagg Tryz.prog 0 = .some false := by kernel_rfl
@[go_sem] theorem tk_1 : tk Tryz.prog 1 = .other := by kernel_rfl
@[go_sem] theorem tsz_1 : tsz Tryz.prog 1 = .some 1 := by kernel_rfl
@[go_sem] theorem tby_1 : tby Tryz.prog 1 = .some 8 := by kernel_rfl
@[go_sem] theorem tz_1 : tz Tryz.prog 1 = .some [(.v .nilFunc)] := by kernel_rfl
@[go_sem] theorem tagg_1 : tagg Tryz.prog 1 = .some false := by kernel_rfl
@[go_sem] theorem tk_2 : tk Tryz.prog 2 = .int .i64 := by kernel_rfl
@[go_sem] theorem tsz_2 : tsz Tryz.prog 2 = .some 1 := by kernel_rfl
@[go_sem] theorem tby_2 : tby Tryz.prog 2 = .some 8 := by kernel_rfl
@[go_sem] theorem tz_2 : tz Tryz.prog 2 = .some [(.v (.int .i64 0))] := by kernel_rfl
@[go_sem] theorem tagg_2 : tagg Tryz.prog 2 = .some false := by kernel_rfl
@[go_sem] theorem tz1_2 : tz1 Tryz.prog 2 = .some (.int .i64 0) := by kernel_rfl
@[go_sem] theorem tk_3 : tk Tryz.prog 3 = .int .i64 := by kernel_rfl
@[go_sem] theorem tsz_3 : tsz Tryz.prog 3 = .some 1 := by kernel_rfl
@[go_sem] theorem tby_3 : tby Tryz.prog 3 = .some 8 := by kernel_rfl
@[go_sem] theorem tz_3 : tz Tryz.prog 3 = .some [(.v (.int .i64 0))] := by kernel_rfl
@[go_sem] theorem tagg_3 : tagg Tryz.prog 3 = .some false := by kernel_rfl
@[go_sem] theorem tz1_3 : tz1 Tryz.prog 3 = .some (.int .i64 0) := by kernel_rfl
@[go_sem] theorem tk_4 : tk Tryz.prog 4 = .bool := by kernel_rfl
@[go_sem] theorem tsz_4 : tsz Tryz.prog 4 = .some 1 := by kernel_rfl
@[go_sem] theorem tby_4 : tby Tryz.prog 4 = .some 1 := by kernel_rfl
@[go_sem] theorem tz_4 : tz Tryz.prog 4 = .some [(.v (.bool false))] := by kernel_rfl
@[go_sem] theorem tagg_4 : tagg Tryz.prog 4 = .some false := by kernel_rfl
@[go_sem] theorem tz1_4 : tz1 Tryz.prog 4 = .some (.bool false) := by kernel_rfl
@[go_sem] theorem tk_5 : tk Tryz.prog 5 = .int .u8 := by kernel_rfl
@[go_sem] theorem tsz_5 : tsz Tryz.prog 5 = .some 1 := by kernel_rfl
@[go_sem] theorem tby_5 : tby Tryz.prog 5 = .some 1 := by kernel_rfl
@[go_sem] theorem tz_5 : tz Tryz.prog 5 = .some [(.v (.int .u8 0))] := by kernel_rfl
@[go_sem] theorem tagg_5 : tagg Tryz.prog 5 = .some false := by kernel_rfl
@[go_sem] theorem tz1_5 : tz1 Tryz.prog 5 = .some (.int .u8 0) := by kernel_rfl
@[go_sem] theorem tk_6 : tk Tryz.prog 6 = .int .u8 := by kernel_rfl
@[go_sem] theorem tsz_6 : tsz Tryz.prog 6 = .some 1 := by kernel_rfl
@[go_sem] theorem tby_6 : tby Tryz.prog 6 = .some 1 := by kernel_rfl
@[go_sem] theorem tz_6 : tz Tryz.prog 6 = .some [(.v (.int .u8 0))] := by kernel_rfl
@[go_sem] theorem tagg_6 : tagg Tryz.prog 6 = .some false := by kernel_rfl
@[go_sem] theorem tz1_6 : tz1 Tryz.prog 6 = .some (.int .u8 0) := by kernel_rfl
@[go_sem] theorem tk_7 : tk Tryz.prog 7 = .str := by kernel_rfl
@[go_sem] theorem tsz_7 : tsz Tryz.prog 7 = .some 4 := by kernel_rfl
@[go_sem] theorem tby_7 : tby Tryz.prog 7 = .some 24 := by kernel_rfl
@[go_sem] theorem tz_7 : tz Tryz.prog 7 = .some [(.v (.int .i64 0)), (.v (.int .i64 0)), (.v (.bool false)), (.v (.int .u8 0))] := by kernel_rfl
@[go_sem] theorem tagg_7 : tagg Tryz.prog 7 = .some true := by kernel_rfl
@[go_sem] theorem tfi_7 : tfi Tryz.prog 7 = true := by kernel_rfl
@[go_sem] theorem tflat_7 : tflat Tryz.prog 7 = .some [false, false, true, false] := by kernel_rfl
@[go_sem] theorem ftyp_7_0 : ftyp Tryz.prog 7 0 = .some 2 := by kernel_rfl
@[go_sem] theorem foff_7_0 : foff Tryz.prog 7 0 = .some 0 := by kernel_rfl
@[go_sem] theorem ftyp_7_1 : ftyp Tryz.prog 7 1 = .some 3 := by kernel_rfl
@[go_sem] theorem foff_7_1 : foff Tryz.prog 7 1 = .some 1 := by kernel_rfl
@[go_sem] theorem ftyp_7_2 : ftyp Tryz.prog 7 2 = .some 4 := by kernel_rfl
@[go_sem] theorem foff_7_2 : foff Tryz.prog 7 2 = .some 2 := by kernel_rfl
@[go_sem] theorem ftyp_7_3 : ftyp Tryz.prog 7 3 = .some 6 := by kernel_rfl
@[go_sem] theorem foff_7_3 : foff Tryz.prog 7 3 = .some 3 := by kernel_rfl
@[go_sem] theorem tk_8 : tk Tryz.prog 8 = .str := by kernel_rfl
@[go_sem] theorem tsz_8 : tsz Tryz.prog 8 = .some 4 := by kernel_rfl
@[go_sem] theorem tby_8 : tby Tryz.prog 8 = .some 24 := by kernel_rfl
@[go_sem] theorem tz_8 : tz Tryz.prog 8 = .some [(.v (.int .i64 0)), (.v (.int .i64 0)), (.v (.bool false)), (.v (.int .u8 0))] := by kernel_rfl
@[go_sem] theorem tagg_8 : tagg Tryz.prog 8 = .some true := by kernel_rfl
@[go_sem] theorem tfi_8 : tfi Tryz.prog 8 = true := by kernel_rfl
@[go_sem] theorem tflat_8 : tflat Tryz.prog 8 = .some [false, false, true, false] := by kernel_rfl
@[go_sem] theorem ftyp_8_0 : ftyp Tryz.prog 8 0 = .some 2 := by kernel_rfl
@[go_sem] theorem foff_8_0 : foff Tryz.prog 8 0 = .some 0 := by kernel_rfl
@[go_sem] theorem ftyp_8_1 : ftyp Tryz.prog 8 1 = .some 3 := by kernel_rfl
@[go_sem] theorem foff_8_1 : foff Tryz.prog 8 1 = .some 1 := by kernel_rfl
@[go_sem] theorem ftyp_8_2 : ftyp Tryz.prog 8 2 = .some 4 := by kernel_rfl
@[go_sem] theorem foff_8_2 : foff Tryz.prog 8 2 = .some 2 := by kernel_rfl
@[go_sem] theorem ftyp_8_3 : ftyp Tryz.prog 8 3 = .some 6 := by kernel_rfl
@[go_sem] theorem foff_8_3 : foff Tryz.prog 8 3 = .some 3 := by kernel_rfl
@[go_sem] theorem tk_9 : tk Tryz.prog 9 = .string := by kernel_rfl
@[go_sem] theorem tsz_9 : tsz Tryz.prog 9 = .some 1 := by kernel_rfl
@[go_sem] theorem tby_9 : tby Tryz.prog 9 = .some 16 := by kernel_rfl
@[go_sem] theorem tz_9 : tz Tryz.prog 9 = .some [(.v (.string ⟨⟨[]⟩⟩))] := by kernel_rfl
@[go_sem] theorem tagg_9 : tagg Tryz.prog 9 = .some false := by kernel_rfl
@[go_sem] theorem tz1_9 : tz1 Tryz.prog 9 = .some (.string ⟨⟨[]⟩⟩) := by kernel_rfl
@[go_sem] theorem tk_10 : tk Tryz.prog 10 = .string := by kernel_rfl
@[go_sem] theorem tsz_10 : tsz Tryz.prog 10 = .some 1 := by kernel_rfl
@[go_sem] theorem tby_10 : tby Tryz.prog 10 = .some 16 := by kernel_rfl
@[go_sem] theorem tz_10 : tz Tryz.prog 10 = .some [(.v (.string ⟨⟨[]⟩⟩))] := by kernel_rfl
@[go_sem] theorem tagg_10 : tagg Tryz.prog 10 = .some false := by kernel_rfl
@[go_sem] theorem tz1_10 : tz1 Tryz.prog 10 = .some (.string ⟨⟨[]⟩⟩) := by kernel_rfl
@[go_sem] theorem tk_11 : tk Tryz.prog 11 = .string := by kernel_rfl
@[go_sem] theorem tsz_11 : tsz Tryz.prog 11 = .some 1 := by kernel_rfl
@[go_sem] theorem tby_11 : tby Tryz.prog 11 = .some 16 := by kernel_rfl
@[go_sem] theorem tz_11 : tz Tryz.prog 11 = .some [(.v (.string ⟨⟨[]⟩⟩))] := by kernel_rfl
@[go_sem] theorem tagg_11 : tagg Tryz.prog 11 = .some false := by kernel_rfl
@[go_sem] theorem tz1_11 : tz1 Tryz.prog 11 = .some (.string ⟨⟨[]⟩⟩) := by kernel_rfl
@[go_sem] theorem tk_12 : tk Tryz.prog 12 = .int .u64 := by kernel_rfl
@[go_sem] theorem tsz_12 : tsz Tryz.prog 12 = .some 1 := by kernel_rfl
@[go_sem] theorem tby_12 : tby Tryz.prog 12 = .some 8 := by kernel_rfl
@[go_sem] theorem tz_12 : tz Tryz.prog 12 = .some [(.v (.int .u64 0))] := by kernel_rfl
@[go_sem] theorem tagg_12 : tagg Tryz.prog 12 = .some false := by kernel_rfl
@[go_sem] theorem tz1_12 : tz1 Tryz.prog 12 = .some (.int .u64 0) := by kernel_rfl
@[go_sem] theorem tk_13 : tk Tryz.prog 13 = .str := by kernel_rfl
@[go_sem] theorem tsz_13 : tsz Tryz.prog 13 = .some 2 := by kernel_rfl
@[go_sem] theorem tby_13 : tby Tryz.prog 13 = .some 24 := by kernel_rfl
@[go_sem] theorem tz_13 : tz Tryz.prog 13 = .some [(.v (.string ⟨⟨[]⟩⟩)), (.v (.int .u64 0))] := by kernel_rfl
@[go_sem] theorem tagg_13 : tagg Tryz.prog 13 = .some true := by kernel_rfl
@[go_sem] theorem tfi_13 : tfi Tryz.prog 13 = true := by kernel_rfl
@[go_sem] theorem ftyp_13_0 : ftyp Tryz.prog 13 0 = .some 9 := by kernel_rfl
@[go_sem] theorem foff_13_0 : foff Tryz.prog 13 0 = .some 0 := by kernel_rfl
@[go_sem] theorem ftyp_13_1 : ftyp Tryz.prog 13 1 = .some 12 := by kernel_rfl
@[go_sem] theorem foff_13_1 : foff Tryz.prog 13 1 = .some 1 := by kernel_rfl
@[go_sem] theorem tk_14 : tk Tryz.prog 14 = .str := by kernel_rfl
@[go_sem] theorem tsz_14 : tsz Tryz.prog 14 = .some 2 := by kernel_rfl
@[go_sem] theorem tby_14 : tby Tryz.prog 14 = .some 24 := by kernel_rfl
@[go_sem] theorem tz_14 : tz Tryz.prog 14 = .some [(.v (.string ⟨⟨[]⟩⟩)), (.v (.int .u64 0))] := by kernel_rfl
@[go_sem] theorem tagg_14 : tagg Tryz.prog 14 = .some true := by kernel_rfl
@[go_sem] theorem tfi_14 : tfi Tryz.prog 14 = true := by kernel_rfl
@[go_sem] theorem ftyp_14_0 : ftyp Tryz.prog 14 0 = .some 9 := by kernel_rfl
@[go_sem] theorem foff_14_0 : foff Tryz.prog 14 0 = .some 0 := by kernel_rfl
@[go_sem] theorem ftyp_14_1 : ftyp Tryz.prog 14 1 = .some 12 := by kernel_rfl
@[go_sem] theorem foff_14_1 : foff Tryz.prog 14 1 = .some 1 := by kernel_rfl
@[go_sem] theorem tk_15 : tk Tryz.prog 15 = .ptr 251 := by kernel_rfl
@[go_sem] theorem tsz_15 : tsz Tryz.prog 15 = .some 1 := by kernel_rfl
@[go_sem] theorem tby_15 : tby Tryz.prog 15 = .some 8 := by kernel_rfl
@[go_sem] theorem tz_15 : tz Tryz.prog 15 = .some [(.v (.pointer .none))] := by kernel_rfl
@[go_sem] theorem tagg_15 : tagg Tryz.prog 15 = .some false := by kernel_rfl
@[go_sem] theorem tk_16 : tk Tryz.prog 16 = .ptr 254 := by kernel_rfl
@[go_sem] theorem tsz_16 : tsz Tryz.prog 16 = .some 1 := by kernel_rfl
@[go_sem] theorem tby_16 : tby Tryz.prog 16 = .some 8 := by kernel_rfl
@[go_sem] theorem tz_16 : tz Tryz.prog 16 = .some [(.v (.pointer .none))] := by kernel_rfl
@[go_sem] theorem tagg_16 : tagg Tryz.prog 16 = .some false := by kernel_rfl
@[go_sem] theorem tk_17 : tk Tryz.prog 17 = .ptr 263 := by kernel_rfl
@[go_sem] theorem tsz_17 : tsz Tryz.prog 17 = .some 1 := by kernel_rfl
@[go_sem] theorem tby_17 : tby Tryz.prog 17 = .some 8 := by kernel_rfl
@[go_sem] theorem tz_17 : tz Tryz.prog 17 = .some [(.v (.pointer .none))] := by kernel_rfl
@[go_sem] theorem tagg_17 : tagg Tryz.prog 17 = .some false := by kernel_rfl
@[go_sem] theorem tk_18 : tk Tryz.prog 18 = .str := by kernel_rfl
@[go_sem] theorem tsz_18 : tsz Tryz.prog 18 = .some 1 := by kernel_rfl
@[go_sem] theorem tby_18 : tby Tryz.prog 18 = .some 8 := by kernel_rfl
@[go_sem] theorem tz_18 : tz Tryz.prog 18 = .some [(.v (.pointer .none))] := by kernel_rfl
@[go_sem] theorem tagg_18 : tagg Tryz.prog 18 = .some true := by kernel_rfl
@[go_sem] theorem tfi_18 : tfi Tryz.prog 18 = true := by kernel_rfl
@[go_sem] theorem ftyp_18_0 : ftyp Tryz.prog 18 0 = .some 17 := by kernel_rfl
@[go_sem] theorem foff_18_0 : foff Tryz.prog 18 0 = .some 0 := by kernel_rfl
@[go_sem] theorem tk_19 : tk Tryz.prog 19 = .str := by kernel_rfl
@[go_sem] theorem tsz_19 : tsz Tryz.prog 19 = .some 1 := by kernel_rfl
@[go_sem] theorem tby_19 : tby Tryz.prog 19 = .some 8 := by kernel_rfl
@[go_sem] theorem tz_19 : tz Tryz.prog 19 = .some [(.v (.pointer .none))] := by kernel_rfl
@[go_sem] theorem tagg_19 : tagg Tryz.prog 19 = .some true := by kernel_rfl
@[go_sem] theorem tfi_19 : tfi Tryz.prog 19 = true := by kernel_rfl
@[go_sem] theorem ftyp_19_0 : ftyp Tryz.prog 19 0 = .some 17 := by kernel_rfl
@[go_sem] theorem foff_19_0 : foff Tryz.prog 19 0 = .some 0 := by kernel_rfl
@[go_sem] theorem tk_20 : tk Tryz.prog 20 = .other := by kernel_rfl
@[go_sem] theorem tsz_20 : tsz Tryz.prog 20 = .some 1 := by kernel_rfl
@[go_sem] theorem tby_20 : tby Tryz.prog 20 = .some 16 := by kernel_rfl
@[go_sem] theorem tz_20 : tz Tryz.prog 20 = .some [(.v .nilIface)] := by kernel_rfl
@[go_sem] theorem tagg_20 : tagg Tryz.prog 20 = .some false := by kernel_rfl
@[go_sem] theorem tk_21 : tk Tryz.prog 21 = .int .i32 := by kernel_rfl
@[go_sem] theorem tsz_21 : tsz Tryz.prog 21 = .some 1 := by kernel_rfl
@[go_sem] theorem tby_21 : tby Tryz.prog 21 = .some 4 := by kernel_rfl
@[go_sem] theorem tz_21 : tz Tryz.prog 21 = .some [(.v (.int .i32 0))] := by kernel_rfl
@[go_sem] theorem tagg_21 : tagg Tryz.prog 21 = .some false := by kernel_rfl
@[go_sem] theorem tz1_21 : tz1 Tryz.prog 21 = .some (.int .i32 0) := by kernel_rfl
@[go_sem] theorem tk_22 : tk Tryz.prog 22 = .sl 5 := by kernel_rfl
@[go_sem] theorem tsz_22 : tsz Tryz.prog 22 = .some 1 := by kernel_rfl
@[go_sem] theorem tby_22 : tby Tryz.prog 22 = .some 24 := by kernel_rfl
@[go_sem] theorem tz_22 : tz Tryz.prog 22 = .some [(.v (.slice .none 0 0))] := by kernel_rfl
@[go_sem] theorem tagg_22 : tagg Tryz.prog 22 = .some false := by kernel_rfl
@[go_sem] theorem tk_23 : tk Tryz.prog 23 = .arr 2 22 := by kernel_rfl
@[go_sem] theorem tsz_23 : tsz Tryz.prog 23 = .some 2 := by kernel_rfl
@[go_sem] theorem tby_23 : tby Tryz.prog 23 = .some 48 := by kernel_rfl
@[go_sem] theorem tz_23 : tz Tryz.prog 23 = .some [(.v (.slice .none 0 0)), (.v (.slice .none 0 0))] := by kernel_rfl
@[go_sem] theorem tagg_23 : tagg Tryz.prog 23 = .some true := by kernel_rfl
@[go_sem] theorem tk_24 : tk Tryz.prog 24 = .sl 61 := by kernel_rfl
@[go_sem] theorem tsz_24 : tsz Tryz.prog 24 = .some 1 := by kernel_rfl
@[go_sem] theorem tby_24 : tby Tryz.prog 24 = .some 24 := by kernel_rfl
@[go_sem] theorem tz_24 : tz Tryz.prog 24 = .some [(.v (.slice .none 0 0))] := by kernel_rfl
@[go_sem] theorem tagg_24 : tagg Tryz.prog 24 = .some false := by kernel_rfl
@[go_sem] theorem tk_25 : tk Tryz.prog 25 = .arr 6 5 := by kernel_rfl
@[go_sem] theorem tsz_25 : tsz Tryz.prog 25 = .some 6 := by kernel_rfl
@[go_sem] theorem tby_25 : tby Tryz.prog 25 = .some 6 := by kernel_rfl
@[go_sem] theorem tz_25 : tz Tryz.prog 25 = .some [(.v (.int .u8 0)), (.v (.int .u8 0)), (.v (.int .u8 0)), (.v (.int .u8 0)), (.v (.int .u8 0)), (.v (.int .u8 0))] := by kernel_rfl
@[go_sem] theorem tagg_25 : tagg Tryz.prog 25 = .some true := by kernel_rfl
@[go_sem] theorem tk_26 : tk Tryz.prog 26 = .str := by kernel_rfl
@[go_sem] theorem tsz_26 : tsz Tryz.prog 26 = .some 12 := by kernel_rfl
@[go_sem] theorem tby_26 : tby Tryz.prog 26 = .some 88 := by kernel_rfl
@[go_sem] theorem tz_26 : tz Tryz.prog 26 = .some [(.v (.int .u8 0)), (.v (.int .u8 0)), (.v (.int .u8 0)), (.v (.slice .none 0 0)), (.v (.slice .none 0 0)), (.v (.slice .none 0 0)), (.v (.int .u8 0)), (.v (.int .u8 0)), (.v (.int .u8 0)), (.v (.int .u8 0)), (.v (.int .u8 0)), (.v (.int .u8 0))] := by kernel_rfl
@[go_sem] theorem tagg_26 : tagg Tryz.prog 26 = .some true := by kernel_rfl
@[go_sem] theorem tfi_26 : tfi Tryz.prog 26 = true := by kernel_rfl
@[go_sem] theorem ftyp_26_0 : ftyp Tryz.prog 26 0 = .some 5 := by kernel_rfl
@[go_sem] theorem foff_26_0 : foff Tryz.prog 26 0 = .some 0 := by kernel_rfl
@[go_sem] theorem ftyp_26_1 : ftyp Tryz.prog 26 1 = .some 5 := by kernel_rfl
@[go_sem] theorem foff_26_1 : foff Tryz.prog 26 1 = .some 1 := by kernel_rfl
@[go_sem] theorem ftyp_26_2 : ftyp Tryz.prog 26 2 = .some 5 := by kernel_rfl
@[go_sem] theorem foff_26_2 : foff Tryz.prog 26 2 = .some 2 := by kernel_rfl
@[go_sem] theorem ftyp_26_3 : ftyp Tryz.prog 26 3 = .some 23 := by kernel_rfl
@[go_sem] theorem foff_26_3 : foff Tryz.prog 26 3 = .some 3 := by kernel_rfl
@[go_sem] theorem ftyp_26_4 : ftyp Tryz.prog 26 4 = .some 24 := by kernel_rfl
@[go_sem] theorem foff_26_4 : foff Tryz.prog 26 4 = .some 5 := by kernel_rfl
@[go_sem] theorem ftyp_26_5 : ftyp Tryz.prog 26 5 = .some 25 := by kernel_rfl
@[go_sem] theorem foff_26_5 : foff Tryz.prog 26 5 = .some 6 := by kernel_rfl
@[go_sem] theorem tk_27 : tk Tryz.prog 27 = .str := by kernel_rfl
@[go_sem] theorem tsz_27 : tsz Tryz.prog 27 = .some 12 := by kernel_rfl
@[go_sem] theorem tby_27 : tby Tryz.prog 27 = .some 88 := by kernel_rfl
@[go_sem] theorem tz_27 : tz Tryz.prog 27 = .some [(.v (.int .u8 0)), (.v (.int .u8 0)), (.v (.int .u8 0)), (.v (.slice .none 0 0)), (.v (.slice .none 0 0)), (.v (.slice .none 0 0)), (.v (.int .u8 0)), (.v (.int .u8 0)), (.v (.int .u8 0)), (.v (.int .u8 0)), (.v (.int .u8 0)), (.v (.int .u8 0))] := by kernel_rfl
@[go_sem] theorem tagg_27 : tagg Tryz.prog 27 = .some true := by kernel_rfl
@[go_sem] theorem tfi_27 : tfi Tryz.prog 27 = true := by kernel_rfl
@[go_sem] theorem ftyp_27_0 : ftyp Tryz.prog 27 0 = .some 5 := by kernel_rfl
@[go_sem] theorem foff_27_0 : foff Tryz.prog 27 0 = .some 0 := by kernel_rfl
@[go_sem] theorem ftyp_27_1 : ftyp Tryz.prog 27 1 = .some 5 := by kernel_rfl
@[go_sem] theorem foff_27_1 : foff Tryz.prog 27 1 = .some 1 := by kernel_rfl
@[go_sem] theorem ftyp_27_2 : ftyp Tryz.prog 27 2 = .some 5 := by kernel_rfl
@[go_sem] theorem foff_27_2 : foff Tryz.prog 27 2 = .some 2 := by kernel_rfl
@[go_sem] theorem ftyp_27_3 : ftyp Tryz.prog 27 3 = .some 23 := by kernel_rfl
@[go_sem] theorem foff_27_3 : foff Tryz.prog 27 3 = .some 3 := by kernel_rfl
@[go_sem] theorem ftyp_27_4 : ftyp Tryz.prog 27 4 = .some 24 := by kernel_rfl
@[go_sem] theorem foff_27_4 : foff Tryz.prog 27 4 = .some 5 := by kernel_rfl
@[go_sem] theorem ftyp_27_5 : ftyp Tryz.prog 27 5 = .some 25 := by kernel_rfl
@[go_sem] theorem foff_27_5 : foff Tryz.prog 27 5 = .some 6 := by kernel_rfl
@[go_sem] theorem tk_28 : tk Tryz.prog 28 = .arr 4 5 := by kernel_rfl
@[go_sem] theorem tsz_28 : tsz Tryz.prog 28 = .some 4 := by kernel_rfl
@[go_sem] theorem tby_28 : tby Tryz.prog 28 = .some 4 := by kernel_rfl
@[go_sem] theorem tz_28 : tz Tryz.prog 28 = .some [(.v (.int .u8 0)), (.v (.int .u8 0)), (.v (.int .u8 0)), (.v (.int .u8 0))] := by kernel_rfl
@[go_sem] theorem tagg_28 : tagg Tryz.prog 28 = .some true := by kernel_rfl
@[go_sem] theorem tk_29 : tk Tryz.prog 29 = .str := by kernel_rfl
@[go_sem] theorem tsz_29 : tsz Tryz.prog 29 = .some 18 := by kernel_rfl
@[go_sem] theorem tby_29 : tby Tryz.prog 29 = .some 18 := by kernel_rfl
@[go_sem] theorem tz_29 : tz Tryz.prog 29 = .some [(.v (.int .u8 0)), (.v (.int .u8 0)), (.v (.int .u8 0)), (.v (.int .u8 0)), (.v (.int .u8 0)), (.v (.int .u8 0)), (.v (.int .u8 0)), (.v (.int .u8 0)), (.v (.int .u8 0)), (.v (.int .u8 0)), (.v (.int .u8 0)), (.v (.int .u8 0)), (.v (.int .u8 0)), (.v (.int .u8 0)), (.v (.int .u8 0)), (.v (.int .u8 0)), (.v (.int .u8 0)), (.v (.int .u8 0))] := by kernel_rfl
@[go_sem] theorem tagg_29 : tagg Tryz.prog 29 = .some true := by kernel_rfl
@[go_sem] theorem tfi_29 : tfi Tryz.prog 29 = true := by kernel_rfl
@[go_sem] theorem ftyp_29_0 : ftyp Tryz.prog 29 0 = .some 25 := by kernel_rfl
@[go_sem] theorem foff_29_0 : foff Tryz.prog 29 0 = .some 0 := by kernel_rfl
@[go_sem] theorem ftyp_29_1 : ftyp Tryz.prog 29 1 = .some 25 := by kernel_rfl
@[go_sem] theorem foff_29_1 : foff Tryz.prog 29 1 = .some 6 := by kernel_rfl
@[go_sem] theorem ftyp_29_2 : ftyp Tryz.prog 29 2 = .some 28 := by kernel_rfl
@[go_sem] theorem foff_29_2 : foff Tryz.prog 29 2 = .some 12 := by kernel_rfl
@[go_sem] theorem ftyp_29_3 : ftyp Tryz.prog 29 3 = .some 5 := by kernel_rfl
@[go_sem] theorem foff_29_3 : foff Tryz.prog 29 3 = .some 16 := by kernel_rfl
@[go_sem] theorem ftyp_29_4 : ftyp Tryz.prog 29 4 = .some 5 := by kernel_rfl
@[go_sem] theorem foff_29_4 : foff Tryz.prog 29 4 = .some 17 := by kernel_rfl
@[go_sem] theorem tk_30 : tk Tryz.prog 30 = .str := by kernel_rfl
@[go_sem] theorem tsz_30 : tsz Tryz.prog 30 = .some 18 := by kernel_rfl
@[go_sem] theorem tby_30 : tby Tryz.prog 30 = .some 18 := by kernel_rfl
@[go_sem] theorem tz_30 : tz Tryz.prog 30 = .some [(.v (.int .u8 0)), (.v (.int .u8 0)), (.v (.int .u8 0)), (.v (.int .u8 0)), (.v (.int .u8 0)), (.v (.int .u8 0)), (.v (.int .u8 0)), (.v (.int .u8 0)), (.v (.int .u8 0)), (.v (.int .u8 0)), (.v (.int .u8 0)), (.v (.int .u8 0)), (.v (.int .u8 0)), (.v (.int .u8 0)), (.v (.int .u8 0)), (.v (.int .u8 0)), (.v (.int .u8 0)), (.v (.int .u8 0))] := by kernel_rfl
@[go_sem] theorem tagg_30 : tagg Tryz.prog 30 = .some true := by kernel_rfl
@[go_sem] theorem tfi_30 : tfi Tryz.prog 30 = true := by kernel_rfl
@[go_sem] theorem ftyp_30_0 : ftyp Tryz.prog 30 0 = .some 25 := by kernel_rfl
@[go_sem] theorem foff_30_0 : foff Tryz.prog 30 0 = .some 0 := by kernel_rfl
@[go_sem] theorem ftyp_30_1 : ftyp Tryz.prog 30 1 = .some 25 := by kernel_rfl
@[go_sem] theorem foff_30_1 : foff Tryz.prog 30 1 = .some 6 := by kernel_rfl
@[go_sem] theorem ftyp_30_2 : ftyp Tryz.prog 30 2 = .some 28 := by kernel_rfl
@[go_sem] theorem foff_30_2 : foff Tryz.prog 30 2 = .some 12 := by kernel_rfl
@[go_sem] theorem ftyp_30_3 : ftyp Tryz.prog 30 3 = .some 5 := by kernel_rfl
@[go_sem] theorem foff_30_3 : foff Tryz.prog 30 3 = .some 16 := by kernel_rfl
@[go_sem] theorem ftyp_30_4 : ftyp Tryz.prog 30 4 = .some 5 := by kernel_rfl
@[go_sem] theorem foff_30_4 : foff Tryz.prog 30 4 = .some 17 := by kernel_rfl
@[go_sem] theorem tk_31 : tk Tryz.prog 31 = .str := by kernel_rfl
@[go_sem] theorem tsz_31 : tsz Tryz.prog 31 = .some 31 := by kernel_rfl
@[go_sem] theorem tby_31 : tby Tryz.prog 31 = .some 136 := by kernel_rfl
@[go_sem] theorem tz_31 : tz Tryz.prog 31 = .some [(.v (.int .u8 0)), (.v (.int .u8 0)), (.v (.int .u8 0)), (.v (.slice .none 0 0)), (.v (.slice .none 0 0)), (.v (.slice .none 0 0)), (.v (.int .u8 0)), (.v (.int .u8 0)), (.v (.int .u8 0)), (.v (.int .u8 0)), (.v (.int .u8 0)), (.v (.int .u8 0)), (.v (.int .u8 0)), (.v (.int .u8 0)), (.v (.int .u8 0)), (.v (.int .u8 0)), (.v (.int .u8 0)), (.v (.int .u8 0)), (.v (.int .u8 0)), (.v (.int .u8 0)), (.v (.int .u8 0)), (.v (.int .u8 0)), (.v (.int .u8 0)), (.v (.int .u8 0)), (.v (.int .u8 0)), (.v (.int .u8 0)), (.v (.int .u8 0)), (.v (.int .u8 0)), (.v (.int .u8 0)), (.v (.int .u8 0)), (.v (.slice .none 0 0))] := by kernel_rfl
@[go_sem] theorem tagg_31 : tagg Tryz.prog 31 = .some true := by kernel_rfl
@[go_sem] theorem tfi_31 : tfi Tryz.prog 31 = true := by kernel_rfl
@[go_sem] theorem ftyp_31_0 : ftyp Tryz.prog 31 0 = .some 27 := by kernel_rfl
@[go_sem] theorem foff_31_0 : foff Tryz.prog 31 0 = .some 0 := by kernel_rfl
@[go_sem] theorem ftyp_31_1 : ftyp Tryz.prog 31 1 = .some 30 := by kernel_rfl
@[go_sem] theorem foff_31_1 : foff Tryz.prog 31 1 = .some 12 := by kernel_rfl
@[go_sem] theorem ftyp_31_2 : ftyp Tryz.prog 31 2 = .some 22 := by kernel_rfl
@[go_sem] theorem foff_31_2 : foff Tryz.prog 31 2 = .some 30 := by kernel_rfl
@[go_sem] theorem tk_32 : tk Tryz.prog 32 = .str := by kernel_rfl
@[go_sem] theorem tsz_32 : tsz Tryz.prog 32 = .some 31 := by kernel_rfl
@[go_sem] theorem tby_32 : tby Tryz.prog 32 = .some 136 := by kernel_rfl
@[go_sem] theorem tz_32 : tz Tryz.prog 32 = .some [(.v (.int .u8 0)), (.v (.int .u8 0)), (.v (.int .u8 0)), (.v (.slice .none 0 0)), (.v (.slice .none 0 0)), (.v (.slice .none 0 0)), (.v (.int .u8 0)), (.v (.int .u8 0)), (.v (.int .u8 0)), (.v (.int .u8 0)), (.v (.int .u8 0)), (.v (.int .u8 0)), (.v (.int .u8 0)), (.v (.int .u8 0)), (.v (.int .u8 0)), (.v (.int .u8 0)), (.v (.int .u8 0)), (.v (.int .u8 0)), (.v (.int .u8 0)), (.v (.int .u8 0)), (.v (.int .u8 0)), (.v (.int .u8 0)), (.v (.int .u8 0)), (.v (.int .u8 0)), (.v (.int .u8 0)), (.v (.int .u8 0)), (.v (.int .u8 0)), (.v (.int .u8 0)), (.v (.int .u8 0)), (.v (.int .u8 0)), (.v (.slice .none 0 0))] := by kernel_rfl
@[go_sem] theorem tagg_32 : tagg Tryz.prog 32 = .some true := by kernel_rfl
@[go_sem] theorem tfi_32 : tfi Tryz.prog 32 = true := by kernel_rfl
@[go_sem] theorem ftyp_32_0 : ftyp Tryz.prog 32 0 = .some 27 := by kernel_rfl
@[go_sem] theorem foff_32_0 : foff Tryz.prog 32 0 = .some 0 := by kernel_rfl
@[go_sem] theorem ftyp_32_1 : ftyp Tryz.prog 32 1 = .some 30 := by kernel_rfl
@[go_sem] theorem foff_32_1 : foff Tryz.prog 32 1 = .some 12 := by kernel_rfl
@[go_sem] theorem ftyp_32_2 : ftyp Tryz.prog 32 2 = .some 22 := by kernel_rfl
@[go_sem] theorem foff_32_2 : foff Tryz.prog 32 2 = .some 30 := by kernel_rfl
@[go_sem] theorem tk_33 : tk Tryz.prog 33 = .sl 3 := by kernel_rfl
@[go_sem] theorem tsz_33 : tsz Tryz.prog 33 = .some 1 := by kernel_rfl
@[go_sem] theorem tby_33 : tby Tryz.prog 33 = .some 24 := by kernel_rfl
@[go_sem] theorem tz_33 : tz Tryz.prog 33 = .some [(.v (.slice .none 0 0))] := by kernel_rfl
@[go_sem] theorem tagg_33 : tagg Tryz.prog 33 = .some false := by kernel_rfl
@[go_sem] theorem tk_34 : tk Tryz.prog 34 = .other := by kernel_rfl
@[go_sem] theorem tsz_34 : tsz Tryz.prog 34 = .some 1 := by kernel_rfl
@[go_sem] theorem tby_34 : tby Tryz.prog 34 = .some 8 := by kernel_rfl
@[go_sem] theorem tz_34 : tz Tryz.prog 34 = .some [(.v .nilFunc)] := by kernel_rfl
@[go_sem] theorem tagg_34 : tagg Tryz.prog 34 = .some false := by kernel_rfl
@[go_sem] theorem tk_35 : tk Tryz.prog 35 = .sl 33 := by kernel_rfl
@[go_sem] theorem tsz_35 : tsz Tryz.prog 35 = .some 1 := by kernel_rfl
@[go_sem] theorem tby_35 : tby Tryz.prog 35 = .some 24 := by kernel_rfl
@[go_sem] theorem tz_35 : tz Tryz.prog 35 = .some [(.v (.slice .none 0 0))] := by kernel_rfl
@[go_sem] theorem tagg_35 : tagg Tryz.prog 35 = .some false := by kernel_rfl
@[go_sem] theorem tk_36 : tk Tryz.prog 36 = .str := by kernel_rfl
@[go_sem] theorem tsz_36 : tsz Tryz.prog 36 = .some 3 := by kernel_rfl
@[go_sem] theorem tby_36 : tby Tryz.prog 36 = .some 56 := by kernel_rfl
@[go_sem] theorem tz_36 : tz Tryz.prog 36 = .some [(.v (.int .i64 0)), (.v (.slice .none 0 0)), (.v (.slice .none 0 0))] := by kernel_rfl
@[go_sem] theorem tagg_36 : tagg Tryz.prog 36 = .some true := by kernel_rfl
@[go_sem] theorem tfi_36 : tfi Tryz.prog 36 = true := by kernel_rfl
@[go_sem] theorem ftyp_36_0 : ftyp Tryz.prog 36 0 = .some 3 := by kernel_rfl
@[go_sem] theorem foff_36_0 : foff Tryz.prog 36 0 = .some 0 := by kernel_rfl
@[go_sem] theorem ftyp_36_1 : ftyp Tryz.prog 36 1 = .some 35 := by kernel_rfl
@[go_sem] theorem foff_36_1 : foff Tryz.prog 36 1 = .some 1 := by kernel_rfl
@[go_sem] theorem ftyp_36_2 : ftyp Tryz.prog 36 2 = .some 33 := by kernel_rfl
@[go_sem] theorem foff_36_2 : foff Tryz.prog 36 2 = .some 2 := by kernel_rfl
@[go_sem] theorem tk_37 : tk Tryz.prog 37 = .str := by kernel_rfl
@[go_sem] theorem tsz_37 : tsz Tryz.prog 37 = .some 3 := by kernel_rfl
@[go_sem] theorem tby_37 : tby Tryz.prog 37 = .some 56 := by kernel_rfl
@[go_sem] theorem tz_37 : tz Tryz.prog 37 = .some [(.v (.int .i64 0)), (.v (.slice .none 0 0)), (.v (.slice .none 0 0))] := by kernel_rfl
@[go_sem] theorem tagg_37 : tagg Tryz.prog 37 = .some true := by kernel_rfl
@[go_sem] theorem tfi_37 : tfi Tryz.prog 37 = true := by kernel_rfl
@[go_sem] theorem ftyp_37_0 : ftyp Tryz.prog 37 0 = .some 3 := by kernel_rfl
@[go_sem] theorem foff_37_0 : foff Tryz.prog 37 0 = .some 0 := by kernel_rfl
@[go_sem] theorem ftyp_37_1 : ftyp Tryz.prog 37 1 = .some 35 := by kernel_rfl
@[go_sem] theorem foff_37_1 : foff Tryz.prog 37 1 = .some 1 := by kernel_rfl
@[go_sem] theorem ftyp_37_2 : ftyp Tryz.prog 37 2 = .some 33 := by kernel_rfl
@[go_sem] theorem foff_37_2 : foff Tryz.prog 37 2 = .some 2 := by kernel_rfl
@[go_sem] theorem tk_38 : tk Tryz.prog 38 = .sl 73 := by kernel_rfl
@[go_sem] theorem tsz_38 : tsz Tryz.prog 38 = .some 1 := by kernel_rfl
@[go_sem] theorem tby_38 : tby Tryz.prog 38 = .some 24 := by kernel_rfl
@[go_sem] theorem tz_38 : tz Tryz.prog 38 = .some [(.v (.slice .none 0 0))] := by kernel_rfl
@[go_sem] theorem tagg_38 : tagg Tryz.prog 38 = .some false := by kernel_rfl
@[go_sem] theorem tk_39 : tk Tryz.prog 39 = .sl 59 := by kernel_rfl
@[go_sem] theorem tsz_39 : tsz Tryz.prog 39 = .some 1 := by kernel_rfl
@[go_sem] theorem tby_39 : tby Tryz.prog 39 = .some 24 := by kernel_rfl
@[go_sem] theorem tz_39 : tz Tryz.prog 39 = .some [(.v (.slice .none 0 0))] := by kernel_rfl
@[go_sem] theorem tagg_39 : tagg Tryz.prog 39 = .some false := by kernel_rfl
@[go_sem] theorem tk_40 : tk Tryz.prog 40 = .str := by kernel_rfl
@[go_sem] theorem tsz_40 : tsz Tryz.prog 40 = .some 9 := by kernel_rfl
@[go_sem] theorem tby_40 : tby Tryz.prog 40 = .some 136 := by kernel_rfl
@[go_sem] theorem tz_40 : tz Tryz.prog 40 = .some [(.v (.int .i64 0)), (.v (.slice .none 0 0)), (.v (.slice .none 0 0)), (.v (.slice .none 0 0)), (.v (.int .i64 0)), (.v (.bool false)), (.v (.slice .none 0 0)), (.v (.int .i64 0)), (.v (.int .i64 0))] := by kernel_rfl
@[go_sem] theorem tagg_40 : tagg Tryz.prog 40 = .some true := by kernel_rfl
@[go_sem] theorem tfi_40 : tfi Tryz.prog 40 = true := by kernel_rfl
@[go_sem] theorem ftyp_40_0 : ftyp Tryz.prog 40 0 = .some 37 := by kernel_rfl
@[go_sem] theorem foff_40_0 : foff Tryz.prog 40 0 = .some 0 := by kernel_rfl
@[go_sem] theorem ftyp_40_1 : ftyp Tryz.prog 40 1 = .some 38 := by kernel_rfl
@[go_sem] theorem foff_40_1 : foff Tryz.prog 40 1 = .some 3 := by kernel_rfl
@[go_sem] theorem ftyp_40_2 : ftyp Tryz.prog 40 2 = .some 3 := by kernel_rfl
@[go_sem] theorem foff_40_2 : foff Tryz.prog 40 2 = .some 4 := by kernel_rfl
@[go_sem] theorem ftyp_40_3 : ftyp Tryz.prog 40 3 = .some 4 := by kernel_rfl
@[go_sem] theorem foff_40_3 : foff Tryz.prog 40 3 = .some 5 := by kernel_rfl
@[go_sem] theorem ftyp_40_4 : ftyp Tryz.prog 40 4 = .some 39 := by kernel_rfl
@[go_sem] theorem foff_40_4 : foff Tryz.prog 40 4 = .some 6 := by kernel_rfl
@[go_sem] theorem ftyp_40_5 : ftyp Tryz.prog 40 5 = .some 3 := by kernel_rfl
@[go_sem] theorem foff_40_5 : foff Tryz.prog 40 5 = .some 7 := by kernel_rfl
@[go_sem] theorem ftyp_40_6 : ftyp Tryz.prog 40 6 = .some 3 := by kernel_rfl
@[go_sem] theorem foff_40_6 : foff Tryz.prog 40 6 = .some 8 := by kernel_rfl
@[go_sem] theorem tk_41 : tk Tryz.prog 41 = .str := by kernel_rfl
@[go_sem] theorem tsz_41 : tsz Tryz.prog 41 = .some 9 := by kernel_rfl
@[go_sem] theorem tby_41 : tby Tryz.prog 41 = .some 136 := by kernel_rfl
@[go_sem] theorem tz_41 : tz Tryz.prog 41 = .some [(.v (.int .i64 0)), (.v (.slice .none 0 0)), (.v (.slice .none 0 0)), (.v (.slice .none 0 0)), (.v (.int .i64 0)), (.v (.bool false)), (.v (.slice .none 0 0)), (.v (.int .i64 0)), (.v (.int .i64 0))] := by kernel_rfl
@[go_sem] theorem tagg_41 : tagg Tryz.prog 41 = .some true := by kernel_rfl
@[go_sem] theorem tfi_41 : tfi Tryz.prog 41 = true := by kernel_rfl
@[go_sem] theorem ftyp_41_0 : ftyp Tryz.prog 41 0 = .some 37 := by kernel_rfl
@[go_sem] theorem foff_41_0 : foff Tryz.prog 41 0 = .some 0 := by kernel_rfl
@[go_sem] theorem ftyp_41_1 : ftyp Tryz.prog 41 1 = .some 38 := by kernel_rfl
@[go_sem] theorem foff_41_1 : foff Tryz.prog 41 1 = .some 3 := by kernel_rfl
@[go_sem] theorem ftyp_41_2 : ftyp Tryz.prog 41 2 = .some 3 := by kernel_rfl
@[go_sem] theorem foff_41_2 : foff Tryz.prog 41 2 = .some 4 := by kernel_rfl
@[go_sem] theorem ftyp_41_3 : ftyp Tryz.prog 41 3 = .some 4 := by kernel_rfl
@[go_sem] theorem foff_41_3 : foff Tryz.prog 41 3 = .some 5 := by kernel_rfl
@[go_sem] theorem ftyp_41_4 : ftyp Tryz.prog 41 4 = .some 39 := by kernel_rfl
@[go_sem] theorem foff_41_4 : foff Tryz.prog 41 4 = .some 6 := by kernel_rfl
@[go_sem] theorem ftyp_41_5 : ftyp Tryz.prog 41 5 = .some 3 := by kernel_rfl
@[go_sem] theorem foff_41_5 : foff Tryz.prog 41 5 = .some 7 := by kernel_rfl
@[go_sem] theorem ftyp_41_6 : ftyp Tryz.prog 41 6 = .some 3 := by kernel_rfl
@[go_sem] theorem foff_41_6 : foff Tryz.prog 41 6 = .some 8 := by kernel_rfl
@[go_sem] theorem tk_42 : tk Tryz.prog 42 = .arr 2 33 := by kernel_rfl
@[go_sem] theorem tsz_42 : tsz Tryz.prog 42 = .some 2 := by kernel_rfl
@[go_sem] theorem tby_42 : tby Tryz.prog 42 = .some 48 := by kernel_rfl
@[go_sem] theorem tz_42 : tz Tryz.prog 42 = .some [(.v (.slice .none 0 0)), (.v (.slice .none 0 0))] := by kernel_rfl
@[go_sem] theorem tagg_42 : tagg Tryz.prog 42 = .some true := by kernel_rfl
@[go_sem] theorem tk_43 : tk Tryz.prog 43 = .str := by kernel_rfl
@[go_sem] theorem tsz_43 : tsz Tryz.prog 43 = .some 5 := by kernel_rfl
@[go_sem] theorem tby_43 : tby Tryz.prog 43 = .some 88 := by kernel_rfl
@[go_sem] theorem tz_43 : tz Tryz.prog 43 = .some [(.v (.slice .none 0 0)), (.v (.slice .none 0 0)), (.v (.slice .none 0 0)), (.v (.int .i64 0)), (.v (.int .i64 0))] := by kernel_rfl
@[go_sem] theorem tagg_43 : tagg Tryz.prog 43 = .some true := by kernel_rfl
@[go_sem] theorem tfi_43 : tfi Tryz.prog 43 = true := by kernel_rfl
@[go_sem] theorem ftyp_43_0 : ftyp Tryz.prog 43 0 = .some 33 := by kernel_rfl
@[go_sem] theorem foff_43_0 : foff Tryz.prog 43 0 = .some 0 := by kernel_rfl
@[go_sem] theorem ftyp_43_1 : ftyp Tryz.prog 43 1 = .some 42 := by kernel_rfl
@[go_sem] theorem foff_43_1 : foff Tryz.prog 43 1 = .some 1 := by kernel_rfl
@[go_sem] theorem ftyp_43_2 : ftyp Tryz.prog 43 2 = .some 3 := by kernel_rfl
@[go_sem] theorem foff_43_2 : foff Tryz.prog 43 2 = .some 3 := by kernel_rfl
@[go_sem] theorem ftyp_43_3 : ftyp Tryz.prog 43 3 = .some 3 := by kernel_rfl
@[go_sem] theorem foff_43_3 : foff Tryz.prog 43 3 = .some 4 := by kernel_rfl
@[go_sem] theorem tk_44 : tk Tryz.prog 44 = .str := by kernel_rfl
@[go_sem] theorem tsz_44 : tsz Tryz.prog 44 = .some 5 := by kernel_rfl
@[go_sem] theorem tby_44 : tby Tryz.prog 44 = .some 88 := by kernel_rfl
@[go_sem] theorem tz_44 : tz Tryz.prog 44 = .some [(.v (.slice .none 0 0)), (.v (.slice .none 0 0)), (.v (.slice .none 0 0)), (.v (.int .i64 0)), (.v (.int .i64 0))] := by kernel_rfl
@[go_sem] theorem tagg_44 : tagg Tryz.prog 44 = .some true := by kernel_rfl
@[go_sem] theorem tfi_44 : tfi Tryz.prog 44 = true := by kernel_rfl
@[go_sem] theorem ftyp_44_0 : ftyp Tryz.prog 44 0 = .some 33 := by kernel_rfl
@[go_sem] theorem foff_44_0 : foff Tryz.prog 44 0 = .some 0 := by kernel_rfl
@[go_sem] theorem ftyp_44_1 : ftyp Tryz.prog 44 1 = .some 42 := by kernel_rfl
@[go_sem] theorem foff_44_1 : foff Tryz.prog 44 1 = .some 1 := by kernel_rfl
@[go_sem] theorem ftyp_44_2 : ftyp Tryz.prog 44 2 = .some 3 := by kernel_rfl
@[go_sem] theorem foff_44_2 : foff Tryz.prog 44 2 = .some 3 := by kernel_rfl
@[go_sem] theorem ftyp_44_3 : ftyp Tryz.prog 44 3 = .some 3 := by kernel_rfl
@[go_sem] theorem foff_44_3 : foff Tryz.prog 44 3 = .some 4 := by kernel_rfl
@[go_sem] theorem tk_45 : tk Tryz.prog 45 = .other := by kernel_rfl
@[go_sem] theorem tsz_45 : tsz Tryz.prog 45 = .some 1 := by kernel_rfl
@[go_sem] theorem tby_45 : tby Tryz.prog 45 = .some 0 := by kernel_rfl
@[go_sem] theorem tagg_45 : tagg Tryz.prog 45 = .some false := by kernel_rfl
@[go_sem] theorem tk_46 : tk Tryz.prog 46 = .other := by kernel_rfl
@[go_sem] theorem tsz_46 : tsz Tryz.prog 46 = .some 1 := by kernel_rfl
@[go_sem] theorem tby_46 : tby Tryz.prog 46 = .some 8 := by kernel_rfl
@[go_sem] theorem tz_46 : tz Tryz.prog 46 = .some [(.v .nilFunc)] := by kernel_rfl
@[go_sem] theorem tagg_46 : tagg Tryz.prog 46 = .some false := by kernel_rfl
@[go_sem] theorem tk_47 : tk Tryz.prog 47 = .other := by kernel_rfl
@[go_sem] theorem tsz_47 : tsz Tryz.prog 47 = .some 1 := by kernel_rfl
@[go_sem] theorem tby_47 : tby Tryz.prog 47 = .some 8 := by kernel_rfl
@[go_sem] theorem tz_47 : tz Tryz.prog 47 = .some [(.v .nilFunc)] := by kernel_rfl
@[go_sem] theorem tagg_47 : tagg Tryz.prog 47 = .some false := by kernel_rfl
@[go_sem] theorem tk_48 : tk Tryz.prog 48 = .sl 44 := by kernel_rfl
@[go_sem] theorem tsz_48 : tsz Tryz.prog 48 = .some 1 := by kernel_rfl
@[go_sem] theorem tby_48 : tby Tryz.prog 48 = .some 24 := by kernel_rfl
@[go_sem] theorem tz_48 : tz Tryz.prog 48 = .some [(.v (.slice .none 0 0))] := by kernel_rfl
@[go_sem] theorem tagg_48 : tagg Tryz.prog 48 = .some false := by kernel_rfl
@[go_sem] theorem tk_49 : tk Tryz.prog 49 = .other := by kernel_rfl
@[go_sem] theorem tsz_49 : tsz Tryz.prog 49 = .some 1 := by kernel_rfl
@[go_sem] theorem tby_49 : tby Tryz.prog 49 = .some 8 := by kernel_rfl
@[go_sem] theorem tz_49 : tz Tryz.prog 49 = .some [(.v .nilFunc)] := by kernel_rfl
@[go_sem] theorem tagg_49 : tagg Tryz.prog 49 = .some false := by kernel_rfl
@[go_sem] theorem tk_50 : tk Tryz.prog 50 = .other := by kernel_rfl
@[go_sem] theorem tsz_50 : tsz Tryz.prog 50 = .some 1 := by kernel_rfl
@[go_sem] theorem tby_50 : tby Tryz.prog 50 = .some 8 := by kernel_rfl
@[go_sem] theorem tz_50 : tz Tryz.prog 50 = .some [(.v .nilFunc)] := by kernel_rfl
@[go_sem] theorem tagg_50 : tagg Tryz.prog 50 = .some false := by kernel_rfl
@[go_sem] theorem tk_51 : tk Tryz.prog 51 = .other := by kernel_rfl
@[go_sem] theorem tsz_51 : tsz Tryz.prog 51 = .some 1 := by kernel_rfl
@[go_sem] theorem tby_51 : tby Tryz.prog 51 = .some 8 := by kernel_rfl
@[go_sem] theorem tz_51 : tz Tryz.prog 51 = .some [(.v .nilFunc)] := by kernel_rfl
@[go_sem] theorem tagg_51 : tagg Tryz.prog 51 = .some false := by kernel_rfl
@[go_sem] theorem tk_52 : tk Tryz.prog 52 = .str := by kernel_rfl
@[go_sem] theorem tsz_52 : tsz Tryz.prog 52 = .some 2 := by kernel_rfl
@[go_sem] theorem tby_52 : tby Tryz.prog 52 = .some 16 := by kernel_rfl
@[go_sem] theorem tz_52 : tz Tryz.prog 52 = .some [(.v (.int .i64 0)), (.v (.bool false))] := by kernel_rfl
@[go_sem] theorem tagg_52 : tagg Tryz.prog 52 = .some true := by kernel_rfl
@[go_sem] theorem tfi_52 : tfi Tryz.prog 52 = true := by kernel_rfl
@[go_sem] theorem tflat_52 : tflat Tryz.prog 52 = .some [false, true] := by kernel_rfl
@[go_sem] theorem ftyp_52_0 : ftyp Tryz.prog 52 0 = .some 3 := by kernel_rfl
@[go_sem] theorem foff_52_0 : foff Tryz.prog 52 0 = .some 0 := by kernel_rfl
@[go_sem] theorem ftyp_52_1 : ftyp Tryz.prog 52 1 = .some 4 := by kernel_rfl
@[go_sem] theorem foff_52_1 : foff Tryz.prog 52 1 = .some 1 := by kernel_rfl
@[go_sem] theorem tk_53 : tk Tryz.prog 53 = .str := by kernel_rfl
@[go_sem] theorem tsz_53 : tsz Tryz.prog 53 = .some 2 := by kernel_rfl
@[go_sem] theorem tby_53 : tby Tryz.prog 53 = .some 16 := by kernel_rfl
@[go_sem] theorem tz_53 : tz Tryz.prog 53 = .some [(.v (.int .i64 0)), (.v (.bool false))] := by kernel_rfl
@[go_sem] theorem tagg_53 : tagg Tryz.prog 53 = .some true := by kernel_rfl
@[go_sem] theorem tfi_53 : tfi Tryz.prog 53 = true := by kernel_rfl
@[go_sem] theorem tflat_53 : tflat Tryz.prog 53 = .some [false, true] := by kernel_rfl
@[go_sem] theorem ftyp_53_0 : ftyp Tryz.prog 53 0 = .some 3 := by kernel_rfl
@[go_sem] theorem foff_53_0 : foff Tryz.prog 53 0 = .some 0 := by kernel_rfl
@[go_sem] theorem ftyp_53_1 : ftyp Tryz.prog 53 1 = .some 4 := by kernel_rfl
@[go_sem] theorem foff_53_1 : foff Tryz.prog 53 1 = .some 1 := by kernel_rfl
@[go_sem] theorem tk_54 : tk Tryz.prog 54 = .other := by kernel_rfl
@[go_sem] theorem tsz_54 : tsz Tryz.prog 54 = .some 1 := by kernel_rfl
@[go_sem] theorem tby_54 : tby Tryz.prog 54 = .some 8 := by kernel_rfl
@[go_sem] theorem tz_54 : tz Tryz.prog 54 = .some [(.v .nilFunc)] := by kernel_rfl
@[go_sem] theorem tagg_54 : tagg Tryz.prog 54 = .some false := by kernel_rfl
@[go_sem] theorem tk_55 : tk Tryz.prog 55 = .other := by kernel_rfl
@[go_sem] theorem tsz_55 : tsz Tryz.prog 55 = .some 1 := by kernel_rfl
@[go_sem] theorem tby_55 : tby Tryz.prog 55 = .some 8 := by kernel_rfl
@[go_sem] theorem tz_55 : tz Tryz.prog 55 = .some [(.v .nilFunc)] := by kernel_rfl
@[go_sem] theorem tagg_55 : tagg Tryz.prog 55 = .some false := by kernel_rfl
@[go_sem] theorem tk_56 : tk Tryz.prog 56 = .other := by kernel_rfl
@[go_sem] theorem tsz_56 : tsz Tryz.prog 56 = .some 1 := by kernel_rfl
@[go_sem] theorem tby_56 : tby Tryz.prog 56 = .some 8 := by kernel_rfl
@[go_sem] theorem tz_56 : tz Tryz.prog 56 = .some [(.v .nilFunc)] := by kernel_rfl
@[go_sem] theorem tagg_56 : tagg Tryz.prog 56 = .some false := by kernel_rfl
@[go_sem] theorem tk_57 : tk Tryz.prog 57 = .other := by kernel_rfl
@[go_sem] theorem tsz_57 : tsz Tryz.prog 57 = .some 1 := by kernel_rfl
@[go_sem] theorem tby_57 : tby Tryz.prog 57 = .some 8 := by kernel_rfl
@[go_sem] theorem tz_57 : tz Tryz.prog 57 = .some [(.v .nilFunc)] := by kernel_rfl
@[go_sem] theorem tagg_57 : tagg Tryz.prog 57 = .some false := by kernel_rfl
@[go_sem] theorem tk_58 : tk Tryz.prog 58 = .str := by kernel_rfl
@[go_sem] theorem tsz_58 : tsz Tryz.prog 58 = .some 4 := by kernel_rfl
@[go_sem] theorem tby_58 : tby Tryz.prog 58 = .some 32 := by kernel_rfl
@[go_sem] theorem tz_58 : tz Tryz.prog 58 = .some [(.v (.int .i64 0)), (.v (.int .i64 0)), (.v (.int .i64 0)), (.v (.int .i64 0))] := by kernel_rfl
@[go_sem] theorem tagg_58 : tagg Tryz.prog 58 = .some true := by kernel_rfl
@[go_sem] theorem tfi_58 : tfi Tryz.prog 58 = true := by kernel_rfl
@[go_sem] theorem tflat_58 : tflat Tryz.prog 58 = .some [false, false, false, false] := by kernel_rfl
@[go_sem] theorem ftyp_58_0 : ftyp Tryz.prog 58 0 = .some 3 := by kernel_rfl
@[go_sem] theorem foff_58_0 : foff Tryz.prog 58 0 = .some 0 := by kernel_rfl
@[go_sem] theorem ftyp_58_1 : ftyp Tryz.prog 58 1 = .some 3 := by kernel_rfl
@[go_sem] theorem foff_58_1 : foff Tryz.prog 58 1 = .some 1 := by kernel_rfl
@[go_sem] theorem ftyp_58_2 : ftyp Tryz.prog 58 2 = .some 3 := by kernel_rfl
@[go_sem] theorem foff_58_2 : foff Tryz.prog 58 2 = .some 2 := by kernel_rfl
@[go_sem] theorem ftyp_58_3 : ftyp Tryz.prog 58 3 = .some 3 := by kernel_rfl
@[go_sem] theorem foff_58_3 : foff Tryz.prog 58 3 = .some 3 := by kernel_rfl
@[go_sem] theorem tk_59 : tk Tryz.prog 59 = .str := by kernel_rfl
@[go_sem] theorem tsz_59 : tsz Tryz.prog 59 = .some 4 := by kernel_rfl
@[go_sem] theorem tby_59 : tby Tryz.prog 59 = .some 32 := by kernel_rfl
@[go_sem] theorem tz_59 : tz Tryz.prog 59 = .some [(.v (.int .i64 0)), (.v (.int .i64 0)), (.v (.int .i64 0)), (.v (.int .i64 0))] := by kernel_rfl
@[go_sem] theorem tagg_59 : tagg Tryz.prog 59 = .some true := by kernel_rfl
@[go_sem] theorem tfi_59 : tfi Tryz.prog 59 = true := by kernel_rfl
@[go_sem] theorem tflat_59 : tflat Tryz.prog 59 = .some [false, false, false, false] := by kernel_rfl
@[go_sem] theorem ftyp_59_0 : ftyp Tryz.prog 59 0 = .some 3 := by kernel_rfl
@[go_sem] theorem foff_59_0 : foff Tryz.prog 59 0 = .some 0 := by kernel_rfl
@[go_sem] theorem ftyp_59_1 : ftyp Tryz.prog 59 1 = .some 3 := by kernel_rfl
@[go_sem] theorem foff_59_1 : foff Tryz.prog 59 1 = .some 1 := by kernel_rfl
@[go_sem] theorem ftyp_59_2 : ftyp Tryz.prog 59 2 = .some 3 := by kernel_rfl
@[go_sem] theorem foff_59_2 : foff Tryz.prog 59 2 = .some 2 := by kernel_rfl
@[go_sem] theorem ftyp_59_3 : ftyp Tryz.prog 59 3 = .some 3 := by kernel_rfl
@[go_sem] theorem foff_59_3 : foff Tryz.prog 59 3 = .some 3 := by kernel_rfl
@[go_sem] theorem tk_60 : tk Tryz.prog 60 = .other := by kernel_rfl
@[go_sem] theorem tsz_60 : tsz Tryz.prog 60 = .some 1 := by kernel_rfl
@[go_sem] theorem tby_60 : tby Tryz.prog 60 = .some 8 := by kernel_rfl
@[go_sem] theorem tz_60 : tz Tryz.prog 60 = .some [(.v .nilFunc)] := by kernel_rfl
@[go_sem] theorem tagg_60 : tagg Tryz.prog 60 = .some false := by kernel_rfl
@[go_sem] theorem tk_61 : tk Tryz.prog 61 = .arr 3 5 := by kernel_rfl
@[go_sem] theorem tsz_61 : tsz Tryz.prog 61 = .some 3 := by kernel_rfl
@[go_sem] theorem tby_61 : tby Tryz.prog 61 = .some 3 := by kernel_rfl
@[go_sem] theorem tz_61 : tz Tryz.prog 61 = .some [(.v (.int .u8 0)), (.v (.int .u8 0)), (.v (.int .u8 0))] := by kernel_rfl
@[go_sem] theorem tagg_61 : tagg Tryz.prog 61 = .some true := by kernel_rfl
@[go_sem] theorem tk_62 : tk Tryz.prog 62 = .other := by kernel_rfl
@[go_sem] theorem tsz_62 : tsz Tryz.prog 62 = .some 1 := by kernel_rfl
@[go_sem] theorem tby_62 : tby Tryz.prog 62 = .some 8 := by kernel_rfl
@[go_sem] theorem tz_62 : tz Tryz.prog 62 = .some [(.v .nilFunc)] := by kernel_rfl
@[go_sem] theorem tagg_62 : tagg Tryz.prog 62 = .some false := by kernel_rfl
@[go_sem] theorem tk_63 : tk Tryz.prog 63 = .sl 80 := by kernel_rfl
@[go_sem] theorem tsz_63 : tsz Tryz.prog 63 = .some 1 := by kernel_rfl
@[go_sem] theorem tby_63 : tby Tryz.prog 63 = .some 24 := by kernel_rfl
@[go_sem] theorem tz_63 : tz Tryz.prog 63 = .some [(.v (.slice .none 0 0))] := by kernel_rfl
@[go_sem] theorem tagg_63 : tagg Tryz.prog 63 = .some false := by kernel_rfl
@[go_sem] theorem tk_64 : tk Tryz.prog 64 = .other := by kernel_rfl
@[go_sem] theorem tsz_64 : tsz Tryz.prog 64 = .some 1 := by kernel_rfl
@[go_sem] theorem tby_64 : tby Tryz.prog 64 = .some 8 := by kernel_rfl
@[go_sem] theorem tz_64 : tz Tryz.prog 64 = .some [(.v .nilFunc)] := by kernel_rfl
@[go_sem] theorem tagg_64 : tagg Tryz.prog 64 = .some false := by kernel_rfl
@[go_sem] theorem tk_65 : tk Tryz.prog 65 = .other := by kernel_rfl
@[go_sem] theorem tsz_65 : tsz Tryz.prog 65 = .some 1 := by kernel_rfl
@[go_sem] theorem tby_65 : tby Tryz.prog 65 = .some 8 := by kernel_rfl
@[go_sem] theorem tz_65 : tz Tryz.prog 65 = .some [(.v .nilFunc)] := by kernel_rfl
@[go_sem] theorem tagg_65 : tagg Tryz.prog 65 = .some false := by kernel_rfl
@[go_sem] theorem tk_66 : tk Tryz.prog 66 = .other := by kernel_rfl
@[go_sem] theorem tsz_66 : tsz Tryz.prog 66 = .some 1 := by kernel_rfl
@[go_sem] theorem tby_66 : tby Tryz.prog 66 = .some 8 := by kernel_rfl
@[go_sem] theorem tz_66 : tz Tryz.prog 66 = .some [(.v .nilFunc)] := by kernel_rfl
@[go_sem] theorem tagg_66 : tagg Tryz.prog 66 = .some false := by kernel_rfl
@[go_sem] theorem tk_67 : tk Tryz.prog 67 = .other := by kernel_rfl
@[go_sem] theorem tsz_67 : tsz Tryz.prog 67 = .some 1 := by kernel_rfl
@[go_sem] theorem tby_67 : tby Tryz.prog 67 = .some 8 := by kernel_rfl
@[go_sem] theorem tz_67 : tz Tryz.prog 67 = .some [(.v .nilFunc)] := by kernel_rfl
@[go_sem] theorem tagg_67 : tagg Tryz.prog 67 = .some false := by kernel_rfl
@[go_sem] theorem tk_68 : tk Tryz.prog 68 = .other := by kernel_rfl
@[go_sem] theorem tsz_68 : tsz Tryz.prog 68 = .some 1 := by kernel_rfl
@[go_sem] theorem tby_68 : tby Tryz.prog 68 = .some 8 := by kernel_rfl
@[go_sem] theorem tz_68 : tz Tryz.prog 68 = .some [(.v .nilFunc)] := by kernel_rfl
@[go_sem] theorem tagg_68 : tagg Tryz.prog 68 = .some false := by kernel_rfl
@[go_sem] theorem tk_69 : tk Tryz.prog 69 = .other := by kernel_rfl
@[go_sem] theorem tsz_69 : tsz Tryz.prog 69 = .some 1 := by kernel_rfl
@[go_sem] theorem tby_69 : tby Tryz.prog 69 = .some 8 := by kernel_rfl
@[go_sem] theorem tz_69 : tz Tryz.prog 69 = .some [(.v .nilFunc)] := by kernel_rfl
@[go_sem] theorem tagg_69 : tagg Tryz.prog 69 = .some false := by kernel_rfl
@[go_sem] theorem tk_70 : tk Tryz.prog 70 = .arr 2 5 := by kernel_rfl
@[go_sem] theorem tsz_70 : tsz Tryz.prog 70 = .some 2 := by kernel_rfl
@[go_sem] theorem tby_70 : tby Tryz.prog 70 = .some 2 := by kernel_rfl
@[go_sem] theorem tz_70 : tz Tryz.prog 70 = .some [(.v (.int .u8 0)), (.v (.int .u8 0))] := by kernel_rfl
@[go_sem] theorem tagg_70 : tagg Tryz.prog 70 = .some true := by kernel_rfl
@[go_sem] theorem tk_71 : tk Tryz.prog 71 = .sl 77 := by kernel_rfl
@[go_sem] theorem tsz_71 : tsz Tryz.prog 71 = .some 1 := by kernel_rfl
@[go_sem] theorem tby_71 : tby Tryz.prog 71 = .some 24 := by kernel_rfl
@[go_sem] theorem tz_71 : tz Tryz.prog 71 = .some [(.v (.slice .none 0 0))] := by kernel_rfl
@[go_sem] theorem tagg_71 : tagg Tryz.prog 71 = .some false := by kernel_rfl
@[go_sem] theorem tk_72 : tk Tryz.prog 72 = .str := by kernel_rfl
@[go_sem] theorem tsz_72 : tsz Tryz.prog 72 = .some 3 := by kernel_rfl
@[go_sem] theorem tby_72 : tby Tryz.prog 72 = .some 48 := by kernel_rfl
@[go_sem] theorem tz_72 : tz Tryz.prog 72 = .some [(.v (.string ⟨⟨[]⟩⟩)), (.v (.slice .none 0 0)), (.v (.bool false))] := by kernel_rfl
@[go_sem] theorem tagg_72 : tagg Tryz.prog 72 = .some true := by kernel_rfl
@[go_sem] theorem tfi_72 : tfi Tryz.prog 72 = true := by kernel_rfl
@[go_sem] theorem ftyp_72_0 : ftyp Tryz.prog 72 0 = .some 9 := by kernel_rfl
@[go_sem] theorem foff_72_0 : foff Tryz.prog 72 0 = .some 0 := by kernel_rfl
@[go_sem] theorem ftyp_72_1 : ftyp Tryz.prog 72 1 = .some 71 := by kernel_rfl
@[go_sem] theorem foff_72_1 : foff Tryz.prog 72 1 = .some 1 := by kernel_rfl
@[go_sem] theorem ftyp_72_2 : ftyp Tryz.prog 72 2 = .some 4 := by kernel_rfl
@[go_sem] theorem foff_72_2 : foff Tryz.prog 72 2 = .some 2 := by kernel_rfl
@[go_sem] theorem tk_73 : tk Tryz.prog 73 = .str := by kernel_rfl
@[go_sem] theorem tsz_73 : tsz Tryz.prog 73 = .some 3 := by kernel_rfl
@[go_sem] theorem tby_73 : tby Tryz.prog 73 = .some 48 := by kernel_rfl
@[go_sem] theorem tz_73 : tz Tryz.prog 73 = .some [(.v (.string ⟨⟨[]⟩⟩)), (.v (.slice .none 0 0)), (.v (.bool false))] := by kernel_rfl
@[go_sem] theorem tagg_73 : tagg Tryz.prog 73 = .some true := by kernel_rfl
@[go_sem] theorem tfi_73 : tfi Tryz.prog 73 = true := by kernel_rfl
@[go_sem] theorem ftyp_73_0 : ftyp Tryz.prog 73 0 = .some 9 := by kernel_rfl
@[go_sem] theorem foff_73_0 : foff Tryz.prog 73 0 = .some 0 := by kernel_rfl
@[go_sem] theorem ftyp_73_1 : ftyp Tryz.prog 73 1 = .some 71 := by kernel_rfl
@[go_sem] theorem foff_73_1 : foff Tryz.prog 73 1 = .some 1 := by kernel_rfl
@[go_sem] theorem ftyp_73_2 : ftyp Tryz.prog 73 2 = .some 4 := by kernel_rfl
@[go_sem] theorem foff_73_2 : foff Tryz.prog 73 2 = .some 2 := by kernel_rfl
@[go_sem] theorem tk_74 : tk Tryz.prog 74 = .str := by kernel_rfl
@[go_sem] theorem tsz_74 : tsz Tryz.prog 74 = .some 2 := by kernel_rfl
@[go_sem] theorem tby_74 : tby Tryz.prog 74 = .some 16 := by kernel_rfl
@[go_sem] theorem tz_74 : tz Tryz.prog 74 = .some [(.v (.int .i64 0)), (.v (.int .i64 0))] := by kernel_rfl
@[go_sem] theorem tagg_74 : tagg Tryz.prog 74 = .some true := by kernel_rfl
@[go_sem] theorem tfi_74 : tfi Tryz.prog 74 = true := by kernel_rfl
@[go_sem] theorem tflat_74 : tflat Tryz.prog 74 = .some [false, false] := by kernel_rfl
@[go_sem] theorem ftyp_74_0 : ftyp Tryz.prog 74 0 = .some 3 := by kernel_rfl
@[go_sem] theorem foff_74_0 : foff Tryz.prog 74 0 = .some 0 := by kernel_rfl
@[go_sem] theorem ftyp_74_1 : ftyp Tryz.prog 74 1 = .some 3 := by kernel_rfl
@[go_sem] theorem foff_74_1 : foff Tryz.prog 74 1 = .some 1 := by kernel_rfl
@[go_sem] theorem tk_75 : tk Tryz.prog 75 = .str := by kernel_rfl
@[go_sem] theorem tsz_75 : tsz Tryz.prog 75 = .some 2 := by kernel_rfl
@[go_sem] theorem tby_75 : tby Tryz.prog 75 = .some 16 := by kernel_rfl
@[go_sem] theorem tz_75 : tz Tryz.prog 75 = .some [(.v (.int .i64 0)), (.v (.int .i64 0))] := by kernel_rfl
@[go_sem] theorem tagg_75 : tagg Tryz.prog 75 = .some true := by kernel_rfl
@[go_sem] theorem tfi_75 : tfi Tryz.prog 75 = true := by kernel_rfl
@[go_sem] theorem tflat_75 : tflat Tryz.prog 75 = .some [false, false] := by kernel_rfl
@[go_sem] theorem ftyp_75_0 : ftyp Tryz.prog 75 0 = .some 3 := by kernel_rfl
@[go_sem] theorem foff_75_0 : foff Tryz.prog 75 0 = .some 0 := by kernel_rfl
@[go_sem] theorem ftyp_75_1 : ftyp Tryz.prog 75 1 = .some 3 := by kernel_rfl
@[go_sem] theorem foff_75_1 : foff Tryz.prog 75 1 = .some 1 := by kernel_rfl
@[go_sem] theorem tk_76 : tk Tryz.prog 76 = .sl 75 := by kernel_rfl
@[go_sem] theorem tsz_76 : tsz Tryz.prog 76 = .some 1 := by kernel_rfl
@[go_sem] theorem tby_76 : tby Tryz.prog 76 = .some 24 := by kernel_rfl
@[go_sem] theorem tz_76 : tz Tryz.prog 76 = .some [(.v (.slice .none 0 0))] := by kernel_rfl
@[go_sem] theorem tagg_76 : tagg Tryz.prog 76 = .some false := by kernel_rfl
@[go_sem] theorem tk_77 : tk Tryz.prog 77 = .sl 75 := by kernel_rfl
@[go_sem] theorem tsz_77 : tsz Tryz.prog 77 = .some 1 := by kernel_rfl
@[go_sem] theorem tby_77 : tby Tryz.prog 77 = .some 24 := by kernel_rfl
@[go_sem] theorem tz_77 : tz Tryz.prog 77 = .some [(.v (.slice .none 0 0))] := by kernel_rfl
@[go_sem] theorem tagg_77 : tagg Tryz.prog 77 = .some false := by kernel_rfl
@[go_sem] theorem tk_78 : tk Tryz.prog 78 = .other := by kernel_rfl
@[go_sem] theorem tsz_78 : tsz Tryz.prog 78 = .some 1 := by kernel_rfl
@[go_sem] theorem tby_78 : tby Tryz.prog 78 = .some 8 := by kernel_rfl
@[go_sem] theorem tz_78 : tz Tryz.prog 78 = .some [(.v .nilFunc)] := by kernel_rfl
@[go_sem] theorem tagg_78 : tagg Tryz.prog 78 = .some false := by kernel_rfl
@[go_sem] theorem tk_79 : tk Tryz.prog 79 = .str := by kernel_rfl
@[go_sem] theorem tsz_79 : tsz Tryz.prog 79 = .some 6 := by kernel_rfl
@[go_sem] theorem tby_79 : tby Tryz.prog 79 = .some 96 := by kernel_rfl
@[go_sem] theorem tz_79 : tz Tryz.prog 79 = .some [(.v (.slice .none 0 0)), (.v (.slice .none 0 0)), (.v (.slice .none 0 0)), (.v (.int .i64 0)), (.v (.int .i64 0)), (.v (.bool false))] := by kernel_rfl
@[go_sem] theorem tagg_79 : tagg Tryz.prog 79 = .some true := by kernel_rfl
@[go_sem] theorem tfi_79 : tfi Tryz.prog 79 = true := by kernel_rfl
@[go_sem] theorem ftyp_79_0 : ftyp Tryz.prog 79 0 = .some 44 := by kernel_rfl
@[go_sem] theorem foff_79_0 : foff Tryz.prog 79 0 = .some 0 := by kernel_rfl
@[go_sem] theorem ftyp_79_1 : ftyp Tryz.prog 79 1 = .some 4 := by kernel_rfl
@[go_sem] theorem foff_79_1 : foff Tryz.prog 79 1 = .some 5 := by kernel_rfl
@[go_sem] theorem tk_80 : tk Tryz.prog 80 = .str := by kernel_rfl
@[go_sem] theorem tsz_80 : tsz Tryz.prog 80 = .some 6 := by kernel_rfl
@[go_sem] theorem tby_80 : tby Tryz.prog 80 = .some 96 := by kernel_rfl
@[go_sem] theorem tz_80 : tz Tryz.prog 80 = .some [(.v (.slice .none 0 0)), (.v (.slice .none 0 0)), (.v (.slice .none 0 0)), (.v (.int .i64 0)), (.v (.int .i64 0)), (.v (.bool false))] := by kernel_rfl
@[go_sem] theorem tagg_80 : tagg Tryz.prog 80 = .some true := by kernel_rfl
@[go_sem] theorem tfi_80 : tfi Tryz.prog 80 = true := by kernel_rfl
@[go_sem] theorem ftyp_80_0 : ftyp Tryz.prog 80 0 = .some 44 := by kernel_rfl
@[go_sem] theorem foff_80_0 : foff Tryz.prog 80 0 = .some 0 := by kernel_rfl
@[go_sem] theorem ftyp_80_1 : ftyp Tryz.prog 80 1 = .some 4 := by kernel_rfl
@[go_sem] theorem foff_80_1 : foff Tryz.prog 80 1 = .some 5 := by kernel_rfl
@[go_sem] theorem tk_81 : tk Tryz.prog 81 = .other := by kernel_rfl
@[go_sem] theorem tsz_81 : tsz Tryz.prog 81 = .some 1 := by kernel_rfl
@[go_sem] theorem tby_81 : tby Tryz.prog 81 = .some 0 := by kernel_rfl
@[go_sem] theorem tagg_81 : tagg Tryz.prog 81 = .some false := by kernel_rfl
@[go_sem] theorem tk_82 : tk Tryz.prog 82 = .other := by kernel_rfl
@[go_sem] theorem tsz_82 : tsz Tryz.prog 82 = .some 1 := by kernel_rfl
@[go_sem] theorem tby_82 : tby Tryz.prog 82 = .some 8 := by kernel_rfl
@[go_sem] theorem tz_82 : tz Tryz.prog 82 = .some [(.v .nilFunc)] := by kernel_rfl
@[go_sem] theorem tagg_82 : tagg Tryz.prog 82 = .some false := by kernel_rfl
@[go_sem] theorem tk_83 : tk Tryz.prog 83 = .other := by kernel_rfl
@[go_sem] theorem tsz_83 : tsz Tryz.prog 83 = .some 1 := by kernel_rfl
@[go_sem] theorem tby_83 : tby Tryz.prog 83 = .some 8 := by kernel_rfl
@[go_sem] theorem tz_83 : tz Tryz.prog 83 = .some [(.v .nilFunc)] := by kernel_rfl
@[go_sem] theorem tagg_83 : tagg Tryz.prog 83 = .some false := by kernel_rfl
@[go_sem] theorem tk_84 : tk Tryz.prog 84 = .arr 2 44 := by kernel_rfl
@[go_sem] theorem tsz_84 : tsz Tryz.prog 84 = .some 10 := by kernel_rfl
@[go_sem] theorem tby_84 : tby Tryz.prog 84 = .some 176 := by kernel_rfl
@[go_sem] theorem tz_84 : tz Tryz.prog 84 = .some [(.v (.slice .none 0 0)), (.v (.slice .none 0 0)), (.v (.slice .none 0 0)), (.v (.int .i64 0)), (.v (.int .i64 0)), (.v (.slice .none 0 0)), (.v (.slice .none 0 0)), (.v (.slice .none 0 0)), (.v (.int .i64 0)), (.v (.int .i64 0))] := by kernel_rfl
@[go_sem] theorem tagg_84 : tagg Tryz.prog 84 = .some true := by kernel_rfl
@[go_sem] theorem tk_85 : tk Tryz.prog 85 = .other := by kernel_rfl
@[go_sem] theorem tsz_85 : tsz Tryz.prog 85 = .some 1 := by kernel_rfl
@[go_sem] theorem tby_85 : tby Tryz.prog 85 = .some 8 := by kernel_rfl
@[go_sem] theorem tz_85 : tz Tryz.prog 85 = .some [(.v .nilFunc)] := by kernel_rfl
@[go_sem] theorem tagg_85 : tagg Tryz.prog 85 = .some false := by kernel_rfl
@[go_sem] theorem tk_86 : tk Tryz.prog 86 = .int .i64 := by kernel_rfl
@[go_sem] theorem tsz_86 : tsz Tryz.prog 86 = .some 1 := by kernel_rfl
@[go_sem] theorem tby_86 : tby Tryz.prog 86 = .some 8 := by kernel_rfl
@[go_sem] theorem tz_86 : tz Tryz.prog 86 = .some [(.v (.int .i64 0))] := by kernel_rfl
@[go_sem] theorem tagg_86 : tagg Tryz.prog 86 = .some false := by kernel_rfl
@[go_sem] theorem tz1_86 : tz1 Tryz.prog 86 = .some (.int .i64 0) := by kernel_rfl
@[go_sem] theorem tk_87 : tk Tryz.prog 87 = .str := by kernel_rfl
@[go_sem] theorem tsz_87 : tsz Tryz.prog 87 = .some 2 := by kernel_rfl
@[go_sem] theorem tby_87 : tby Tryz.prog 87 = .some 32 := by kernel_rfl
@[go_sem] theorem tz_87 : tz Tryz.prog 87 = .some [(.v (.slice .none 0 0)), (.v (.int .i64 0))] := by kernel_rfl
@[go_sem] theorem tagg_87 : tagg Tryz.prog 87 = .some true := by kernel_rfl
@[go_sem] theorem tfi_87 : tfi Tryz.prog 87 = true := by kernel_rfl
@[go_sem] theorem ftyp_87_0 : ftyp Tryz.prog 87 0 = .some 48 := by kernel_rfl
@[go_sem] theorem foff_87_0 : foff Tryz.prog 87 0 = .some 0 := by kernel_rfl
@[go_sem] theorem ftyp_87_1 : ftyp Tryz.prog 87 1 = .some 86 := by kernel_rfl
@[go_sem] theorem foff_87_1 : foff Tryz.prog 87 1 = .some 1 := by kernel_rfl
@[go_sem] theorem tk_88 : tk Tryz.prog 88 = .str := by kernel_rfl
@[go_sem] theorem tsz_88 : tsz Tryz.prog 88 = .some 2 := by kernel_rfl
@[go_sem] theorem tby_88 : tby Tryz.prog 88 = .some 32 := by kernel_rfl
@[go_sem] theorem tz_88 : tz Tryz.prog 88 = .some [(.v (.slice .none 0 0)), (.v (.int .i64 0))] := by kernel_rfl
@[go_sem] theorem tagg_88 : tagg Tryz.prog 88 = .some true := by kernel_rfl
@[go_sem] theorem tfi_88 : tfi Tryz.prog 88 = true := by kernel_rfl
@[go_sem] theorem ftyp_88_0 : ftyp Tryz.prog 88 0 = .some 48 := by kernel_rfl
@[go_sem] theorem foff_88_0 : foff Tryz.prog 88 0 = .some 0 := by kernel_rfl
@[go_sem] theorem ftyp_88_1 : ftyp Tryz.prog 88 1 = .some 86 := by kernel_rfl
@[go_sem] theorem foff_88_1 : foff Tryz.prog 88 1 = .some 1 := by kernel_rfl
@[go_sem] theorem tk_89 : tk Tryz.prog 89 = .other := by kernel_rfl
@[go_sem] theorem tsz_89 : tsz Tryz.prog 89 = .some 1 := by kernel_rfl
@[go_sem] theorem tby_89 : tby Tryz.prog 89 = .some 8 := by kernel_rfl
@[go_sem] theorem tz_89 : tz Tryz.prog 89 = .some [(.v .nilFunc)] := by kernel_rfl
@[go_sem] theorem tagg_89 : tagg Tryz.prog 89 = .some false := by kernel_rfl
@[go_sem] theorem tk_90 : tk Tryz.prog 90 = .other := by kernel_rfl
@[go_sem] theorem tsz_90 : tsz Tryz.prog 90 = .some 1 := by kernel_rfl
@[go_sem] theorem tby_90 : tby Tryz.prog 90 = .some 8 := by kernel_rfl
@[go_sem] theorem tz_90 : tz Tryz.prog 90 = .some [(.v .nilFunc)] := by kernel_rfl
@[go_sem] theorem tagg_90 : tagg Tryz.prog 90 = .some false := by kernel_rfl
@[go_sem] theorem tk_91 : tk Tryz.prog 91 = .sl 48 := by kernel_rfl
@[go_sem] theorem tsz_91 : tsz Tryz.prog 91 = .some 1 := by kernel_rfl
@[go_sem] theorem tby_91 : tby Tryz.prog 91 = .some 24 := by kernel_rfl
@[go_sem] theorem tz_91 : tz Tryz.prog 91 = .some [(.v (.slice .none 0 0))] := by kernel_rfl
@[go_sem] theorem tagg_91 : tagg Tryz.prog 91 = .some false := by kernel_rfl
@[go_sem] theorem tk_92 : tk Tryz.prog 92 = .str := by kernel_rfl
@[go_sem] theorem tsz_92 : tsz Tryz.prog 92 = .some 2 := by kernel_rfl
@[go_sem] theorem tby_92 : tby Tryz.prog 92 = .some 32 := by kernel_rfl
@[go_sem] theorem tz_92 : tz Tryz.prog 92 = .some [(.v (.slice .none 0 0)), (.v (.bool false))] := by kernel_rfl
@[go_sem] theorem tagg_92 : tagg Tryz.prog 92 = .some true := by kernel_rfl
@[go_sem] theorem tfi_92 : tfi Tryz.prog 92 = true := by kernel_rfl
@[go_sem] theorem ftyp_92_0 : ftyp Tryz.prog 92 0 = .some 91 := by kernel_rfl
@[go_sem] theorem foff_92_0 : foff Tryz.prog 92 0 = .some 0 := by kernel_rfl
@[go_sem] theorem ftyp_92_1 : ftyp Tryz.prog 92 1 = .some 4 := by kernel_rfl
@[go_sem] theorem foff_92_1 : foff Tryz.prog 92 1 = .some 1 := by kernel_rfl
@[go_sem] theorem tk_93 : tk Tryz.prog 93 = .str := by kernel_rfl
@[go_sem] theorem tsz_93 : tsz Tryz.prog 93 = .some 2 := by kernel_rfl
@[go_sem] theorem tby_93 : tby Tryz.prog 93 = .some 32 := by kernel_rfl
@[go_sem] theorem tz_93 : tz Tryz.prog 93 = .some [(.v (.slice .none 0 0)), (.v (.bool false))] := by kernel_rfl
@[go_sem] theorem tagg_93 : tagg Tryz.prog 93 = .some true := by kernel_rfl
@[go_sem] theorem tfi_93 : tfi Tryz.prog 93 = true := by kernel_rfl
@[go_sem] theorem ftyp_93_0 : ftyp Tryz.prog 93 0 = .some 91 := by kernel_rfl
@[go_sem] theorem foff_93_0 : foff Tryz.prog 93 0 = .some 0 := by kernel_rfl
@[go_sem] theorem ftyp_93_1 : ftyp Tryz.prog 93 1 = .some 4 := by kernel_rfl
@[go_sem] theorem foff_93_1 : foff Tryz.prog 93 1 = .some 1 := by kernel_rfl
@[go_sem] theorem tk_94 : tk Tryz.prog 94 = .other := by kernel_rfl
@[go_sem] theorem tsz_94 : tsz Tryz.prog 94 = .some 1 := by kernel_rfl
@[go_sem] theorem tby_94 : tby Tryz.prog 94 = .some 8 := by kernel_rfl
@[go_sem] theorem tz_94 : tz Tryz.prog 94 = .some [(.v .nilFunc)] := by kernel_rfl
@[go_sem] theorem tagg_94 : tagg Tryz.prog 94 = .some false := by kernel_rfl
@[go_sem] theorem tk_95 : tk Tryz.prog 95 = .other := by kernel_rfl
@[go_sem] theorem tsz_95 : tsz Tryz.prog 95 = .some 1 := by kernel_rfl
@[go_sem] theorem tby_95 : tby Tryz.prog 95 = .some 8 := by kernel_rfl
@[go_sem] theorem tz_95 : tz Tryz.prog 95 = .some [(.v .nilFunc)] := by kernel_rfl
@[go_sem] theorem tagg_95 : tagg Tryz.prog 95 = .some false := by kernel_rfl
@[go_sem] theorem tk_96 : tk Tryz.prog 96 = .other := by kernel_rfl
@[go_sem] theorem tsz_96 : tsz Tryz.prog 96 = .some 1 := by kernel_rfl
@[go_sem] theorem tby_96 : tby Tryz.prog 96 = .some 8 := by kernel_rfl
@[go_sem] theorem tz_96 : tz Tryz.prog 96 = .some [(.v .nilFunc)] := by kernel_rfl
@[go_sem] theorem tagg_96 : tagg Tryz.prog 96 = .some false := by kernel_rfl
@[go_sem] theorem tk_97 : tk Tryz.prog 97 = .int .i8 := by kernel_rfl
@[go_sem] theorem tsz_97 : tsz Tryz.prog 97 = .some 1 := by kernel_rfl
@[go_sem] theorem tby_97 : tby Tryz.prog 97 = .some 1 := by kernel_rfl
@[go_sem] theorem tz_97 : tz Tryz.prog 97 = .some [(.v (.int .i8 0))] := by kernel_rfl
@[go_sem] theorem tagg_97 : tagg Tryz.prog 97 = .some false := by kernel_rfl
@[go_sem] theorem tz1_97 : tz1 Tryz.prog 97 = .some (.int .i8 0) := by kernel_rfl
@[go_sem] theorem tk_98 : tk Tryz.prog 98 = .other := by kernel_rfl
@[go_sem] theorem tsz_98 : tsz Tryz.prog 98 = .some 1 := by kernel_rfl
@[go_sem] theorem tby_98 : tby Tryz.prog 98 = .some 8 := by kernel_rfl
@[go_sem] theorem tz_98 : tz Tryz.prog 98 = .some [(.v .nilFunc)] := by kernel_rfl
@[go_sem] theorem tagg_98 : tagg Tryz.prog 98 = .some false := by kernel_rfl
@[go_sem] theorem tk_99 : tk Tryz.prog 99 = .other := by kernel_rfl
@[go_sem] theorem tsz_99 : tsz Tryz.prog 99 = .some 1 := by kernel_rfl
@[go_sem] theorem tby_99 : tby Tryz.prog 99 = .some 8 := by kernel_rfl
@[go_sem] theorem tz_99 : tz Tryz.prog 99 = .some [(.v .nilFunc)] := by kernel_rfl
@[go_sem] theorem tagg_99 : tagg Tryz.prog 99 = .some false := by kernel_rfl
@[go_sem] theorem tk_100 : tk Tryz.prog 100 = .other := by kernel_rfl
@[go_sem] theorem tsz_100 : tsz Tryz.prog 100 = .some 1 := by kernel_rfl
@[go_sem] theorem tby_100 : tby Tryz.prog 100 = .some 8 := by kernel_rfl
@[go_sem] theorem tz_100 : tz Tryz.prog 100 = .some [(.v .nilFunc)] := by kernel_rfl
@[go_sem] theorem tagg_100 : tagg Tryz.prog 100 = .some false := by kernel_rfl
@[go_sem] theorem tk_101 : tk Tryz.prog 101 = .arr 3 48 := by kernel_rfl
@[go_sem] theorem tsz_101 : tsz Tryz.prog 101 = .some 3 := by kernel_rfl
@[go_sem] theorem tby_101 : tby Tryz.prog 101 = .some 72 := by kernel_rfl
@[go_sem] theorem tz_101 : tz Tryz.prog 101 = .some [(.v (.slice .none 0 0)), (.v (.slice .none 0 0)), (.v (.slice .none 0 0))] := by kernel_rfl
@[go_sem] theorem tagg_101 : tagg Tryz.prog 101 = .some true := by kernel_rfl
@[go_sem] theorem tk_102 : tk Tryz.prog 102 = .other := by kernel_rfl
@[go_sem] theorem tsz_102 : tsz Tryz.prog 102 = .some 1 := by kernel_rfl
@[go_sem] theorem tby_102 : tby Tryz.prog 102 = .some 8 := by kernel_rfl
@[go_sem] theorem tz_102 : tz Tryz.prog 102 = .some [(.v .nilFunc)] := by kernel_rfl
@[go_sem] theorem tagg_102 : tagg Tryz.prog 102 = .some false := by kernel_rfl
@[go_sem] theorem tk_103 : tk Tryz.prog 103 = .other := by kernel_rfl
@[go_sem] theorem tsz_103 : tsz Tryz.prog 103 = .some 1 := by kernel_rfl
@[go_sem] theorem tby_103 : tby Tryz.prog 103 = .some 8 := by kernel_rfl
@[go_sem] theorem tz_103 : tz Tryz.prog 103 = .some [(.v .nilFunc)] := by kernel_rfl
@[go_sem] theorem tagg_103 : tagg Tryz.prog 103 = .some false := by kernel_rfl
@[go_sem] theorem tk_104 : tk Tryz.prog 104 = .other := by kernel_rfl
@[go_sem] theorem tsz_104 : tsz Tryz.prog 104 = .some 1 := by kernel_rfl
@[go_sem] theorem tby_104 : tby Tryz.prog 104 = .some 8 := by kernel_rfl
@[go_sem] theorem tz_104 : tz Tryz.prog 104 = .some [(.v .nilFunc)] := by kernel_rfl
@[go_sem] theorem tagg_104 : tagg Tryz.prog 104 = .some false := by kernel_rfl
@[go_sem] theorem tk_105 : tk Tryz.prog 105 = .other := by kernel_rfl
@[go_sem] theorem tsz_105 : tsz Tryz.prog 105 = .some 1 := by kernel_rfl
@[go_sem] theorem tby_105 : tby Tryz.prog 105 = .some 8 := by kernel_rfl
@[go_sem] theorem tz_105 : tz Tryz.prog 105 = .some [(.v .nilFunc)] := by kernel_rfl
@[go_sem] theorem tagg_105 : tagg Tryz.prog 105 = .some false := by kernel_rfl
@[go_sem] theorem tk_106 : tk Tryz.prog 106 = .other := by kernel_rfl
@[go_sem] theorem tsz_106 : tsz Tryz.prog 106 = .some 1 := by kernel_rfl
@[go_sem] theorem tby_106 : tby Tryz.prog 106 = .some 8 := by kernel_rfl
@[go_sem] theorem tz_106 : tz Tryz.prog 106 = .some [(.v .nilFunc)] := by kernel_rfl
@[go_sem] theorem tagg_106 : tagg Tryz.prog 106 = .some false := by kernel_rfl
@[go_sem] theorem tk_107 : tk Tryz.prog 107 = .other := by kernel_rfl
@[go_sem] theorem tsz_107 : tsz Tryz.prog 107 = .some 1 := by kernel_rfl
@[go_sem] theorem tby_107 : tby Tryz.prog 107 = .some 8 := by kernel_rfl
@[go_sem] theorem tz_107 : tz Tryz.prog 107 = .some [(.v .nilFunc)] := by kernel_rfl
@[go_sem] theorem tagg_107 : tagg Tryz.prog 107 = .some false := by kernel_rfl
@[go_sem] theorem tk_108 : tk Tryz.prog 108 = .other := by kernel_rfl
@[go_sem] theorem tsz_108 : tsz Tryz.prog 108 = .some 1 := by kernel_rfl
@[go_sem] theorem tby_108 : tby Tryz.prog 108 = .some 8 := by kernel_rfl
@[go_sem] theorem tz_108 : tz Tryz.prog 108 = .some [(.v .nilFunc)] := by kernel_rfl
@[go_sem] theorem tagg_108 : tagg Tryz.prog 108 = .some false := by kernel_rfl
@[go_sem] theorem tk_109 : tk Tryz.prog 109 = .other := by kernel_rfl
@[go_sem] theorem tsz_109 : tsz Tryz.prog 109 = .some 1 := by kernel_rfl
@[go_sem] theorem tby_109 : tby Tryz.prog 109 = .some 0 := by kernel_rfl
@[go_sem] theorem tagg_109 : tagg Tryz.prog 109 = .some false := by kernel_rfl
@[go_sem] theorem tk_110 : tk Tryz.prog 110 = .other := by kernel_rfl
@[go_sem] theorem tsz_110 : tsz Tryz.prog 110 = .some 1 := by kernel_rfl
@[go_sem] theorem tby_110 : tby Tryz.prog 110 = .some 8 := by kernel_rfl
@[go_sem] theorem tz_110 : tz Tryz.prog 110 = .some [(.v .nilFunc)] := by kernel_rfl
@[go_sem] theorem tagg_110 : tagg Tryz.prog 110 = .some false := by kernel_rfl
@[go_sem] theorem tk_111 : tk Tryz.prog 111 = .other := by kernel_rfl
@[go_sem] theorem tsz_111 : tsz Tryz.prog 111 = .some 1 := by kernel_rfl
@[go_sem] theorem tby_111 : tby Tryz.prog 111 = .some 8 := by kernel_rfl
@[go_sem] theorem tz_111 : tz Tryz.prog 111 = .some [(.v .nilFunc)] := by kernel_rfl
@[go_sem] theorem tagg_111 : tagg Tryz.prog 111 = .some false := by kernel_rfl
@[go_sem] theorem tk_112 : tk Tryz.prog 112 = .other := by kernel_rfl
@[go_sem] theorem tsz_112 : tsz Tryz.prog 112 = .some 1 := by kernel_rfl
@[go_sem] theorem tby_112 : tby Tryz.prog 112 = .some 8 := by kernel_rfl
@[go_sem] theorem tz_112 : tz Tryz.prog 112 = .some [(.v .nilFunc)] := by kernel_rfl
@[go_sem] theorem tagg_112 : tagg Tryz.prog 112 = .some false := by kernel_rfl
@[go_sem] theorem tk_113 : tk Tryz.prog 113 = .other := by kernel_rfl
@[go_sem] theorem tsz_113 : tsz Tryz.prog 113 = .some 1 := by kernel_rfl
@[go_sem] theorem tby_113 : tby Tryz.prog 113 = .some 8 := by kernel_rfl
@[go_sem] theorem tz_113 : tz Tryz.prog 113 = .some [(.v .nilFunc)] := by kernel_rfl
@[go_sem] theorem tagg_113 : tagg Tryz.prog 113 = .some false := by kernel_rfl
@[go_sem] theorem tk_114 : tk Tryz.prog 114 = .other := by kernel_rfl
@[go_sem] theorem tsz_114 : tsz Tryz.prog 114 = .some 1 := by kernel_rfl
@[go_sem] theorem tby_114 : tby Tryz.prog 114 = .some 8 := by kernel_rfl
@[go_sem] theorem tz_114 : tz Tryz.prog 114 = .some [(.v .nilFunc)] := by kernel_rfl
@[go_sem] theorem tagg_114 : tagg Tryz.prog 114 = .some false := by kernel_rfl
@[go_sem] theorem tk_115 : tk Tryz.prog 115 = .other := by kernel_rfl
@[go_sem] theorem tsz_115 : tsz Tryz.prog 115 = .some 1 := by kernel_rfl
@[go_sem] theorem tby_115 : tby Tryz.prog 115 = .some 8 := by kernel_rfl
@[go_sem] theorem tz_115 : tz Tryz.prog 115 = .some [(.v .nilFunc)] := by kernel_rfl
@[go_sem] theorem tagg_115 : tagg Tryz.prog 115 = .some false := by kernel_rfl
@[go_sem] theorem tk_116 : tk Tryz.prog 116 = .str := by kernel_rfl
@[go_sem] theorem tsz_116 : tsz Tryz.prog 116 = .some 2 := by kernel_rfl
@[go_sem] theorem tby_116 : tby Tryz.prog 116 = .some 16 := by kernel_rfl
@[go_sem] theorem tz_116 : tz Tryz.prog 116 = .some [(.v (.int .i64 0)), (.v (.int .i64 0))] := by kernel_rfl
@[go_sem] theorem tagg_116 : tagg Tryz.prog 116 = .some true := by kernel_rfl
@[go_sem] theorem tfi_116 : tfi Tryz.prog 116 = true := by kernel_rfl
@[go_sem] theorem tflat_116 : tflat Tryz.prog 116 = .some [false, false] := by kernel_rfl
@[go_sem] theorem ftyp_116_0 : ftyp Tryz.prog 116 0 = .some 3 := by kernel_rfl
@[go_sem] theorem foff_116_0 : foff Tryz.prog 116 0 = .some 0 := by kernel_rfl
@[go_sem] theorem ftyp_116_1 : ftyp Tryz.prog 116 1 = .some 3 := by kernel_rfl
@[go_sem] theorem foff_116_1 : foff Tryz.prog 116 1 = .some 1 := by kernel_rfl
@[go_sem] theorem tk_117 : tk Tryz.prog 117 = .str := by kernel_rfl
@[go_sem] theorem tsz_117 : tsz Tryz.prog 117 = .some 2 := by kernel_rfl
@[go_sem] theorem tby_117 : tby Tryz.prog 117 = .some 16 := by kernel_rfl
@[go_sem] theorem tz_117 : tz Tryz.prog 117 = .some [(.v (.int .i64 0)), (.v (.int .i64 0))] := by kernel_rfl
@[go_sem] theorem tagg_117 : tagg Tryz.prog 117 = .some true := by kernel_rfl
@[go_sem] theorem tfi_117 : tfi Tryz.prog 117 = true := by kernel_rfl
@[go_sem] theorem tflat_117 : tflat Tryz.prog 117 = .some [false, false] := by kernel_rfl
@[go_sem] theorem ftyp_117_0 : ftyp Tryz.prog 117 0 = .some 3 := by kernel_rfl
@[go_sem] theorem foff_117_0 : foff Tryz.prog 117 0 = .some 0 := by kernel_rfl
@[go_sem] theorem ftyp_117_1 : ftyp Tryz.prog 117 1 = .some 3 := by kernel_rfl
@[go_sem] theorem foff_117_1 : foff Tryz.prog 117 1 = .some 1 := by kernel_rfl
@[go_sem] theorem tk_118 : tk Tryz.prog 118 = .other := by kernel_rfl
@[go_sem] theorem tsz_118 : tsz Tryz.prog 118 = .some 1 := by kernel_rfl
@[go_sem] theorem tby_118 : tby Tryz.prog 118 = .some 8 := by kernel_rfl
@[go_sem] theorem tz_118 : tz Tryz.prog 118 = .some [(.v .nilFunc)] := by kernel_rfl
@[go_sem] theorem tagg_118 : tagg Tryz.prog 118 = .some false := by kernel_rfl
@[go_sem] theorem tk_119 : tk Tryz.prog 119 = .other := by kernel_rfl
@[go_sem] theorem tsz_119 : tsz Tryz.prog 119 = .some 1 := by kernel_rfl
@[go_sem] theorem tby_119 : tby Tryz.prog 119 = .some 0 := by kernel_rfl
@[go_sem] theorem tagg_119 : tagg Tryz.prog 119 = .some false := by kernel_rfl
@[go_sem] theorem tk_120 : tk Tryz.prog 120 = .other := by kernel_rfl
@[go_sem] theorem tsz_120 : tsz Tryz.prog 120 = .some 1 := by kernel_rfl
@[go_sem] theorem tby_120 : tby Tryz.prog 120 = .some 8 := by kernel_rfl
@[go_sem] theorem tz_120 : tz Tryz.prog 120 = .some [(.v .nilFunc)] := by kernel_rfl
@[go_sem] theorem tagg_120 : tagg Tryz.prog 120 = .some false := by kernel_rfl
@[go_sem] theorem tk_121 : tk Tryz.prog 121 = .str := by kernel_rfl
@[go_sem] theorem tsz_121 : tsz Tryz.prog 121 = .some 8 := by kernel_rfl
@[go_sem] theorem tby_121 : tby Tryz.prog 121 = .some 112 := by kernel_rfl
@[go_sem] theorem tz_121 : tz Tryz.prog 121 = .some [(.v (.slice .none 0 0)), (.v (.slice .none 0 0)), (.v (.slice .none 0 0)), (.v (.int .i64 0)), (.v (.int .i64 0)), (.v (.int .i64 0)), (.v (.int .i64 0)), (.v (.bool false))] := by kernel_rfl
@[go_sem] theorem tagg_121 : tagg Tryz.prog 121 = .some true := by kernel_rfl
@[go_sem] theorem tfi_121 : tfi Tryz.prog 121 = true := by kernel_rfl
@[go_sem] theorem ftyp_121_0 : ftyp Tryz.prog 121 0 = .some 44 := by kernel_rfl
@[go_sem] theorem foff_121_0 : foff Tryz.prog 121 0 = .some 0 := by kernel_rfl
@[go_sem] theorem ftyp_121_1 : ftyp Tryz.prog 121 1 = .some 3 := by kernel_rfl
@[go_sem] theorem foff_121_1 : foff Tryz.prog 121 1 = .some 5 := by kernel_rfl
@[go_sem] theorem ftyp_121_2 : ftyp Tryz.prog 121 2 = .some 3 := by kernel_rfl
@[go_sem] theorem foff_121_2 : foff Tryz.prog 121 2 = .some 6 := by kernel_rfl
@[go_sem] theorem ftyp_121_3 : ftyp Tryz.prog 121 3 = .some 4 := by kernel_rfl
@[go_sem] theorem foff_121_3 : foff Tryz.prog 121 3 = .some 7 := by kernel_rfl
@[go_sem] theorem tk_122 : tk Tryz.prog 122 = .str := by kernel_rfl
@[go_sem] theorem tsz_122 : tsz Tryz.prog 122 = .some 8 := by kernel_rfl
@[go_sem] theorem tby_122 : tby Tryz.prog 122 = .some 112 := by kernel_rfl
@[go_sem] theorem tz_122 : tz Tryz.prog 122 = .some [(.v (.slice .none 0 0)), (.v (.slice .none 0 0)), (.v (.slice .none 0 0)), (.v (.int .i64 0)), (.v (.int .i64 0)), (.v (.int .i64 0)), (.v (.int .i64 0)), (.v (.bool false))] := by kernel_rfl
@[go_sem] theorem tagg_122 : tagg Tryz.prog 122 = .some true := by kernel_rfl
@[go_sem] theorem tfi_122 : tfi Tryz.prog 122 = true := by kernel_rfl
@[go_sem] theorem ftyp_122_0 : ftyp Tryz.prog 122 0 = .some 44 := by kernel_rfl
@[go_sem] theorem foff_122_0 : foff Tryz.prog 122 0 = .some 0 := by kernel_rfl
@[go_sem] theorem ftyp_122_1 : ftyp Tryz.prog 122 1 = .some 3 := by kernel_rfl
@[go_sem] theorem foff_122_1 : foff Tryz.prog 122 1 = .some 5 := by kernel_rfl
@[go_sem] theorem ftyp_122_2 : ftyp Tryz.prog 122 2 = .some 3 := by kernel_rfl
@[go_sem] theorem foff_122_2 : foff Tryz.prog 122 2 = .some 6 := by kernel_rfl
@[go_sem] theorem ftyp_122_3 : ftyp Tryz.prog 122 3 = .some 4 := by kernel_rfl
@[go_sem] theorem foff_122_3 : foff Tryz.prog 122 3 = .some 7 := by kernel_rfl
@[go_sem] theorem tk_123 : tk Tryz.prog 123 = .other := by kernel_rfl
@[go_sem] theorem tsz_123 : tsz Tryz.prog 123 = .some 1 := by kernel_rfl
@[go_sem] theorem tby_123 : tby Tryz.prog 123 = .some 8 := by kernel_rfl
@[go_sem] theorem tz_123 : tz Tryz.prog 123 = .some [(.v .nilFunc)] := by kernel_rfl
@[go_sem] theorem tagg_123 : tagg Tryz.prog 123 = .some false := by kernel_rfl
@[go_sem] theorem tk_124 : tk Tryz.prog 124 = .other := by kernel_rfl
@[go_sem] theorem tsz_124 : tsz Tryz.prog 124 = .some 1 := by kernel_rfl
@[go_sem] theorem tby_124 : tby Tryz.prog 124 = .some 8 := by kernel_rfl
@[go_sem] theorem tz_124 : tz Tryz.prog 124 = .some [(.v .nilFunc)] := by kernel_rfl
@[go_sem] theorem tagg_124 : tagg Tryz.prog 124 = .some false := by kernel_rfl
@[go_sem] theorem tk_125 : tk Tryz.prog 125 = .other := by kernel_rfl
@[go_sem] theorem tsz_125 : tsz Tryz.prog 125 = .some 1 := by kernel_rfl
@[go_sem] theorem tby_125 : tby Tryz.prog 125 = .some 8 := by kernel_rfl
@[go_sem] theorem tz_125 : tz Tryz.prog 125 = .some [(.v .nilFunc)] := by kernel_rfl
@[go_sem] theorem tagg_125 : tagg Tryz.prog 125 = .some false := by kernel_rfl
@[go_sem] theorem tk_126 : tk Tryz.prog 126 = .other := by kernel_rfl
@[go_sem] theorem tsz_126 : tsz Tryz.prog 126 = .some 1 := by kernel_rfl
@[go_sem] theorem tby_126 : tby Tryz.prog 126 = .some 8 := by kernel_rfl
@[go_sem] theorem tz_126 : tz Tryz.prog 126 = .some [(.v .nilFunc)] := by kernel_rfl
@[go_sem] theorem tagg_126 : tagg Tryz.prog 126 = .some false := by kernel_rfl
@[go_sem] theorem tk_127 : tk Tryz.prog 127 = .str := by kernel_rfl
@[go_sem] theorem tsz_127 : tsz Tryz.prog 127 = .some 9 := by kernel_rfl
@[go_sem] theorem tby_127 : tby Tryz.prog 127 = .some 136 := by kernel_rfl
@[go_sem] theorem tz_127 : tz Tryz.prog 127 = .some [(.v (.int .i64 0)), (.v (.slice .none 0 0)), (.v (.slice .none 0 0)), (.v (.slice .none 0 0)), (.v (.int .i64 0)), (.v (.bool false)), (.v (.slice .none 0 0)), (.v (.int .i64 0)), (.v (.int .i64 0))] := by kernel_rfl
@[go_sem] theorem tagg_127 : tagg Tryz.prog 127 = .some true := by kernel_rfl
@[go_sem] theorem tfi_127 : tfi Tryz.prog 127 = true := by kernel_rfl
@[go_sem] theorem ftyp_127_0 : ftyp Tryz.prog 127 0 = .some 41 := by kernel_rfl
@[go_sem] theorem foff_127_0 : foff Tryz.prog 127 0 = .some 0 := by kernel_rfl
@[go_sem] theorem tk_128 : tk Tryz.prog 128 = .str := by kernel_rfl
@[go_sem] theorem tsz_128 : tsz Tryz.prog 128 = .some 9 := by kernel_rfl
@[go_sem] theorem tby_128 : tby Tryz.prog 128 = .some 136 := by kernel_rfl
@[go_sem] theorem tz_128 : tz Tryz.prog 128 = .some [(.v (.int .i64 0)), (.v (.slice .none 0 0)), (.v (.slice .none 0 0)), (.v (.slice .none 0 0)), (.v (.int .i64 0)), (.v (.bool false)), (.v (.slice .none 0 0)), (.v (.int .i64 0)), (.v (.int .i64 0))] := by kernel_rfl
@[go_sem] theorem tagg_128 : tagg Tryz.prog 128 = .some true := by kernel_rfl
@[go_sem] theorem tfi_128 : tfi Tryz.prog 128 = true := by kernel_rfl
@[go_sem] theorem ftyp_128_0 : ftyp Tryz.prog 128 0 = .some 41 := by kernel_rfl
@[go_sem] theorem foff_128_0 : foff Tryz.prog 128 0 = .some 0 := by kernel_rfl
@[go_sem] theorem tk_129 : tk Tryz.prog 129 = .other := by kernel_rfl
@[go_sem] theorem tsz_129 : tsz Tryz.prog 129 = .some 1 := by kernel_rfl
@[go_sem] theorem tby_129 : tby Tryz.prog 129 = .some 8 := by kernel_rfl
@[go_sem] theorem tz_129 : tz Tryz.prog 129 = .some [(.v .nilFunc)] := by kernel_rfl
@[go_sem] theorem tagg_129 : tagg Tryz.prog 129 = .some false := by kernel_rfl
@[go_sem] theorem tk_130 : tk Tryz.prog 130 = .other := by kernel_rfl
@[go_sem] theorem tsz_130 : tsz Tryz.prog 130 = .some 1 := by kernel_rfl
@[go_sem] theorem tby_130 : tby Tryz.prog 130 = .some 8 := by kernel_rfl
@[go_sem] theorem tz_130 : tz Tryz.prog 130 = .some [(.v .nilFunc)] := by kernel_rfl
@[go_sem] theorem tagg_130 : tagg Tryz.prog 130 = .some false := by kernel_rfl
@[go_sem] theorem tk_131 : tk Tryz.prog 131 = .other := by kernel_rfl
@[go_sem] theorem tsz_131 : tsz Tryz.prog 131 = .some 1 := by kernel_rfl
@[go_sem] theorem tby_131 : tby Tryz.prog 131 = .some 8 := by kernel_rfl
@[go_sem] theorem tz_131 : tz Tryz.prog 131 = .some [(.v .nilFunc)] := by kernel_rfl
@[go_sem] theorem tagg_131 : tagg Tryz.prog 131 = .some false := by kernel_rfl
@[go_sem] theorem tk_132 : tk Tryz.prog 132 = .other := by kernel_rfl
@[go_sem] theorem tsz_132 : tsz Tryz.prog 132 = .some 1 := by kernel_rfl
@[go_sem] theorem tby_132 : tby Tryz.prog 132 = .some 8 := by kernel_rfl
@[go_sem] theorem tz_132 : tz Tryz.prog 132 = .some [(.v .nilFunc)] := by kernel_rfl
@[go_sem] theorem tagg_132 : tagg Tryz.prog 132 = .some false := by kernel_rfl
@[go_sem] theorem tk_133 : tk Tryz.prog 133 = .other := by kernel_rfl
@[go_sem] theorem tsz_133 : tsz Tryz.prog 133 = .some 1 := by kernel_rfl
@[go_sem] theorem tby_133 : tby Tryz.prog 133 = .some 0 := by kernel_rfl
@[go_sem] theorem tagg_133 : tagg Tryz.prog 133 = .some false := by kernel_rfl
@[go_sem] theorem tk_134 : tk Tryz.prog 134 = .other := by kernel_rfl
@[go_sem] theorem tsz_134 : tsz Tryz.prog 134 = .some 1 := by kernel_rfl
@[go_sem] theorem tby_134 : tby Tryz.prog 134 = .some 8 := by kernel_rfl
@[go_sem] theorem tz_134 : tz Tryz.prog 134 = .some [(.v .nilFunc)] := by kernel_rfl
@[go_sem] theorem tagg_134 : tagg Tryz.prog 134 = .some false := by kernel_rfl
@[go_sem] theorem tk_135 : tk Tryz.prog 135 = .other := by kernel_rfl
@[go_sem] theorem tsz_135 : tsz Tryz.prog 135 = .some 1 := by kernel_rfl
@[go_sem] theorem tby_135 : tby Tryz.prog 135 = .some 8 := by kernel_rfl
@[go_sem] theorem tz_135 : tz Tryz.prog 135 = .some [(.v .nilFunc)] := by kernel_rfl
@[go_sem] theorem tagg_135 : tagg Tryz.prog 135 = .some false := by kernel_rfl
@[go_sem] theorem tk_136 : tk Tryz.prog 136 = .other := by kernel_rfl
@[go_sem] theorem tsz_136 : tsz Tryz.prog 136 = .some 1 := by kernel_rfl
@[go_sem] theorem tby_136 : tby Tryz.prog 136 = .some 8 := by kernel_rfl
@[go_sem] theorem tz_136 : tz Tryz.prog 136 = .some [(.v .nilFunc)] := by kernel_rfl
@[go_sem] theorem tagg_136 : tagg Tryz.prog 136 = .some false := by kernel_rfl
@[go_sem] theorem tk_137 : tk Tryz.prog 137 = .other := by kernel_rfl
@[go_sem] theorem tsz_137 : tsz Tryz.prog 137 = .some 1 := by kernel_rfl
@[go_sem] theorem tby_137 : tby Tryz.prog 137 = .some 0 := by kernel_rfl
@[go_sem] theorem tagg_137 : tagg Tryz.prog 137 = .some false := by kernel_rfl
@[go_sem] theorem tk_138 : tk Tryz.prog 138 = .other := by kernel_rfl
@[go_sem] theorem tsz_138 : tsz Tryz.prog 138 = .some 1 := by kernel_rfl
@[go_sem] theorem tby_138 : tby Tryz.prog 138 = .some 8 := by kernel_rfl
@[go_sem] theorem tz_138 : tz Tryz.prog 138 = .some [(.v .nilFunc)] := by kernel_rfl
@[go_sem] theorem tagg_138 : tagg Tryz.prog 138 = .some false := by kernel_rfl
@[go_sem] theorem tk_139 : tk Tryz.prog 139 = .other := by kernel_rfl
@[go_sem] theorem tsz_139 : tsz Tryz.prog 139 = .some 1 := by kernel_rfl
@[go_sem] theorem tby_139 : tby Tryz.prog 139 = .some 8 := by kernel_rfl
@[go_sem] theorem tz_139 : tz Tryz.prog 139 = .some [(.v .nilFunc)] := by kernel_rfl
@[go_sem] theorem tagg_139 : tagg Tryz.prog 139 = .some false := by kernel_rfl
@[go_sem] theorem tk_140 : tk Tryz.prog 140 = .other := by kernel_rfl
@[go_sem] theorem tsz_140 : tsz Tryz.prog 140 = .some 1 := by kernel_rfl
@[go_sem] theorem tby_140 : tby Tryz.prog 140 = .some 8 := by kernel_rfl
@[go_sem] theorem tz_140 : tz Tryz.prog 140 = .some [(.v .nilFunc)] := by kernel_rfl
@[go_sem] theorem tagg_140 : tagg Tryz.prog 140 = .some false := by kernel_rfl
@[go_sem] theorem tk_141 : tk Tryz.prog 141 = .sl 9 := by kernel_rfl
@[go_sem] theorem tsz_141 : tsz Tryz.prog 141 = .some 1 := by kernel_rfl
@[go_sem] theorem tby_141 : tby Tryz.prog 141 = .some 24 := by kernel_rfl
@[go_sem] theorem tz_141 : tz Tryz.prog 141 = .some [(.v (.slice .none 0 0))] := by kernel_rfl
@[go_sem] theorem tagg_141 : tagg Tryz.prog 141 = .some false := by kernel_rfl
@[go_sem] theorem tk_142 : tk Tryz.prog 142 = .other := by kernel_rfl
@[go_sem] theorem tsz_142 : tsz Tryz.prog 142 = .some 1 := by kernel_rfl
@[go_sem] theorem tby_142 : tby Tryz.prog 142 = .some 8 := by kernel_rfl
@[go_sem] theorem tz_142 : tz Tryz.prog 142 = .some [(.v .nilFunc)] := by kernel_rfl
@[go_sem] theorem tagg_142 : tagg Tryz.prog 142 = .some false := by kernel_rfl
@[go_sem] theorem tk_143 : tk Tryz.prog 143 = .other := by kernel_rfl
@[go_sem] theorem tsz_143 : tsz Tryz.prog 143 = .some 1 := by kernel_rfl
@[go_sem] theorem tby_143 : tby Tryz.prog 143 = .some 8 := by kernel_rfl
@[go_sem] theorem tz_143 : tz Tryz.prog 143 = .some [(.v .nilFunc)] := by kernel_rfl
@[go_sem] theorem tagg_143 : tagg Tryz.prog 143 = .some false := by kernel_rfl
@[go_sem] theorem tk_144 : tk Tryz.prog 144 = .other := by kernel_rfl
@[go_sem] theorem tsz_144 : tsz Tryz.prog 144 = .some 1 := by kernel_rfl
@[go_sem] theorem tby_144 : tby Tryz.prog 144 = .some 8 := by kernel_rfl
@[go_sem] theorem tz_144 : tz Tryz.prog 144 = .some [(.v .nilFunc)] := by kernel_rfl
@[go_sem] theorem tagg_144 : tagg Tryz.prog 144 = .some false := by kernel_rfl
@[go_sem] theorem tk_145 : tk Tryz.prog 145 = .other := by kernel_rfl
@[go_sem] theorem tsz_145 : tsz Tryz.prog 145 = .some 1 := by kernel_rfl
@[go_sem] theorem tby_145 : tby Tryz.prog 145 = .some 8 := by kernel_rfl
@[go_sem] theorem tz_145 : tz Tryz.prog 145 = .some [(.v .nilFunc)] := by kernel_rfl
@[go_sem] theorem tagg_145 : tagg Tryz.prog 145 = .some false := by kernel_rfl
@[go_sem] theorem tk_146 : tk Tryz.prog 146 = .arr 4 145 := by kernel_rfl
@[go_sem] theorem tsz_146 : tsz Tryz.prog 146 = .some 4 := by kernel_rfl
@[go_sem] theorem tby_146 : tby Tryz.prog 146 = .some 32 := by kernel_rfl
@[go_sem] theorem tz_146 : tz Tryz.prog 146 = .some [(.v .nilFunc), (.v .nilFunc), (.v .nilFunc), (.v .nilFunc)] := by kernel_rfl
@[go_sem] theorem tagg_146 : tagg Tryz.prog 146 = .some true := by kernel_rfl
@[go_sem] theorem tk_147 : tk Tryz.prog 147 = .other := by kernel_rfl
@[go_sem] theorem tsz_147 : tsz Tryz.prog 147 = .some 1 := by kernel_rfl
@[go_sem] theorem tby_147 : tby Tryz.prog 147 = .some 8 := by kernel_rfl
@[go_sem] theorem tz_147 : tz Tryz.prog 147 = .some [(.v .nilFunc)] := by kernel_rfl
@[go_sem] theorem tagg_147 : tagg Tryz.prog 147 = .some false := by kernel_rfl
@[go_sem] theorem tk_148 : tk Tryz.prog 148 = .other := by kernel_rfl
@[go_sem] theorem tsz_148 : tsz Tryz.prog 148 = .some 1 := by kernel_rfl
@[go_sem] theorem tby_148 : tby Tryz.prog 148 = .some 0 := by kernel_rfl
@[go_sem] theorem tagg_148 : tagg Tryz.prog 148 = .some false := by kernel_rfl
@[go_sem] theorem tk_149 : tk Tryz.prog 149 = .other := by kernel_rfl
@[go_sem] theorem tsz_149 : tsz Tryz.prog 149 = .some 1 := by kernel_rfl
@[go_sem] theorem tby_149 : tby Tryz.prog 149 = .some 8 := by kernel_rfl
@[go_sem] theorem tz_149 : tz Tryz.prog 149 = .some [(.v .nilFunc)] := by kernel_rfl
@[go_sem] theorem tagg_149 : tagg Tryz.prog 149 = .some false := by kernel_rfl
@[go_sem] theorem tk_150 : tk Tryz.prog 150 = .other := by kernel_rfl
@[go_sem] theorem tsz_150 : tsz Tryz.prog 150 = .some 1 := by kernel_rfl
@[go_sem] theorem tby_150 : tby Tryz.prog 150 = .some 8 := by kernel_rfl
@[go_sem] theorem tz_150 : tz Tryz.prog 150 = .some [(.v .nilFunc)] := by kernel_rfl
@[go_sem] theorem tagg_150 : tagg Tryz.prog 150 = .some false := by kernel_rfl
@[go_sem] theorem tk_151 : tk Tryz.prog 151 = .other := by kernel_rfl
@[go_sem] theorem tsz_151 : tsz Tryz.prog 151 = .some 1 := by kernel_rfl
@[go_sem] theorem tby_151 : tby Tryz.prog 151 = .some 8 := by kernel_rfl
@[go_sem] theorem tz_151 : tz Tryz.prog 151 = .some [(.v .nilFunc)] := by kernel_rfl
@[go_sem] theorem tagg_151 : tagg Tryz.prog 151 = .some false := by kernel_rfl
@[go_sem] theorem tk_152 : tk Tryz.prog 152 = .other := by kernel_rfl
@[go_sem] theorem tsz_152 : tsz Tryz.prog 152 = .some 1 := by kernel_rfl
@[go_sem] theorem tby_152 : tby Tryz.prog 152 = .some 8 := by kernel_rfl
@[go_sem] theorem tz_152 : tz Tryz.prog 152 = .some [(.v .nilFunc)] := by kernel_rfl
@[go_sem] theorem tagg_152 : tagg Tryz.prog 152 = .some false := by kernel_rfl
@[go_sem] theorem tk_153 : tk Tryz.prog 153 = .other := by kernel_rfl
@[go_sem] theorem tsz_153 : tsz Tryz.prog 153 = .some 1 := by kernel_rfl
@[go_sem] theorem tby_153 : tby Tryz.prog 153 = .some 8 := by kernel_rfl
@[go_sem] theorem tz_153 : tz Tryz.prog 153 = .some [(.v .nilFunc)] := by kernel_rfl
@[go_sem] theorem tagg_153 : tagg Tryz.prog 153 = .some false := by kernel_rfl
@[go_sem] theorem tk_154 : tk Tryz.prog 154 = .other := by kernel_rfl
@[go_sem] theorem tsz_154 : tsz Tryz.prog 154 = .some 1 := by kernel_rfl
@[go_sem] theorem tby_154 : tby Tryz.prog 154 = .some 8 := by kernel_rfl
@[go_sem] theorem tz_154 : tz Tryz.prog 154 = .some [(.v .nilFunc)] := by kernel_rfl
@[go_sem] theorem tagg_154 : tagg Tryz.prog 154 = .some false := by kernel_rfl
@[go_sem] theorem tk_155 : tk Tryz.prog 155 = .other := by kernel_rfl
@[go_sem] theorem tsz_155 : tsz Tryz.prog 155 = .some 1 := by kernel_rfl
@[go_sem] theorem tby_155 : tby Tryz.prog 155 = .some 8 := by kernel_rfl
@[go_sem] theorem tz_155 : tz Tryz.prog 155 = .some [(.v .nilFunc)] := by kernel_rfl
@[go_sem] theorem tagg_155 : tagg Tryz.prog 155 = .some false := by kernel_rfl
@[go_sem] theorem tk_156 : tk Tryz.prog 156 = .other := by kernel_rfl
@[go_sem] theorem tsz_156 : tsz Tryz.prog 156 = .some 1 := by kernel_rfl
@[go_sem] theorem tby_156 : tby Tryz.prog 156 = .some 8 := by kernel_rfl
@[go_sem] theorem tz_156 : tz Tryz.prog 156 = .some [(.v .nilFunc)] := by kernel_rfl
@[go_sem] theorem tagg_156 : tagg Tryz.prog 156 = .some false := by kernel_rfl
@[go_sem] theorem tk_157 : tk Tryz.prog 157 = .other := by kernel_rfl
@[go_sem] theorem tsz_157 : tsz Tryz.prog 157 = .some 1 := by kernel_rfl
@[go_sem] theorem tby_157 : tby Tryz.prog 157 = .some 8 := by kernel_rfl
@[go_sem] theorem tz_157 : tz Tryz.prog 157 = .some [(.v .nilFunc)] := by kernel_rfl
@[go_sem] theorem tagg_157 : tagg Tryz.prog 157 = .some false := by kernel_rfl
@[go_sem] theorem tk_158 : tk Tryz.prog 158 = .other := by kernel_rfl
@[go_sem] theorem tsz_158 : tsz Tryz.prog 158 = .some 1 := by kernel_rfl
@[go_sem] theorem tby_158 : tby Tryz.prog 158 = .some 8 := by kernel_rfl
@[go_sem] theorem tz_158 : tz Tryz.prog 158 = .some [(.v .nilFunc)] := by kernel_rfl
@[go_sem] theorem tagg_158 : tagg Tryz.prog 158 = .some false := by kernel_rfl
@[go_sem] theorem tk_159 : tk Tryz.prog 159 = .other := by kernel_rfl
@[go_sem] theorem tsz_159 : tsz Tryz.prog 159 = .some 1 := by kernel_rfl
@[go_sem] theorem tby_159 : tby Tryz.prog 159 = .some 8 := by kernel_rfl
@[go_sem] theorem tz_159 : tz Tryz.prog 159 = .some [(.v .nilFunc)] := by kernel_rfl
@[go_sem] theorem tagg_159 : tagg Tryz.prog 159 = .some false := by kernel_rfl
@[go_sem] theorem tk_160 : tk Tryz.prog 160 = .other := by kernel_rfl
@[go_sem] theorem tsz_160 : tsz Tryz.prog 160 = .some 1 := by kernel_rfl
@[go_sem] theorem tby_160 : tby Tryz.prog 160 = .some 8 := by kernel_rfl
@[go_sem] theorem tz_160 : tz Tryz.prog 160 = .some [(.v .nilFunc)] := by kernel_rfl
@[go_sem] theorem tagg_160 : tagg Tryz.prog 160 = .some false := by kernel_rfl
@[go_sem] theorem tk_161 : tk Tryz.prog 161 = .int .u64 := by kernel_rfl
@[go_sem] theorem tsz_161 : tsz Tryz.prog 161 = .some 1 := by kernel_rfl
@[go_sem] theorem tby_161 : tby Tryz.prog 161 = .some 8 := by kernel_rfl
@[go_sem] theorem tz_161 : tz Tryz.prog 161 = .some [(.v (.int .u64 0))] := by kernel_rfl
@[go_sem] theorem tagg_161 : tagg Tryz.prog 161 = .some false := by kernel_rfl
@[go_sem] theorem tz1_161 : tz1 Tryz.prog 161 = .some (.int .u64 0) := by kernel_rfl
@[go_sem] theorem tk_162 : tk Tryz.prog 162 = .other := by kernel_rfl
@[go_sem] theorem tsz_162 : tsz Tryz.prog 162 = .some 1 := by kernel_rfl
@[go_sem] theorem tby_162 : tby Tryz.prog 162 = .some 8 := by kernel_rfl
@[go_sem] theorem tz_162 : tz Tryz.prog 162 = .some [(.v .nilFunc)] := by kernel_rfl
@[go_sem] theorem tagg_162 : tagg Tryz.prog 162 = .some false := by kernel_rfl
@[go_sem] theorem tk_163 : tk Tryz.prog 163 = .other := by kernel_rfl
@[go_sem] theorem tsz_163 : tsz Tryz.prog 163 = .some 1 := by kernel_rfl
@[go_sem] theorem tby_163 : tby Tryz.prog 163 = .some 8 := by kernel_rfl
@[go_sem] theorem tz_163 : tz Tryz.prog 163 = .some [(.v .nilFunc)] := by kernel_rfl
@[go_sem] theorem tagg_163 : tagg Tryz.prog 163 = .some false := by kernel_rfl
@[go_sem] theorem tk_164 : tk Tryz.prog 164 = .other := by kernel_rfl
@[go_sem] theorem tsz_164 : tsz Tryz.prog 164 = .some 1 := by kernel_rfl
@[go_sem] theorem tby_164 : tby Tryz.prog 164 = .some 8 := by kernel_rfl
@[go_sem] theorem tz_164 : tz Tryz.prog 164 = .some [(.v .nilFunc)] := by kernel_rfl
@[go_sem] theorem tagg_164 : tagg Tryz.prog 164 = .some false := by kernel_rfl
@[go_sem] theorem tk_165 : tk Tryz.prog 165 = .other := by kernel_rfl
@[go_sem] theorem tsz_165 : tsz Tryz.prog 165 = .some 1 := by kernel_rfl
@[go_sem] theorem tby_165 : tby Tryz.prog 165 = .some 8 := by kernel_rfl
@[go_sem] theorem tz_165 : tz Tryz.prog 165 = .some [(.v .nilFunc)] := by kernel_rfl
@[go_sem] theorem tagg_165 : tagg Tryz.prog 165 = .some false := by kernel_rfl
@[go_sem] theorem tk_166 : tk Tryz.prog 166 = .other := by kernel_rfl
@[go_sem] theorem tsz_166 : tsz Tryz.prog 166 = .some 1 := by kernel_rfl
@[go_sem] theorem tby_166 : tby Tryz.prog 166 = .some 0 := by kernel_rfl
@[go_sem] theorem tagg_166 : tagg Tryz.prog 166 = .some false := by kernel_rfl
@[go_sem] theorem tk_167 : tk Tryz.prog 167 = .other := by kernel_rfl
@[go_sem] theorem tsz_167 : tsz Tryz.prog 167 = .some 1 := by kernel_rfl
@[go_sem] theorem tby_167 : tby Tryz.prog 167 = .some 8 := by kernel_rfl
@[go_sem] theorem tz_167 : tz Tryz.prog 167 = .some [(.v .nilFunc)] := by kernel_rfl
@[go_sem] theorem tagg_167 : tagg Tryz.prog 167 = .some false := by kernel_rfl
@[go_sem] theorem tk_168 : tk Tryz.prog 168 = .other := by kernel_rfl
@[go_sem] theorem tsz_168 : tsz Tryz.prog 168 = .some 1 := by kernel_rfl
@[go_sem] theorem tby_168 : tby Tryz.prog 168 = .some 8 := by kernel_rfl
@[go_sem] theorem tz_168 : tz Tryz.prog 168 = .some [(.v .nilFunc)] := by kernel_rfl
@[go_sem] theorem tagg_168 : tagg Tryz.prog 168 = .some false := by kernel_rfl
@[go_sem] theorem tk_169 : tk Tryz.prog 169 = .other := by kernel_rfl
@[go_sem] theorem tsz_169 : tsz Tryz.prog 169 = .some 1 := by kernel_rfl
@[go_sem] theorem tby_169 : tby Tryz.prog 169 = .some 8 := by kernel_rfl
@[go_sem] theorem tz_169 : tz Tryz.prog 169 = .some [(.v .nilFunc)] := by kernel_rfl
@[go_sem] theorem tagg_169 : tagg Tryz.prog 169 = .some false := by kernel_rfl
@[go_sem] theorem tk_170 : tk Tryz.prog 170 = .other := by kernel_rfl
@[go_sem] theorem tsz_170 : tsz Tryz.prog 170 = .some 1 := by kernel_rfl
@[go_sem] theorem tby_170 : tby Tryz.prog 170 = .some 8 := by kernel_rfl
@[go_sem] theorem tz_170 : tz Tryz.prog 170 = .some [(.v .nilFunc)] := by kernel_rfl
@[go_sem] theorem tagg_170 : tagg Tryz.prog 170 = .some false := by kernel_rfl
@[go_sem] theorem tk_171 : tk Tryz.prog 171 = .sl 175 := by kernel_rfl
@[go_sem] theorem tsz_171 : tsz Tryz.prog 171 = .some 1 := by kernel_rfl
@[go_sem] theorem tby_171 : tby Tryz.prog 171 = .some 24 := by kernel_rfl
@[go_sem] theorem tz_171 : tz Tryz.prog 171 = .some [(.v (.slice .none 0 0))] := by kernel_rfl
@[go_sem] theorem tagg_171 : tagg Tryz.prog 171 = .some false := by kernel_rfl
@[go_sem] theorem tk_172 : tk Tryz.prog 172 = .str := by kernel_rfl
@[go_sem] theorem tsz_172 : tsz Tryz.prog 172 = .some 2 := by kernel_rfl
@[go_sem] theorem tby_172 : tby Tryz.prog 172 = .some 32 := by kernel_rfl
@[go_sem] theorem tz_172 : tz Tryz.prog 172 = .some [(.v (.slice .none 0 0)), (.v (.int .i64 0))] := by kernel_rfl
@[go_sem] theorem tagg_172 : tagg Tryz.prog 172 = .some true := by kernel_rfl
@[go_sem] theorem tfi_172 : tfi Tryz.prog 172 = true := by kernel_rfl
@[go_sem] theorem ftyp_172_0 : ftyp Tryz.prog 172 0 = .some 171 := by kernel_rfl
@[go_sem] theorem foff_172_0 : foff Tryz.prog 172 0 = .some 0 := by kernel_rfl
@[go_sem] theorem ftyp_172_1 : ftyp Tryz.prog 172 1 = .some 86 := by kernel_rfl
@[go_sem] theorem foff_172_1 : foff Tryz.prog 172 1 = .some 1 := by kernel_rfl
@[go_sem] theorem tk_173 : tk Tryz.prog 173 = .str := by kernel_rfl
@[go_sem] theorem tsz_173 : tsz Tryz.prog 173 = .some 2 := by kernel_rfl
@[go_sem] theorem tby_173 : tby Tryz.prog 173 = .some 32 := by kernel_rfl
@[go_sem] theorem tz_173 : tz Tryz.prog 173 = .some [(.v (.slice .none 0 0)), (.v (.int .i64 0))] := by kernel_rfl
@[go_sem] theorem tagg_173 : tagg Tryz.prog 173 = .some true := by kernel_rfl
@[go_sem] theorem tfi_173 : tfi Tryz.prog 173 = true := by kernel_rfl
@[go_sem] theorem ftyp_173_0 : ftyp Tryz.prog 173 0 = .some 171 := by kernel_rfl
@[go_sem] theorem foff_173_0 : foff Tryz.prog 173 0 = .some 0 := by kernel_rfl
@[go_sem] theorem ftyp_173_1 : ftyp Tryz.prog 173 1 = .some 86 := by kernel_rfl
@[go_sem] theorem foff_173_1 : foff Tryz.prog 173 1 = .some 1 := by kernel_rfl
@[go_sem] theorem tk_174 : tk Tryz.prog 174 = .other := by kernel_rfl
@[go_sem] theorem tsz_174 : tsz Tryz.prog 174 = .some 1 := by kernel_rfl
@[go_sem] theorem tby_174 : tby Tryz.prog 174 = .some 8 := by kernel_rfl
@[go_sem] theorem tz_174 : tz Tryz.prog 174 = .some [(.v .nilFunc)] := by kernel_rfl
@[go_sem] theorem tagg_174 : tagg Tryz.prog 174 = .some false := by kernel_rfl
@[go_sem] theorem tk_175 : tk Tryz.prog 175 = .sl 177 := by kernel_rfl
@[go_sem] theorem tsz_175 : tsz Tryz.prog 175 = .some 1 := by kernel_rfl
@[go_sem] theorem tby_175 : tby Tryz.prog 175 = .some 24 := by kernel_rfl
@[go_sem] theorem tz_175 : tz Tryz.prog 175 = .some [(.v (.slice .none 0 0))] := by kernel_rfl
@[go_sem] theorem tagg_175 : tagg Tryz.prog 175 = .some false := by kernel_rfl
@[go_sem] theorem tk_176 : tk Tryz.prog 176 = .str := by kernel_rfl
@[go_sem] theorem tsz_176 : tsz Tryz.prog 176 = .some 8 := by kernel_rfl
@[go_sem] theorem tby_176 : tby Tryz.prog 176 = .some 112 := by kernel_rfl
@[go_sem] theorem tz_176 : tz Tryz.prog 176 = .some [(.v (.slice .none 0 0)), (.v (.slice .none 0 0)), (.v (.slice .none 0 0)), (.v (.int .i64 0)), (.v (.int .i64 0)), (.v (.int .i64 0)), (.v (.int .i64 0)), (.v (.bool false))] := by kernel_rfl
@[go_sem] theorem tagg_176 : tagg Tryz.prog 176 = .some true := by kernel_rfl
@[go_sem] theorem tfi_176 : tfi Tryz.prog 176 = true := by kernel_rfl
@[go_sem] theorem ftyp_176_0 : ftyp Tryz.prog 176 0 = .some 44 := by kernel_rfl
@[go_sem] theorem foff_176_0 : foff Tryz.prog 176 0 = .some 0 := by kernel_rfl
@[go_sem] theorem ftyp_176_1 : ftyp Tryz.prog 176 1 = .some 3 := by kernel_rfl
@[go_sem] theorem foff_176_1 : foff Tryz.prog 176 1 = .some 5 := by kernel_rfl
@[go_sem] theorem ftyp_176_2 : ftyp Tryz.prog 176 2 = .some 3 := by kernel_rfl
@[go_sem] theorem foff_176_2 : foff Tryz.prog 176 2 = .some 6 := by kernel_rfl
@[go_sem] theorem ftyp_176_3 : ftyp Tryz.prog 176 3 = .some 4 := by kernel_rfl
@[go_sem] theorem foff_176_3 : foff Tryz.prog 176 3 = .some 7 := by kernel_rfl
@[go_sem] theorem tk_177 : tk Tryz.prog 177 = .str := by kernel_rfl
@[go_sem] theorem tsz_177 : tsz Tryz.prog 177 = .some 8 := by kernel_rfl
@[go_sem] theorem tby_177 : tby Tryz.prog 177 = .some 112 := by kernel_rfl
@[go_sem] theorem tz_177 : tz Tryz.prog 177 = .some [(.v (.slice .none 0 0)), (.v (.slice .none 0 0)), (.v (.slice .none 0 0)), (.v (.int .i64 0)), (.v (.int .i64 0)), (.v (.int .i64 0)), (.v (.int .i64 0)), (.v (.bool false))] := by kernel_rfl
@[go_sem] theorem tagg_177 : tagg Tryz.prog 177 = .some true := by kernel_rfl
@[go_sem] theorem tfi_177 : tfi Tryz.prog 177 = true := by kernel_rfl
@[go_sem] theorem ftyp_177_0 : ftyp Tryz.prog 177 0 = .some 44 := by kernel_rfl
@[go_sem] theorem foff_177_0 : foff Tryz.prog 177 0 = .some 0 := by kernel_rfl
@[go_sem] theorem ftyp_177_1 : ftyp Tryz.prog 177 1 = .some 3 := by kernel_rfl
@[go_sem] theorem foff_177_1 : foff Tryz.prog 177 1 = .some 5 := by kernel_rfl
@[go_sem] theorem ftyp_177_2 : ftyp Tryz.prog 177 2 = .some 3 := by kernel_rfl
@[go_sem] theorem foff_177_2 : foff Tryz.prog 177 2 = .some 6 := by kernel_rfl
@[go_sem] theorem ftyp_177_3 : ftyp Tryz.prog 177 3 = .some 4 := by kernel_rfl
@[go_sem] theorem foff_177_3 : foff Tryz.prog 177 3 = .some 7 := by kernel_rfl
@[go_sem] theorem tk_178 : tk Tryz.prog 178 = .other := by kernel_rfl
@[go_sem] theorem tsz_178 : tsz Tryz.prog 178 = .some 1 := by kernel_rfl
@[go_sem] theorem tby_178 : tby Tryz.prog 178 = .some 8 := by kernel_rfl
@[go_sem] theorem tz_178 : tz Tryz.prog 178 = .some [(.v .nilFunc)] := by kernel_rfl
@[go_sem] theorem tagg_178 : tagg Tryz.prog 178 = .some false := by kernel_rfl
@[go_sem] theorem tk_179 : tk Tryz.prog 179 = .other := by kernel_rfl
@[go_sem] theorem tsz_179 : tsz Tryz.prog 179 = .some 1 := by kernel_rfl
@[go_sem] theorem tby_179 : tby Tryz.prog 179 = .some 8 := by kernel_rfl
@[go_sem] theorem tz_179 : tz Tryz.prog 179 = .some [(.v .nilFunc)] := by kernel_rfl
@[go_sem] theorem tagg_179 : tagg Tryz.prog 179 = .some false := by kernel_rfl
@[go_sem] theorem tk_180 : tk Tryz.prog 180 = .other := by kernel_rfl
@[go_sem] theorem tsz_180 : tsz Tryz.prog 180 = .some 1 := by kernel_rfl
@[go_sem] theorem tby_180 : tby Tryz.prog 180 = .some 8 := by kernel_rfl
@[go_sem] theorem tz_180 : tz Tryz.prog 180 = .some [(.v .nilFunc)] := by kernel_rfl
@[go_sem] theorem tagg_180 : tagg Tryz.prog 180 = .some false := by kernel_rfl
@[go_sem] theorem tk_181 : tk Tryz.prog 181 = .sl 122 := by kernel_rfl
@[go_sem] theorem tsz_181 : tsz Tryz.prog 181 = .some 1 := by kernel_rfl
@[go_sem] theorem tby_181 : tby Tryz.prog 181 = .some 24 := by kernel_rfl
@[go_sem] theorem tz_181 : tz Tryz.prog 181 = .some [(.v (.slice .none 0 0))] := by kernel_rfl
@[go_sem] theorem tagg_181 : tagg Tryz.prog 181 = .some false := by kernel_rfl
@[go_sem] theorem tk_182 : tk Tryz.prog 182 = .map 9 4 := by kernel_rfl
@[go_sem] theorem tsz_182 : tsz Tryz.prog 182 = .some 1 := by kernel_rfl
@[go_sem] theorem tby_182 : tby Tryz.prog 182 = .some 8 := by kernel_rfl
@[go_sem] theorem tz_182 : tz Tryz.prog 182 = .some [(.v (.map .none))] := by kernel_rfl
@[go_sem] theorem tagg_182 : tagg Tryz.prog 182 = .some false := by kernel_rfl
@[go_sem] theorem tk_183 : tk Tryz.prog 183 = .other := by kernel_rfl
@[go_sem] theorem tsz_183 : tsz Tryz.prog 183 = .some 1 := by kernel_rfl
@[go_sem] theorem tby_183 : tby Tryz.prog 183 = .some 8 := by kernel_rfl
@[go_sem] theorem tz_183 : tz Tryz.prog 183 = .some [(.v .nilFunc)] := by kernel_rfl
@[go_sem] theorem tagg_183 : tagg Tryz.prog 183 = .some false := by kernel_rfl
@[go_sem] theorem tk_184 : tk Tryz.prog 184 = .other := by kernel_rfl
@[go_sem] theorem tsz_184 : tsz Tryz.prog 184 = .some 1 := by kernel_rfl
@[go_sem] theorem tby_184 : tby Tryz.prog 184 = .some 8 := by kernel_rfl
@[go_sem] theorem tz_184 : tz Tryz.prog 184 = .some [(.v .nilFunc)] := by kernel_rfl
@[go_sem] theorem tagg_184 : tagg Tryz.prog 184 = .some false := by kernel_rfl
@[go_sem] theorem tk_185 : tk Tryz.prog 185 = .other := by kernel_rfl
@[go_sem] theorem tsz_185 : tsz Tryz.prog 185 = .some 1 := by kernel_rfl
@[go_sem] theorem tby_185 : tby Tryz.prog 185 = .some 8 := by kernel_rfl
@[go_sem] theorem tz_185 : tz Tryz.prog 185 = .some [(.v .nilFunc)] := by kernel_rfl
@[go_sem] theorem tagg_185 : tagg Tryz.prog 185 = .some false := by kernel_rfl
@[go_sem] theorem tk_186 : tk Tryz.prog 186 = .map 4 3 := by kernel_rfl
@[go_sem] theorem tsz_186 : tsz Tryz.prog 186 = .some 1 := by kernel_rfl
@[go_sem] theorem tby_186 : tby Tryz.prog 186 = .some 8 := by kernel_rfl
@[go_sem] theorem tz_186 : tz Tryz.prog 186 = .some [(.v (.map .none))] := by kernel_rfl
@[go_sem] theorem tagg_186 : tagg Tryz.prog 186 = .some false := by kernel_rfl
@[go_sem] theorem tk_187 : tk Tryz.prog 187 = .other := by kernel_rfl
@[go_sem] theorem tsz_187 : tsz Tryz.prog 187 = .some 1 := by kernel_rfl
@[go_sem] theorem tby_187 : tby Tryz.prog 187 = .some 8 := by kernel_rfl
@[go_sem] theorem tz_187 : tz Tryz.prog 187 = .some [(.v .nilFunc)] := by kernel_rfl
@[go_sem] theorem tagg_187 : tagg Tryz.prog 187 = .some false := by kernel_rfl
@[go_sem] theorem tk_188 : tk Tryz.prog 188 = .other := by kernel_rfl
@[go_sem] theorem tsz_188 : tsz Tryz.prog 188 = .some 1 := by kernel_rfl
@[go_sem] theorem tby_188 : tby Tryz.prog 188 = .some 8 := by kernel_rfl
@[go_sem] theorem tz_188 : tz Tryz.prog 188 = .some [(.v .nilFunc)] := by kernel_rfl
@[go_sem] theorem tagg_188 : tagg Tryz.prog 188 = .some false := by kernel_rfl
@[go_sem] theorem tk_189 : tk Tryz.prog 189 = .other := by kernel_rfl
@[go_sem] theorem tsz_189 : tsz Tryz.prog 189 = .some 1 := by kernel_rfl
@[go_sem] theorem tby_189 : tby Tryz.prog 189 = .some 8 := by kernel_rfl
@[go_sem] theorem tz_189 : tz Tryz.prog 189 = .some [(.v .nilFunc)] := by kernel_rfl
@[go_sem] theorem tagg_189 : tagg Tryz.prog 189 = .some false := by kernel_rfl
@[go_sem] theorem tk_190 : tk Tryz.prog 190 = .other := by kernel_rfl
@[go_sem] theorem tsz_190 : tsz Tryz.prog 190 = .some 1 := by kernel_rfl
@[go_sem] theorem tby_190 : tby Tryz.prog 190 = .some 8 := by kernel_rfl
@[go_sem] theorem tz_190 : tz Tryz.prog 190 = .some [(.v .nilFunc)] := by kernel_rfl
@[go_sem] theorem tagg_190 : tagg Tryz.prog 190 = .some false := by kernel_rfl
@[go_sem] theorem tk_191 : tk Tryz.prog 191 = .other := by kernel_rfl
@[go_sem] theorem tsz_191 : tsz Tryz.prog 191 = .some 1 := by kernel_rfl
@[go_sem] theorem tby_191 : tby Tryz.prog 191 = .some 8 := by kernel_rfl
@[go_sem] theorem tz_191 : tz Tryz.prog 191 = .some [(.v .nilFunc)] := by kernel_rfl
@[go_sem] theorem tagg_191 : tagg Tryz.prog 191 = .some false := by kernel_rfl
@[go_sem] theorem tk_192 : tk Tryz.prog 192 = .other := by kernel_rfl
@[go_sem] theorem tsz_192 : tsz Tryz.prog 192 = .some 1 := by kernel_rfl
@[go_sem] theorem tby_192 : tby Tryz.prog 192 = .some 8 := by kernel_rfl
@[go_sem] theorem tz_192 : tz Tryz.prog 192 = .some [(.v .nilFunc)] := by kernel_rfl
@[go_sem] theorem tagg_192 : tagg Tryz.prog 192 = .some false := by kernel_rfl
@[go_sem] theorem tk_193 : tk Tryz.prog 193 = .other := by kernel_rfl
@[go_sem] theorem tsz_193 : tsz Tryz.prog 193 = .some 1 := by kernel_rfl
@[go_sem] theorem tby_193 : tby Tryz.prog 193 = .some 8 := by kernel_rfl
@[go_sem] theorem tz_193 : tz Tryz.prog 193 = .some [(.v .nilFunc)] := by kernel_rfl
@[go_sem] theorem tagg_193 : tagg Tryz.prog 193 = .some false := by kernel_rfl
@[go_sem] theorem tk_194 : tk Tryz.prog 194 = .int .i64 := by kernel_rfl
@[go_sem] theorem tsz_194 : tsz Tryz.prog 194 = .some 1 := by kernel_rfl
@[go_sem] theorem tby_194 : tby Tryz.prog 194 = .some 8 := by kernel_rfl
@[go_sem] theorem tz_194 : tz Tryz.prog 194 = .some [(.v (.int .i64 0))] := by kernel_rfl
@[go_sem] theorem tagg_194 : tagg Tryz.prog 194 = .some false := by kernel_rfl
@[go_sem] theorem tz1_194 : tz1 Tryz.prog 194 = .some (.int .i64 0) := by kernel_rfl
@[go_sem] theorem tk_195 : tk Tryz.prog 195 = .other := by kernel_rfl
@[go_sem] theorem tsz_195 : tsz Tryz.prog 195 = .some 1 := by kernel_rfl
@[go_sem] theorem tby_195 : tby Tryz.prog 195 = .some 0 := by kernel_rfl
@[go_sem] theorem tagg_195 : tagg Tryz.prog 195 = .some false := by kernel_rfl
@[go_sem] theorem tk_198 : tk Tryz.prog 198 = .other := by kernel_rfl
@[go_sem] theorem tsz_198 : tsz Tryz.prog 198 = .some 1 := by kernel_rfl
@[go_sem] theorem tby_198 : tby Tryz.prog 198 = .some 8 := by kernel_rfl
@[go_sem] theorem tz_198 : tz Tryz.prog 198 = .some [(.v .nilFunc)] := by kernel_rfl
@[go_sem] theorem tagg_198 : tagg Tryz.prog 198 = .some false := by kernel_rfl
@[go_sem] theorem tk_200 : tk Tryz.prog 200 = .other := by kernel_rfl
@[go_sem] theorem tsz_200 : tsz Tryz.prog 200 = .some 1 := by kernel_rfl
@[go_sem] theorem tby_200 : tby Tryz.prog 200 = .some 8 := by kernel_rfl
@[go_sem] theorem tz_200 : tz Tryz.prog 200 = .some [(.v .nilFunc)] := by kernel_rfl
@[go_sem] theorem tagg_200 : tagg Tryz.prog 200 = .some false := by kernel_rfl
@[go_sem] theorem tk_201 : tk Tryz.prog 201 = .int .u32 := by kernel_rfl
@[go_sem] theorem tsz_201 : tsz Tryz.prog 201 = .some 1 := by kernel_rfl
@[go_sem] theorem tby_201 : tby Tryz.prog 201 = .some 4 := by kernel_rfl
@[go_sem] theorem tz_201 : tz Tryz.prog 201 = .some [(.v (.int .u32 0))] := by kernel_rfl
@[go_sem] theorem tagg_201 : tagg Tryz.prog 201 = .some false := by kernel_rfl
@[go_sem] theorem tz1_201 : tz1 Tryz.prog 201 = .some (.int .u32 0) := by kernel_rfl
@[go_sem] theorem tk_203 : tk Tryz.prog 203 = .int .u64 := by kernel_rfl
@[go_sem] theorem tsz_203 : tsz Tryz.prog 203 = .some 1 := by kernel_rfl
@[go_sem] theorem tby_203 : tby Tryz.prog 203 = .some 8 := by kernel_rfl
@[go_sem] theorem tz_203 : tz Tryz.prog 203 = .some [(.v (.int .u64 0))] := by kernel_rfl
@[go_sem] theorem tagg_203 : tagg Tryz.prog 203 = .some false := by kernel_rfl
@[go_sem] theorem tz1_203 : tz1 Tryz.prog 203 = .some (.int .u64 0) := by kernel_rfl
@[go_sem] theorem tk_204 : tk Tryz.prog 204 = .other := by kernel_rfl
@[go_sem] theorem tsz_204 : tsz Tryz.prog 204 = .some 1 := by kernel_rfl
@[go_sem] theorem tby_204 : tby Tryz.prog 204 = .some 8 := by kernel_rfl
@[go_sem] theorem tz_204 : tz Tryz.prog 204 = .some [(.v .nilFunc)] := by kernel_rfl
@[go_sem] theorem tagg_204 : tagg Tryz.prog 204 = .some false := by kernel_rfl
@[go_sem] theorem tk_206 : tk Tryz.prog 206 = .arr 11 204 := by kernel_rfl
@[go_sem] theorem tsz_206 : tsz Tryz.prog 206 = .some 11 := by kernel_rfl
@[go_sem] theorem tby_206 : tby Tryz.prog 206 = .some 88 := by kernel_rfl
@[go_sem] theorem tz_206 : tz Tryz.prog 206 = .some [(.v .nilFunc), (.v .nilFunc), (.v .nilFunc), (.v .nilFunc), (.v .nilFunc), (.v .nilFunc), (.v .nilFunc), (.v .nilFunc), (.v .nilFunc), (.v .nilFunc), (.v .nilFunc)] := by kernel_rfl
@[go_sem] theorem tagg_206 : tagg Tryz.prog 206 = .some true := by kernel_rfl
@[go_sem] theorem tk_212 : tk Tryz.prog 212 = .other := by kernel_rfl
@[go_sem] theorem tsz_212 : tsz Tryz.prog 212 = .some 1 := by kernel_rfl
@[go_sem] theorem tby_212 : tby Tryz.prog 212 = .some 8 := by kernel_rfl
@[go_sem] theorem tz_212 : tz Tryz.prog 212 = .some [(.v .nilFunc)] := by kernel_rfl
@[go_sem] theorem tagg_212 : tagg Tryz.prog 212 = .some false := by kernel_rfl
@[go_sem] theorem tk_215 : tk Tryz.prog 215 = .other := by kernel_rfl
@[go_sem] theorem tsz_215 : tsz Tryz.prog 215 = .some 1 := by kernel_rfl
@[go_sem] theorem tby_215 : tby Tryz.prog 215 = .some 8 := by kernel_rfl
@[go_sem] theorem tz_215 : tz Tryz.prog 215 = .some [(.v .nilFunc)] := by kernel_rfl
@[go_sem] theorem tagg_215 : tagg Tryz.prog 215 = .some false := by kernel_rfl
@[go_sem] theorem tk_216 : tk Tryz.prog 216 = .other := by kernel_rfl
@[go_sem] theorem tsz_216 : tsz Tryz.prog 216 = .some 1 := by kernel_rfl
@[go_sem] theorem tby_216 : tby Tryz.prog 216 = .some 8 := by kernel_rfl
@[go_sem] theorem tz_216 : tz Tryz.prog 216 = .some [(.v .nilFunc)] := by kernel_rfl
@[go_sem] theorem tagg_216 : tagg Tryz.prog 216 = .some false := by kernel_rfl
@[go_sem] theorem tk_220 : tk Tryz.prog 220 = .int .u64 := by kernel_rfl
@[go_sem] theorem tsz_220 : tsz Tryz.prog 220 = .some 1 := by kernel_rfl
@[go_sem] theorem tby_220 : tby Tryz.prog 220 = .some 8 := by kernel_rfl
@[go_sem] theorem tz_220 : tz Tryz.prog 220 = .some [(.v (.int .u64 0))] := by kernel_rfl
@[go_sem] theorem tagg_220 : tagg Tryz.prog 220 = .some false := by kernel_rfl
@[go_sem] theorem tz1_220 : tz1 Tryz.prog 220 = .some (.int .u64 0) := by kernel_rfl
@[go_sem] theorem tk_224 : tk Tryz.prog 224 = .ptr 3 := by kernel_rfl
@[go_sem] theorem tsz_224 : tsz Tryz.prog 224 = .some 1 := by kernel_rfl
@[go_sem] theorem tby_224 : tby Tryz.prog 224 = .some 8 := by kernel_rfl
@[go_sem] theorem tz_224 : tz Tryz.prog 224 = .some [(.v (.pointer .none))] := by kernel_rfl
@[go_sem] theorem tagg_224 : tagg Tryz.prog 224 = .some false := by kernel_rfl
@[go_sem] theorem tk_232 : tk Tryz.prog 232 = .ptr 220 := by kernel_rfl
@[go_sem] theorem tsz_232 : tsz Tryz.prog 232 = .some 1 := by kernel_rfl
@[go_sem] theorem tby_232 : tby Tryz.prog 232 = .some 8 := by kernel_rfl
@[go_sem] theorem tz_232 : tz Tryz.prog 232 = .some [(.v (.pointer .none))] := by kernel_rfl
@[go_sem] theorem tagg_232 : tagg Tryz.prog 232 = .some false := by kernel_rfl
@[go_sem] theorem tk_234 : tk Tryz.prog 234 = .other := by kernel_rfl
@[go_sem] theorem tsz_234 : tsz Tryz.prog 234 = .some 1 := by kernel_rfl
@[go_sem] theorem tby_234 : tby Tryz.prog 234 = .some 8 := by kernel_rfl
@[go_sem] theorem tz_234 : tz Tryz.prog 234 = .some [(.v .nilFunc)] := by kernel_rfl
@[go_sem] theorem tagg_234 : tagg Tryz.prog 234 = .some false := by kernel_rfl
@[go_sem] theorem tk_235 : tk Tryz.prog 235 = .other := by kernel_rfl
@[go_sem] theorem tsz_235 : tsz Tryz.prog 235 = .some 1 := by kernel_rfl
@[go_sem] theorem tby_235 : tby Tryz.prog 235 = .some 8 := by kernel_rfl
@[go_sem] theorem tz_235 : tz Tryz.prog 235 = .some [(.v .nilFunc)] := by kernel_rfl
@[go_sem] theorem tagg_235 : tagg Tryz.prog 235 = .some false := by kernel_rfl
@[go_sem] theorem tk_236 : tk Tryz.prog 236 = .other := by kernel_rfl
@[go_sem] theorem tsz_236 : tsz Tryz.prog 236 = .some 1 := by kernel_rfl
@[go_sem] theorem tby_236 : tby Tryz.prog 236 = .some 8 := by kernel_rfl
@[go_sem] theorem tz_236 : tz Tryz.prog 236 = .some [(.v .nilFunc)] := by kernel_rfl
@[go_sem] theorem tagg_236 : tagg Tryz.prog 236 = .some false := by kernel_rfl
@[go_sem] theorem tk_241 : tk Tryz.prog 241 = .arr 24 5 := by kernel_rfl
@[go_sem] theorem tsz_241 : tsz Tryz.prog 241 = .some 24 := by kernel_rfl
@[go_sem] theorem tby_241 : tby Tryz.prog 241 = .some 24 := by kernel_rfl
@[go_sem] theorem tz_241 : tz Tryz.prog 241 = .some [(.v (.int .u8 0)), (.v (.int .u8 0)), (.v (.int .u8 0)), (.v (.int .u8 0)), (.v (.int .u8 0)), (.v (.int .u8 0)), (.v (.int .u8 0)), (.v (.int .u8 0)), (.v (.int .u8 0)), (.v (.int .u8 0)), (.v (.int .u8 0)), (.v (.int .u8 0)), (.v (.int .u8 0)), (.v (.int .u8 0)), (.v (.int .u8 0)), (.v (.int .u8 0)), (.v (.int .u8 0)), (.v (.int .u8 0)), (.v (.int .u8 0)), (.v (.int .u8 0)), (.v (.int .u8 0)), (.v (.int .u8 0)), (.v (.int .u8 0)), (.v (.int .u8 0))] := by kernel_rfl
@[go_sem] theorem tagg_241 : tagg Tryz.prog 241 = .some true := by kernel_rfl
@[go_sem] theorem tk_243 : tk Tryz.prog 243 = .other := by kernel_rfl
@[go_sem] theorem tsz_243 : tsz Tryz.prog 243 = .some 1 := by kernel_rfl
@[go_sem] theorem tby_243 : tby Tryz.prog 243 = .some 0 := by kernel_rfl
@[go_sem] theorem tagg_243 : tagg Tryz.prog 243 = .some false := by kernel_rfl
@[go_sem] theorem tk_248 : tk Tryz.prog 248 = .arr 32 5 := by kernel_rfl
@[go_sem] theorem tsz_248 : tsz Tryz.prog 248 = .some 32 := by kernel_rfl
@[go_sem] theorem tby_248 : tby Tryz.prog 248 = .some 32 := by kernel_rfl
@[go_sem] theorem tz_248 : tz Tryz.prog 248 = .some [(.v (.int .u8 0)), (.v (.int .u8 0)), (.v (.int .u8 0)), (.v (.int .u8 0)), (.v (.int .u8 0)), (.v (.int .u8 0)), (.v (.int .u8 0)), (.v (.int .u8 0)), (.v (.int .u8 0)), (.v (.int .u8 0)), (.v (.int .u8 0)), (.v (.int .u8 0)), (.v (.int .u8 0)), (.v (.int .u8 0)), (.v (.int .u8 0)), (.v (.int .u8 0)), (.v (.int .u8 0)), (.v (.int .u8 0)), (.v (.int .u8 0)), (.v (.int .u8 0)), (.v (.int .u8 0)), (.v (.int .u8 0)), (.v (.int .u8 0)), (.v (.int .u8 0)), (.v (.int .u8 0)), (.v (.int .u8 0)), (.v (.int .u8 0)), (.v (.int .u8 0)), (.v (.int .u8 0)), (.v (.int .u8 0)), (.v (.int .u8 0)), (.v (.int .u8 0))] := by kernel_rfl
@[go_sem] theorem tagg_248 : tagg Tryz.prog 248 = .some true := by kernel_rfl
@[go_sem] theorem tk_250 : tk Tryz.prog 250 = .str := by kernel_rfl
@[go_sem] theorem tsz_250 : tsz Tryz.prog 250 = .some 4 := by kernel_rfl
@[go_sem] theorem tby_250 : tby Tryz.prog 250 = .some 40 := by kernel_rfl
@[go_sem] theorem tz_250 : tz Tryz.prog 250 = .some [(.v (.pointer .none)), (.v (.pointer .none)), (.v (.pointer .none)), (.v (.string ⟨⟨[]⟩⟩))] := by kernel_rfl
@[go_sem] theorem tagg_250 : tagg Tryz.prog 250 = .some true := by kernel_rfl
@[go_sem] theorem tfi_250 : tfi Tryz.prog 250 = true := by kernel_rfl
@[go_sem] theorem ftyp_250_0 : ftyp Tryz.prog 250 0 = .some 17 := by kernel_rfl
@[go_sem] theorem foff_250_0 : foff Tryz.prog 250 0 = .some 0 := by kernel_rfl
@[go_sem] theorem ftyp_250_1 : ftyp Tryz.prog 250 1 = .some 17 := by kernel_rfl
@[go_sem] theorem foff_250_1 : foff Tryz.prog 250 1 = .some 1 := by kernel_rfl
@[go_sem] theorem ftyp_250_2 : ftyp Tryz.prog 250 2 = .some 17 := by kernel_rfl
@[go_sem] theorem foff_250_2 : foff Tryz.prog 250 2 = .some 2 := by kernel_rfl
@[go_sem] theorem ftyp_250_3 : ftyp Tryz.prog 250 3 = .some 9 := by kernel_rfl
@[go_sem] theorem foff_250_3 : foff Tryz.prog 250 3 = .some 3 := by kernel_rfl
@[go_sem] theorem tk_251 : tk Tryz.prog 251 = .str := by kernel_rfl
@[go_sem] theorem tsz_251 : tsz Tryz.prog 251 = .some 4 := by kernel_rfl
@[go_sem] theorem tby_251 : tby Tryz.prog 251 = .some 40 := by kernel_rfl
@[go_sem] theorem tz_251 : tz Tryz.prog 251 = .some [(.v (.pointer .none)), (.v (.pointer .none)), (.v (.pointer .none)), (.v (.string ⟨⟨[]⟩⟩))] := by kernel_rfl
@[go_sem] theorem tagg_251 : tagg Tryz.prog 251 = .some true := by kernel_rfl
@[go_sem] theorem tfi_251 : tfi Tryz.prog 251 = true := by kernel_rfl
@[go_sem] theorem ftyp_251_0 : ftyp Tryz.prog 251 0 = .some 17 := by kernel_rfl
@[go_sem] theorem foff_251_0 : foff Tryz.prog 251 0 = .some 0 := by kernel_rfl
@[go_sem] theorem ftyp_251_1 : ftyp Tryz.prog 251 1 = .some 17 := by kernel_rfl
@[go_sem] theorem foff_251_1 : foff Tryz.prog 251 1 = .some 1 := by kernel_rfl
@[go_sem] theorem ftyp_251_2 : ftyp Tryz.prog 251 2 = .some 17 := by kernel_rfl
@[go_sem] theorem foff_251_2 : foff Tryz.prog 251 2 = .some 2 := by kernel_rfl
@[go_sem] theorem ftyp_251_3 : ftyp Tryz.prog 251 3 = .some 9 := by kernel_rfl
@[go_sem] theorem foff_251_3 : foff Tryz.prog 251 3 = .some 3 := by kernel_rfl
@[go_sem] theorem tk_252 : tk Tryz.prog 252 = .arr 0 16 := by kernel_rfl
@[go_sem] theorem tsz_252 : tsz Tryz.prog 252 = .some 0 := by kernel_rfl
@[go_sem] theorem tby_252 : tby Tryz.prog 252 = .some 0 := by kernel_rfl
@[go_sem] theorem tz_252 : tz Tryz.prog 252 = .some [] := by kernel_rfl
@[go_sem] theorem tagg_252 : tagg Tryz.prog 252 = .some true := by kernel_rfl
@[go_sem] theorem tk_254 : tk Tryz.prog 254 = .str := by kernel_rfl
@[go_sem] theorem tsz_254 : tsz Tryz.prog 254 = .some 0 := by kernel_rfl
@[go_sem] theorem tby_254 : tby Tryz.prog 254 = .some 0 := by kernel_rfl
@[go_sem] theorem tz_254 : tz Tryz.prog 254 = .some [] := by kernel_rfl
@[go_sem] theorem tagg_254 : tagg Tryz.prog 254 = .some true := by kernel_rfl
@[go_sem] theorem tfi_254 : tfi Tryz.prog 254 = true := by kernel_rfl
@[go_sem] theorem ftyp_254_0 : ftyp Tryz.prog 254 0 = .some 252 := by kernel_rfl
@[go_sem] theorem foff_254_0 : foff Tryz.prog 254 0 = .none := by kernel_rfl
@[go_sem] theorem tk_256 : tk Tryz.prog 256 = .int .u8 := by kernel_rfl
@[go_sem] theorem tsz_256 : tsz Tryz.prog 256 = .some 1 := by kernel_rfl
@[go_sem] theorem tby_256 : tby Tryz.prog 256 = .some 1 := by kernel_rfl
@[go_sem] theorem tz_256 : tz Tryz.prog 256 = .some [(.v (.int .u8 0))] := by kernel_rfl
@[go_sem] theorem tagg_256 : tagg Tryz.prog 256 = .some false := by kernel_rfl
@[go_sem] theorem tz1_256 : tz1 Tryz.prog 256 = .some (.int .u8 0) := by kernel_rfl
@[go_sem] theorem tk_257 : tk Tryz.prog 257 = .int .u8 := by kernel_rfl
@[go_sem] theorem tsz_257 : tsz Tryz.prog 257 = .some 1 := by kernel_rfl
@[go_sem] theorem tby_257 : tby Tryz.prog 257 = .some 1 := by kernel_rfl
@[go_sem] theorem tz_257 : tz Tryz.prog 257 = .some [(.v (.int .u8 0))] := by kernel_rfl
@[go_sem] theorem tagg_257 : tagg Tryz.prog 257 = .some false := by kernel_rfl
@[go_sem] theorem tz1_257 : tz1 Tryz.prog 257 = .some (.int .u8 0) := by kernel_rfl
@[go_sem] theorem tk_258 : tk Tryz.prog 258 = .other := by kernel_rfl
@[go_sem] theorem tsz_258 : tsz Tryz.prog 258 = .some 1 := by kernel_rfl
@[go_sem] theorem tby_258 : tby Tryz.prog 258 = .some 8 := by kernel_rfl
@[go_sem] theorem tz_258 : tz Tryz.prog 258 = .some [(.v .nilFunc)] := by kernel_rfl
@[go_sem] theorem tagg_258 : tagg Tryz.prog 258 = .some false := by kernel_rfl
@[go_sem] theorem tk_259 : tk Tryz.prog 259 = .ptr 5 := by kernel_rfl
@[go_sem] theorem tsz_259 : tsz Tryz.prog 259 = .some 1 := by kernel_rfl
@[go_sem] theorem tby_259 : tby Tryz.prog 259 = .some 8 := by kernel_rfl
@[go_sem] theorem tz_259 : tz Tryz.prog 259 = .some [(.v (.pointer .none))] := by kernel_rfl
@[go_sem] theorem tagg_259 : tagg Tryz.prog 259 = .some false := by kernel_rfl
@[go_sem] theorem tk_260 : tk Tryz.prog 260 = .int .i32 := by kernel_rfl
@[go_sem] theorem tsz_260 : tsz Tryz.prog 260 = .some 1 := by kernel_rfl
@[go_sem] theorem tby_260 : tby Tryz.prog 260 = .some 4 := by kernel_rfl
@[go_sem] theorem tz_260 : tz Tryz.prog 260 = .some [(.v (.int .i32 0))] := by kernel_rfl
@[go_sem] theorem tagg_260 : tagg Tryz.prog 260 = .some false := by kernel_rfl
@[go_sem] theorem tz1_260 : tz1 Tryz.prog 260 = .some (.int .i32 0) := by kernel_rfl
@[go_sem] theorem tk_261 : tk Tryz.prog 261 = .int .i32 := by kernel_rfl
@[go_sem] theorem tsz_261 : tsz Tryz.prog 261 = .some 1 := by kernel_rfl
@[go_sem] theorem tby_261 : tby Tryz.prog 261 = .some 4 := by kernel_rfl
@[go_sem] theorem tz_261 : tz Tryz.prog 261 = .some [(.v (.int .i32 0))] := by kernel_rfl
@[go_sem] theorem tagg_261 : tagg Tryz.prog 261 = .some false := by kernel_rfl
@[go_sem] theorem tz1_261 : tz1 Tryz.prog 261 = .some (.int .i32 0) := by kernel_rfl
@[go_sem] theorem tk_263 : tk Tryz.prog 263 = .str := by kernel_rfl
@[go_sem] theorem tsz_263 : tsz Tryz.prog 263 = .some 11 := by kernel_rfl
@[go_sem] theorem tby_263 : tby Tryz.prog 263 = .some 48 := by kernel_rfl
@[go_sem] theorem tz_263 : tz Tryz.prog 263 = .some [(.v (.int .u64 0)), (.v (.int .u64 0)), (.v (.int .u32 0)), (.v (.int .u8 0)), (.v (.int .u8 0)), (.v (.int .u8 0)), (.v (.int .u8 0)), (.v .nilFunc), (.v (.pointer .none)), (.v (.int .i32 0)), (.v (.int .i32 0))] := by kernel_rfl
@[go_sem] theorem tagg_263 : tagg Tryz.prog 263 = .some true := by kernel_rfl
@[go_sem] theorem tfi_263 : tfi Tryz.prog 263 = true := by kernel_rfl
@[go_sem] theorem ftyp_263_0 : ftyp Tryz.prog 263 0 = .some 12 := by kernel_rfl
@[go_sem] theorem foff_263_0 : foff Tryz.prog 263 0 = .some 0 := by kernel_rfl
@[go_sem] theorem ftyp_263_1 : ftyp Tryz.prog 263 1 = .some 12 := by kernel_rfl
@[go_sem] theorem foff_263_1 : foff Tryz.prog 263 1 = .some 1 := by kernel_rfl
@[go_sem] theorem ftyp_263_2 : ftyp Tryz.prog 263 2 = .some 201 := by kernel_rfl
@[go_sem] theorem foff_263_2 : foff Tryz.prog 263 2 = .some 2 := by kernel_rfl
@[go_sem] theorem ftyp_263_3 : ftyp Tryz.prog 263 3 = .some 256 := by kernel_rfl
@[go_sem] theorem foff_263_3 : foff Tryz.prog 263 3 = .some 3 := by kernel_rfl
@[go_sem] theorem ftyp_263_4 : ftyp Tryz.prog 263 4 = .some 5 := by kernel_rfl
@[go_sem] theorem foff_263_4 : foff Tryz.prog 263 4 = .some 4 := by kernel_rfl
@[go_sem] theorem ftyp_263_5 : ftyp Tryz.prog 263 5 = .some 5 := by kernel_rfl
@[go_sem] theorem foff_263_5 : foff Tryz.prog 263 5 = .some 5 := by kernel_rfl
@[go_sem] theorem ftyp_263_6 : ftyp Tryz.prog 263 6 = .some 257 := by kernel_rfl
@[go_sem] theorem foff_263_6 : foff Tryz.prog 263 6 = .some 6 := by kernel_rfl
@[go_sem] theorem ftyp_263_7 : ftyp Tryz.prog 263 7 = .some 258 := by kernel_rfl
@[go_sem] theorem foff_263_7 : foff Tryz.prog 263 7 = .some 7 := by kernel_rfl
@[go_sem] theorem ftyp_263_8 : ftyp Tryz.prog 263 8 = .some 259 := by kernel_rfl
@[go_sem] theorem foff_263_8 : foff Tryz.prog 263 8 = .some 8 := by kernel_rfl
@[go_sem] theorem ftyp_263_9 : ftyp Tryz.prog 263 9 = .some 260 := by kernel_rfl
@[go_sem] theorem foff_263_9 : foff Tryz.prog 263 9 = .some 9 := by kernel_rfl
@[go_sem] theorem ftyp_263_10 : ftyp Tryz.prog 263 10 = .some 261 := by kernel_rfl
@[go_sem] theorem foff_263_10 : foff Tryz.prog 263 10 = .some 10 := by kernel_rfl
@[go_sem] theorem tk_286 : tk Tryz.prog 286 = .other := by kernel_rfl
@[go_sem] theorem tk_295 : tk Tryz.prog 295 = .other := by kernel_rfl
@[go_sem] theorem tk_304 : tk Tryz.prog 304 = .other := by kernel_rfl
end Go.Av
end
