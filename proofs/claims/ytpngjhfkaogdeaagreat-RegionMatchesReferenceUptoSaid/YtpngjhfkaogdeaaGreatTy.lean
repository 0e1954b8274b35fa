/- The facts of the types: printed by a program of ours (types.sh). -/
import Derived.Test.YtpngjhfkaogdeaaGreatAv4
import Derived.Test.YtpngjhfkaogdeaaGreatProg
section
set_option linter.unusedVariables false
namespace Go.Av
open Go Go.Proofs
@[go_sem] theorem tk_0 : tk Tryz.prog 0 = .other := by kernel_rfl
@[go_sem] theorem tsz_0 : tsz Tryz.prog 0 = .some 1 := by kernel_rfl
@[go_sem] theorem tby_0 : tby Tryz.prog 0 = .some 0 := by kernel_rfl
@[go_sem] theorem tagg_0 : tagg Tryz.prog 0 = .some false := by kernel_rfl
@[go_sem] theorem tk_1 : tk Tryz.prog 1 = .other := by kernel_rfl
@[go_sem] theorem tsz_1 : tsz Tryz.prog 1 = .some 1 := by kernel_rfl
@[go_sem] theorem tby_1 : tby Tryz.prog 1 = .some 8 := by kernel_rfl
@[go_sem] theorem tz_1 : tz Tryz.prog 1 = .some [(.v .nilFunc)] := by kernel_rfl
@[go_sem] theorem tagg_1 : tagg Tryz.prog 1 = .some false := by kernel_rfl
@[go_sem] theorem tk_2 : tk Tryz.prog 2 = .int .i64 := by kernel_rfl
@[go_sem] theorem tsz_2 : tsz Tryz.prog 2 = .some 1 := by kernel_rfl
@[go_sem] theorem tby_2 : tby Tryz.prog 2 = .some 8 := by kernel_rfl
@[go_sem] theorem tz_2 : tz Tryz.prog 2 = .some [(.v (.int .i64 0))] := by kernel_rfl
@[go_sem] theorem tagg_2 : tagg Tryz.prog 2 = .some false := by kernel_rfl
@[go_sem] theorem tk_3 : tk Tryz.prog 3 = .int .i64 := by kernel_rfl
@[go_sem] theorem tsz_3 : tsz Tryz.prog 3 = .some 1 := by kernel_rfl
@[go_sem] theorem tby_3 : tby Tryz.prog 3 = .some 8 := by kernel_rfl
@[go_sem] theorem tz_3 : tz Tryz.prog 3 = .some [(.v (.int .i64 0))] := by kernel_rfl
@[go_sem] theorem tagg_3 : tagg Tryz.prog 3 = .some false := by kernel_rfl
@[go_sem] theorem tk_4 : tk Tryz.prog 4 = .bool := by kernel_rfl
@[go_sem] theorem tsz_4 : tsz Tryz.prog 4 = .some 1 := by kernel_rfl
@[go_sem] theorem tby_4 : tby Tryz.prog 4 = .some 1 := by kernel_rfl
@[go_sem] theorem tz_4 : tz Tryz.prog 4 = .some [(.v (.bool false))] := by kernel_rfl
@[go_sem] theorem tagg_4 : tagg Tryz.prog 4 = .some false := by kernel_rfl
@[go_sem] theorem tk_5 : tk Tryz.prog 5 = .int .u8 := by kernel_rfl
@[go_sem] theorem tsz_5 : tsz Tryz.prog 5 = .some 1 := by kernel_rfl
@[go_sem] theorem tby_5 : tby Tryz.prog 5 = .some 1 := by kernel_rfl
@[go_sem] theorem tz_5 : tz Tryz.prog 5 = .some [(.v (.int .u8 0))] := by kernel_rfl
@[go_sem] theorem tagg_5 : tagg Tryz.prog 5 = .some false := by kernel_rfl
@[go_sem] theorem tk_6 : tk Tryz.prog 6 = .int .u8 := by kernel_rfl
@[go_sem] theorem tsz_6 : tsz Tryz.prog 6 = .some 1 := by kernel_rfl
@[go_sem] theorem tby_6 : tby Tryz.prog 6 = .some 1 := by kernel_rfl
@[go_sem] theorem tz_6 : tz Tryz.prog 6 = .some [(.v (.int .u8 0))] := by kernel_rfl
@[go_sem] theorem tagg_6 : tagg Tryz.prog 6 = .some false := by kernel_rfl
@[go_sem] theorem tk_7 : tk Tryz.prog 7 = .str := by kernel_rfl
@[go_sem] theorem tsz_7 : tsz Tryz.prog 7 = .some 4 := by kernel_rfl
@[go_sem] theorem tby_7 : tby Tryz.prog 7 = .some 24 := by kernel_rfl
@[go_sem] theorem tz_7 : tz Tryz.prog 7 = .some [(.v (.int .i64 0)), (.v (.int .i64 0)), (.v (.bool false)), (.v (.int .u8 0))] := by kernel_rfl
@[go_sem] theorem tagg_7 : tagg Tryz.prog 7 = .some true := by kernel_rfl
@[go_sem] theorem tfi_7 : tfi Tryz.prog 7 = true := by kernel_rfl
@[go_sem] theorem ftyp_7_0 : ftyp Tryz.prog 7 0 = .some 2 := by kernel_rfl
@[go_sem] theorem foff_7_0 : foff Tryz.prog 7 0 = .some 0 := by kernel_rfl
@[go_sem] theorem ftyp_7_1 : ftyp Tryz.prog 7 1 = .some 3 := by kernel_rfl
@[go_sem] theorem foff_7_1 : foff Tryz.prog 7 1 = .some 1 := by kernel_rfl
@[go_sem] theorem ftyp_7_2 : ftyp Tryz.prog 7 2 = .some 4 := by kernel_rfl
@[go_sem] theorem foff_7_2 : foff Tryz.prog 7 2 = .some 2 := by kernel_rfl
@[go_sem] theorem ftyp_7_3 : ftyp Tryz.prog 7 3 = .some 6 := by kernel_rfl
@[go_sem] theorem foff_7_3 : foff Tryz.prog 7 3 = .some 3 := by kernel_rfl
@[go_sem] theorem tk_8 : tk Tryz.prog 8 = .str := by kernel_rfl
@[go_sem] theorem tsz_8 : tsz Tryz.prog 8 = .some 4 := by kernel_rfl
@[go_sem] theorem tby_8 : tby Tryz.prog 8 = .some 24 := by kernel_rfl
@[go_sem] theorem tz_8 : tz Tryz.prog 8 = .some [(.v (.int .i64 0)), (.v (.int .i64 0)), (.v (.bool false)), (.v (.int .u8 0))] := by kernel_rfl
@[go_sem] theorem tagg_8 : tagg Tryz.prog 8 = .some true := by kernel_rfl
@[go_sem] theorem tfi_8 : tfi Tryz.prog 8 = true := by kernel_rfl
@[go_sem] theorem ftyp_8_0 : ftyp Tryz.prog 8 0 = .some 2 := by kernel_rfl
@[go_sem] theorem foff_8_0 : foff Tryz.prog 8 0 = .some 0 := by kernel_rfl
@[go_sem] theorem ftyp_8_1 : ftyp Tryz.prog 8 1 = .some 3 := by kernel_rfl
@[go_sem] theorem foff_8_1 : foff Tryz.prog 8 1 = .some 1 := by kernel_rfl
@[go_sem] theorem ftyp_8_2 : ftyp Tryz.prog 8 2 = .some 4 := by kernel_rfl
@[go_sem] theorem foff_8_2 : foff Tryz.prog 8 2 = .some 2 := by kernel_rfl
@[go_sem] theorem ftyp_8_3 : ftyp Tryz.prog 8 3 = .some 6 := by kernel_rfl
@[go_sem] theorem foff_8_3 : foff Tryz.prog 8 3 = .some 3 := by kernel_rfl
@[go_sem] theorem tk_9 : tk Tryz.prog 9 = .string := by kernel_rfl
@[go_sem] theorem tsz_9 : tsz Tryz.prog 9 = .some 1 := by kernel_rfl
@[go_sem] theorem tby_9 : tby Tryz.prog 9 = .some 16 := by kernel_rfl
@[go_sem] theorem tz_9 : tz Tryz.prog 9 = .some [(.v (.string ⟨⟨[]⟩⟩))] := by kernel_rfl
@[go_sem] theorem tagg_9 : tagg Tryz.prog 9 = .some false := by kernel_rfl
@[go_sem] theorem tk_10 : tk Tryz.prog 10 = .string := by kernel_rfl
@[go_sem] theorem tsz_10 : tsz Tryz.prog 10 = .some 1 := by kernel_rfl
@[go_sem] theorem tby_10 : tby Tryz.prog 10 = .some 16 := by kernel_rfl
@[go_sem] theorem tz_10 : tz Tryz.prog 10 = .some [(.v (.string ⟨⟨[]⟩⟩))] := by kernel_rfl
@[go_sem] theorem tagg_10 : tagg Tryz.prog 10 = .some false := by kernel_rfl
@[go_sem] theorem tk_11 : tk Tryz.prog 11 = .string := by kernel_rfl
@[go_sem] theorem tsz_11 : tsz Tryz.prog 11 = .some 1 := by kernel_rfl
@[go_sem] theorem tby_11 : tby Tryz.prog 11 = .some 16 := by kernel_rfl
@[go_sem] theorem tz_11 : tz Tryz.prog 11 = .some [(.v (.string ⟨⟨[]⟩⟩))] := by kernel_rfl
@[go_sem] theorem tagg_11 : tagg Tryz.prog 11 = .some false := by kernel_rfl
@[go_sem] theorem tk_12 : tk Tryz.prog 12 = .int .u64 := by kernel_rfl
@[go_sem] theorem tsz_12 : tsz Tryz.prog 12 = .some 1 := by kernel_rfl
@[go_sem] theorem tby_12 : tby Tryz.prog 12 = .some 8 := by kernel_rfl
@[go_sem] theorem tz_12 : tz Tryz.prog 12 = .some [(.v (.int .u64 0))] := by kernel_rfl
@[go_sem] theorem tagg_12 : tagg Tryz.prog 12 = .some false := by kernel_rfl
@[go_sem] theorem tk_13 : tk Tryz.prog 13 = .str := by kernel_rfl
@[go_sem] theorem tsz_13 : tsz Tryz.prog 13 = .some 2 := by kernel_rfl
@[go_sem] theorem tby_13 : tby Tryz.prog 13 = .some 24 := by kernel_rfl
@[go_sem] theorem tz_13 : tz Tryz.prog 13 = .some [(.v (.string ⟨⟨[]⟩⟩)), (.v (.int .u64 0))] := by kernel_rfl
@[go_sem] theorem tagg_13 : tagg Tryz.prog 13 = .some true := by kernel_rfl
@[go_sem] theorem tfi_13 : tfi Tryz.prog 13 = true := by kernel_rfl
@[go_sem] theorem ftyp_13_0 : ftyp Tryz.prog 13 0 = .some 9 := by kernel_rfl
@[go_sem] theorem foff_13_0 : foff Tryz.prog 13 0 = .some 0 := by kernel_rfl
@[go_sem] theorem ftyp_13_1 : ftyp Tryz.prog 13 1 = .some 12 := by kernel_rfl
@[go_sem] theorem foff_13_1 : foff Tryz.prog 13 1 = .some 1 := by kernel_rfl
@[go_sem] theorem tk_14 : tk Tryz.prog 14 = .str := by kernel_rfl
@[go_sem] theorem tsz_14 : tsz Tryz.prog 14 = .some 2 := by kernel_rfl
@[go_sem] theorem tby_14 : tby Tryz.prog 14 = .some 24 := by kernel_rfl
@[go_sem] theorem tz_14 : tz Tryz.prog 14 = .some [(.v (.string ⟨⟨[]⟩⟩)), (.v (.int .u64 0))] := by kernel_rfl
@[go_sem] theorem tagg_14 : tagg Tryz.prog 14 = .some true := by kernel_rfl
@[go_sem] theorem tfi_14 : tfi Tryz.prog 14 = true := by kernel_rfl
@[go_sem] theorem ftyp_14_0 : ftyp Tryz.prog 14 0 = .some 9 := by kernel_rfl
@[go_sem] theorem foff_14_0 : foff Tryz.prog 14 0 = .some 0 := by kernel_rfl
@[go_sem] theorem ftyp_14_1 : ftyp Tryz.prog 14 1 = .some 12 := by kernel_rfl
@[go_sem] theorem foff_14_1 : foff Tryz.prog 14 1 = .some 1 := by kernel_rfl
@[go_sem] theorem tk_15 : tk Tryz.prog 15 = .ptr 168 := by kernel_rfl
@[go_sem] theorem tsz_15 : tsz Tryz.prog 15 = .some 1 := by kernel_rfl
@[go_sem] theorem tby_15 : tby Tryz.prog 15 = .some 8 := by kernel_rfl
@[go_sem] theorem tz_15 : tz Tryz.prog 15 = .some [(.v (.pointer .none))] := by kernel_rfl
@[go_sem] theorem tagg_15 : tagg Tryz.prog 15 = .some false := by kernel_rfl
@[go_sem] theorem tk_16 : tk Tryz.prog 16 = .ptr 171 := by kernel_rfl
@[go_sem] theorem tsz_16 : tsz Tryz.prog 16 = .some 1 := by kernel_rfl
@[go_sem] theorem tby_16 : tby Tryz.prog 16 = .some 8 := by kernel_rfl
@[go_sem] theorem tz_16 : tz Tryz.prog 16 = .some [(.v (.pointer .none))] := by kernel_rfl
@[go_sem] theorem tagg_16 : tagg Tryz.prog 16 = .some false := by kernel_rfl
@[go_sem] theorem tk_17 : tk Tryz.prog 17 = .ptr 181 := by kernel_rfl
@[go_sem] theorem tsz_17 : tsz Tryz.prog 17 = .some 1 := by kernel_rfl
@[go_sem] theorem tby_17 : tby Tryz.prog 17 = .some 8 := by kernel_rfl
@[go_sem] theorem tz_17 : tz Tryz.prog 17 = .some [(.v (.pointer .none))] := by kernel_rfl
@[go_sem] theorem tagg_17 : tagg Tryz.prog 17 = .some false := by kernel_rfl
@[go_sem] theorem tk_18 : tk Tryz.prog 18 = .str := by kernel_rfl
@[go_sem] theorem tsz_18 : tsz Tryz.prog 18 = .some 1 := by kernel_rfl
@[go_sem] theorem tby_18 : tby Tryz.prog 18 = .some 8 := by kernel_rfl
@[go_sem] theorem tz_18 : tz Tryz.prog 18 = .some [(.v (.pointer .none))] := by kernel_rfl
@[go_sem] theorem tagg_18 : tagg Tryz.prog 18 = .some true := by kernel_rfl
@[go_sem] theorem tfi_18 : tfi Tryz.prog 18 = true := by kernel_rfl
@[go_sem] theorem ftyp_18_0 : ftyp Tryz.prog 18 0 = .some 17 := by kernel_rfl
@[go_sem] theorem foff_18_0 : foff Tryz.prog 18 0 = .some 0 := by kernel_rfl
@[go_sem] theorem tk_19 : tk Tryz.prog 19 = .str := by kernel_rfl
@[go_sem] theorem tsz_19 : tsz Tryz.prog 19 = .some 1 := by kernel_rfl
@[go_sem] theorem tby_19 : tby Tryz.prog 19 = .some 8 := by kernel_rfl
@[go_sem] theorem tz_19 : tz Tryz.prog 19 = .some [(.v (.pointer .none))] := by kernel_rfl
@[go_sem] theorem tagg_19 : tagg Tryz.prog 19 = .some true := by kernel_rfl
@[go_sem] theorem tfi_19 : tfi Tryz.prog 19 = true := by kernel_rfl
@[go_sem] theorem ftyp_19_0 : ftyp Tryz.prog 19 0 = .some 17 := by kernel_rfl
@[go_sem] theorem foff_19_0 : foff Tryz.prog 19 0 = .some 0 := by kernel_rfl
@[go_sem] theorem tk_20 : tk Tryz.prog 20 = .other := by kernel_rfl
@[go_sem] theorem tsz_20 : tsz Tryz.prog 20 = .some 1 := by kernel_rfl
@[go_sem] theorem tby_20 : tby Tryz.prog 20 = .some 16 := by kernel_rfl
@[go_sem] theorem tz_20 : tz Tryz.prog 20 = .some [(.v .nilIface)] := by kernel_rfl
@[go_sem] theorem tagg_20 : tagg Tryz.prog 20 = .some false := by kernel_rfl
@[go_sem] theorem tk_21 : tk Tryz.prog 21 = .int .i32 := by kernel_rfl
@[go_sem] theorem tsz_21 : tsz Tryz.prog 21 = .some 1 := by kernel_rfl
@[go_sem] theorem tby_21 : tby Tryz.prog 21 = .some 4 := by kernel_rfl
@[go_sem] theorem tz_21 : tz Tryz.prog 21 = .some [(.v (.int .i32 0))] := by kernel_rfl
@[go_sem] theorem tagg_21 : tagg Tryz.prog 21 = .some false := by kernel_rfl
@[go_sem] theorem tk_22 : tk Tryz.prog 22 = .sl 5 := by kernel_rfl
@[go_sem] theorem tsz_22 : tsz Tryz.prog 22 = .some 1 := by kernel_rfl
@[go_sem] theorem tby_22 : tby Tryz.prog 22 = .some 24 := by kernel_rfl
@[go_sem] theorem tz_22 : tz Tryz.prog 22 = .some [(.v (.slice .none 0 0))] := by kernel_rfl
@[go_sem] theorem tagg_22 : tagg Tryz.prog 22 = .some false := by kernel_rfl
@[go_sem] theorem tk_23 : tk Tryz.prog 23 = .arr 2 22 := by kernel_rfl
@[go_sem] theorem tsz_23 : tsz Tryz.prog 23 = .some 2 := by kernel_rfl
@[go_sem] theorem tby_23 : tby Tryz.prog 23 = .some 48 := by kernel_rfl
@[go_sem] theorem tz_23 : tz Tryz.prog 23 = .some [(.v (.slice .none 0 0)), (.v (.slice .none 0 0))] := by kernel_rfl
@[go_sem] theorem tagg_23 : tagg Tryz.prog 23 = .some true := by kernel_rfl
@[go_sem] theorem tk_24 : tk Tryz.prog 24 = .sl 75 := by kernel_rfl
@[go_sem] theorem tsz_24 : tsz Tryz.prog 24 = .some 1 := by kernel_rfl
@[go_sem] theorem tby_24 : tby Tryz.prog 24 = .some 24 := by kernel_rfl
@[go_sem] theorem tz_24 : tz Tryz.prog 24 = .some [(.v (.slice .none 0 0))] := by kernel_rfl
@[go_sem] theorem tagg_24 : tagg Tryz.prog 24 = .some false := by kernel_rfl
@[go_sem] theorem tk_25 : tk Tryz.prog 25 = .arr 6 5 := by kernel_rfl
@[go_sem] theorem tsz_25 : tsz Tryz.prog 25 = .some 6 := by kernel_rfl
@[go_sem] theorem tby_25 : tby Tryz.prog 25 = .some 6 := by kernel_rfl
@[go_sem] theorem tz_25 : tz Tryz.prog 25 = .some [(.v (.int .u8 0)), (.v (.int .u8 0)), (.v (.int .u8 0)), (.v (.int .u8 0)), (.v (.int .u8 0)), (.v (.int .u8 0))] := by kernel_rfl
@[go_sem] theorem tagg_25 : tagg Tryz.prog 25 = .some true := by kernel_rfl
@[go_sem] theorem tk_26 : tk Tryz.prog 26 = .str := by kernel_rfl
@[go_sem] theorem tsz_26 : tsz Tryz.prog 26 = .some 12 := by kernel_rfl
@[go_sem] theorem tby_26 : tby Tryz.prog 26 = .some 88 := by kernel_rfl
@[go_sem] theorem tz_26 : tz Tryz.prog 26 = .some [(.v (.int .u8 0)), (.v (.int .u8 0)), (.v (.int .u8 0)), (.v (.slice .none 0 0)), (.v (.slice .none 0 0)), (.v (.slice .none 0 0)), (.v (.int .u8 0)), (.v (.int .u8 0)), (.v (.int .u8 0)), (.v (.int .u8 0)), (.v (.int .u8 0)), (.v (.int .u8 0))] := by kernel_rfl
@[go_sem] theorem tagg_26 : tagg Tryz.prog 26 = .some true := by kernel_rfl
@[go_sem] theorem tfi_26 : tfi Tryz.prog 26 = true := by kernel_rfl
@[go_sem] theorem ftyp_26_0 : ftyp Tryz.prog 26 0 = .some 5 := by kernel_rfl
@[go_sem] theorem foff_26_0 : foff Tryz.prog 26 0 = .some 0 := by kernel_rfl
@[go_sem] theorem ftyp_26_1 : ftyp Tryz.prog 26 1 = .some 5 := by kernel_rfl
@[go_sem] theorem foff_26_1 : foff Tryz.prog 26 1 = .some 1 := by kernel_rfl
@[go_sem] theorem ftyp_26_2 : ftyp Tryz.prog 26 2 = .some 5 := by kernel_rfl
@[go_sem] theorem foff_26_2 : foff Tryz.prog 26 2 = .some 2 := by kernel_rfl
@[go_sem] theorem ftyp_26_3 : ftyp Tryz.prog 26 3 = .some 23 := by kernel_rfl
@[go_sem] theorem foff_26_3 : foff Tryz.prog 26 3 = .some 3 := by kernel_rfl
@[go_sem] theorem ftyp_26_4 : ftyp Tryz.prog 26 4 = .some 24 := by kernel_rfl
@[go_sem] theorem foff_26_4 : foff Tryz.prog 26 4 = .some 5 := by kernel_rfl
@[go_sem] theorem ftyp_26_5 : ftyp Tryz.prog 26 5 = .some 25 := by kernel_rfl
@[go_sem] theorem foff_26_5 : foff Tryz.prog 26 5 = .some 6 := by kernel_rfl
@[go_sem] theorem tk_27 : tk Tryz.prog 27 = .str := by kernel_rfl
@[go_sem] theorem tsz_27 : tsz Tryz.prog 27 = .some 12 := by kernel_rfl
@[go_sem] theorem tby_27 : tby Tryz.prog 27 = .some 88 := by kernel_rfl
@[go_sem] theorem tz_27 : tz Tryz.prog 27 = .some [(.v (.int .u8 0)), (.v (.int .u8 0)), (.v (.int .u8 0)), (.v (.slice .none 0 0)), (.v (.slice .none 0 0)), (.v (.slice .none 0 0)), (.v (.int .u8 0)), (.v (.int .u8 0)), (.v (.int .u8 0)), (.v (.int .u8 0)), (.v (.int .u8 0)), (.v (.int .u8 0))] := by kernel_rfl
@[go_sem] theorem tagg_27 : tagg Tryz.prog 27 = .some true := by kernel_rfl
@[go_sem] theorem tfi_27 : tfi Tryz.prog 27 = true := by kernel_rfl
@[go_sem] theorem ftyp_27_0 : ftyp Tryz.prog 27 0 = .some 5 := by kernel_rfl
@[go_sem] theorem foff_27_0 : foff Tryz.prog 27 0 = .some 0 := by kernel_rfl
@[go_sem] theorem ftyp_27_1 : ftyp Tryz.prog 27 1 = .some 5 := by kernel_rfl
@[go_sem] theorem foff_27_1 : foff Tryz.prog 27 1 = .some 1 := by kernel_rfl
@[go_sem] theorem ftyp_27_2 : ftyp Tryz.prog 27 2 = .some 5 := by kernel_rfl
@[go_sem] theorem foff_27_2 : foff Tryz.prog 27 2 = .some 2 := by kernel_rfl
@[go_sem] theorem ftyp_27_3 : ftyp Tryz.prog 27 3 = .some 23 := by kernel_rfl
@[go_sem] theorem foff_27_3 : foff Tryz.prog 27 3 = .some 3 := by kernel_rfl
@[go_sem] theorem ftyp_27_4 : ftyp Tryz.prog 27 4 = .some 24 := by kernel_rfl
@[go_sem] theorem foff_27_4 : foff Tryz.prog 27 4 = .some 5 := by kernel_rfl
@[go_sem] theorem ftyp_27_5 : ftyp Tryz.prog 27 5 = .some 25 := by kernel_rfl
@[go_sem] theorem foff_27_5 : foff Tryz.prog 27 5 = .some 6 := by kernel_rfl
@[go_sem] theorem tk_28 : tk Tryz.prog 28 = .arr 4 5 := by kernel_rfl
@[go_sem] theorem tsz_28 : tsz Tryz.prog 28 = .some 4 := by kernel_rfl
@[go_sem] theorem tby_28 : tby Tryz.prog 28 = .some 4 := by kernel_rfl
@[go_sem] theorem tz_28 : tz Tryz.prog 28 = .some [(.v (.int .u8 0)), (.v (.int .u8 0)), (.v (.int .u8 0)), (.v (.int .u8 0))] := by kernel_rfl
@[go_sem] theorem tagg_28 : tagg Tryz.prog 28 = .some true := by kernel_rfl
@[go_sem] theorem tk_29 : tk Tryz.prog 29 = .str := by kernel_rfl
@[go_sem] theorem tsz_29 : tsz Tryz.prog 29 = .some 18 := by kernel_rfl
@[go_sem] theorem tby_29 : tby Tryz.prog 29 = .some 18 := by kernel_rfl
@[go_sem] theorem tz_29 : tz Tryz.prog 29 = .some [(.v (.int .u8 0)), (.v (.int .u8 0)), (.v (.int .u8 0)), (.v (.int .u8 0)), (.v (.int .u8 0)), (.v (.int .u8 0)), (.v (.int .u8 0)), (.v (.int .u8 0)), (.v (.int .u8 0)), (.v (.int .u8 0)), (.v (.int .u8 0)), (.v (.int .u8 0)), (.v (.int .u8 0)), (.v (.int .u8 0)), (.v (.int .u8 0)), (.v (.int .u8 0)), (.v (.int .u8 0)), (.v (.int .u8 0))] := by kernel_rfl
@[go_sem] theorem tagg_29 : tagg Tryz.prog 29 = .some true := by kernel_rfl
@[go_sem] theorem tfi_29 : tfi Tryz.prog 29 = true := by kernel_rfl
@[go_sem] theorem ftyp_29_0 : ftyp Tryz.prog 29 0 = .some 25 := by kernel_rfl
@[go_sem] theorem foff_29_0 : foff Tryz.prog 29 0 = .some 0 := by kernel_rfl
@[go_sem] theorem ftyp_29_1 : ftyp Tryz.prog 29 1 = .some 25 := by kernel_rfl
@[go_sem] theorem foff_29_1 : foff Tryz.prog 29 1 = .some 6 := by kernel_rfl
@[go_sem] theorem ftyp_29_2 : ftyp Tryz.prog 29 2 = .some 28 := by kernel_rfl
@[go_sem] theorem foff_29_2 : foff Tryz.prog 29 2 = .some 12 := by kernel_rfl
@[go_sem] theorem ftyp_29_3 : ftyp Tryz.prog 29 3 = .some 5 := by kernel_rfl
@[go_sem] theorem foff_29_3 : foff Tryz.prog 29 3 = .some 16 := by kernel_rfl
@[go_sem] theorem ftyp_29_4 : ftyp Tryz.prog 29 4 = .some 5 := by kernel_rfl
@[go_sem] theorem foff_29_4 : foff Tryz.prog 29 4 = .some 17 := by kernel_rfl
@[go_sem] theorem tk_30 : tk Tryz.prog 30 = .str := by kernel_rfl
@[go_sem] theorem tsz_30 : tsz Tryz.prog 30 = .some 18 := by kernel_rfl
@[go_sem] theorem tby_30 : tby Tryz.prog 30 = .some 18 := by kernel_rfl
@[go_sem] theorem tz_30 : tz Tryz.prog 30 = .some [(.v (.int .u8 0)), (.v (.int .u8 0)), (.v (.int .u8 0)), (.v (.int .u8 0)), (.v (.int .u8 0)), (.v (.int .u8 0)), (.v (.int .u8 0)), (.v (.int .u8 0)), (.v (.int .u8 0)), (.v (.int .u8 0)), (.v (.int .u8 0)), (.v (.int .u8 0)), (.v (.int .u8 0)), (.v (.int .u8 0)), (.v (.int .u8 0)), (.v (.int .u8 0)), (.v (.int .u8 0)), (.v (.int .u8 0))] := by kernel_rfl
@[go_sem] theorem tagg_30 : tagg Tryz.prog 30 = .some true := by kernel_rfl
@[go_sem] theorem tfi_30 : tfi Tryz.prog 30 = true := by kernel_rfl
@[go_sem] theorem ftyp_30_0 : ftyp Tryz.prog 30 0 = .some 25 := by kernel_rfl
@[go_sem] theorem foff_30_0 : foff Tryz.prog 30 0 = .some 0 := by kernel_rfl
@[go_sem] theorem ftyp_30_1 : ftyp Tryz.prog 30 1 = .some 25 := by kernel_rfl
@[go_sem] theorem foff_30_1 : foff Tryz.prog 30 1 = .some 6 := by kernel_rfl
@[go_sem] theorem ftyp_30_2 : ftyp Tryz.prog 30 2 = .some 28 := by kernel_rfl
@[go_sem] theorem foff_30_2 : foff Tryz.prog 30 2 = .some 12 := by kernel_rfl
@[go_sem] theorem ftyp_30_3 : ftyp Tryz.prog 30 3 = .some 5 := by kernel_rfl
@[go_sem] theorem foff_30_3 : foff Tryz.prog 30 3 = .some 16 := by kernel_rfl
@[go_sem] theorem ftyp_30_4 : ftyp Tryz.prog 30 4 = .some 5 := by kernel_rfl
@[go_sem] theorem foff_30_4 : foff Tryz.prog 30 4 = .some 17 := by kernel_rfl
@[go_sem] theorem tk_31 : tk Tryz.prog 31 = .arr 2 30 := by kernel_rfl
@[go_sem] theorem tsz_31 : tsz Tryz.prog 31 = .some 36 := by kernel_rfl
@[go_sem] theorem tby_31 : tby Tryz.prog 31 = .some 36 := by kernel_rfl
@[go_sem] theorem tz_31 : tz Tryz.prog 31 = .some [(.v (.int .u8 0)), (.v (.int .u8 0)), (.v (.int .u8 0)), (.v (.int .u8 0)), (.v (.int .u8 0)), (.v (.int .u8 0)), (.v (.int .u8 0)), (.v (.int .u8 0)), (.v (.int .u8 0)), (.v (.int .u8 0)), (.v (.int .u8 0)), (.v (.int .u8 0)), (.v (.int .u8 0)), (.v (.int .u8 0)), (.v (.int .u8 0)), (.v (.int .u8 0)), (.v (.int .u8 0)), (.v (.int .u8 0)), (.v (.int .u8 0)), (.v (.int .u8 0)), (.v (.int .u8 0)), (.v (.int .u8 0)), (.v (.int .u8 0)), (.v (.int .u8 0)), (.v (.int .u8 0)), (.v (.int .u8 0)), (.v (.int .u8 0)), (.v (.int .u8 0)), (.v (.int .u8 0)), (.v (.int .u8 0)), (.v (.int .u8 0)), (.v (.int .u8 0)), (.v (.int .u8 0)), (.v (.int .u8 0)), (.v (.int .u8 0)), (.v (.int .u8 0))] := by kernel_rfl
@[go_sem] theorem tagg_31 : tagg Tryz.prog 31 = .some true := by kernel_rfl
@[go_sem] theorem tk_32 : tk Tryz.prog 32 = .other := by kernel_rfl
@[go_sem] theorem tsz_32 : tsz Tryz.prog 32 = .some 1 := by kernel_rfl
@[go_sem] theorem tby_32 : tby Tryz.prog 32 = .some 8 := by kernel_rfl
@[go_sem] theorem tz_32 : tz Tryz.prog 32 = .some [(.v .nilFunc)] := by kernel_rfl
@[go_sem] theorem tagg_32 : tagg Tryz.prog 32 = .some false := by kernel_rfl
@[go_sem] theorem tk_33 : tk Tryz.prog 33 = .sl 34 := by kernel_rfl
@[go_sem] theorem tsz_33 : tsz Tryz.prog 33 = .some 1 := by kernel_rfl
@[go_sem] theorem tby_33 : tby Tryz.prog 33 = .some 24 := by kernel_rfl
@[go_sem] theorem tz_33 : tz Tryz.prog 33 = .some [(.v (.slice .none 0 0))] := by kernel_rfl
@[go_sem] theorem tagg_33 : tagg Tryz.prog 33 = .some false := by kernel_rfl
@[go_sem] theorem tk_34 : tk Tryz.prog 34 = .sl 3 := by kernel_rfl
@[go_sem] theorem tsz_34 : tsz Tryz.prog 34 = .some 1 := by kernel_rfl
@[go_sem] theorem tby_34 : tby Tryz.prog 34 = .some 24 := by kernel_rfl
@[go_sem] theorem tz_34 : tz Tryz.prog 34 = .some [(.v (.slice .none 0 0))] := by kernel_rfl
@[go_sem] theorem tagg_34 : tagg Tryz.prog 34 = .some false := by kernel_rfl
@[go_sem] theorem tk_35 : tk Tryz.prog 35 = .str := by kernel_rfl
@[go_sem] theorem tsz_35 : tsz Tryz.prog 35 = .some 3 := by kernel_rfl
@[go_sem] theorem tby_35 : tby Tryz.prog 35 = .some 56 := by kernel_rfl
@[go_sem] theorem tz_35 : tz Tryz.prog 35 = .some [(.v (.int .i64 0)), (.v (.slice .none 0 0)), (.v (.slice .none 0 0))] := by kernel_rfl
@[go_sem] theorem tagg_35 : tagg Tryz.prog 35 = .some true := by kernel_rfl
@[go_sem] theorem tfi_35 : tfi Tryz.prog 35 = true := by kernel_rfl
@[go_sem] theorem ftyp_35_0 : ftyp Tryz.prog 35 0 = .some 3 := by kernel_rfl
@[go_sem] theorem foff_35_0 : foff Tryz.prog 35 0 = .some 0 := by kernel_rfl
@[go_sem] theorem ftyp_35_1 : ftyp Tryz.prog 35 1 = .some 33 := by kernel_rfl
@[go_sem] theorem foff_35_1 : foff Tryz.prog 35 1 = .some 1 := by kernel_rfl
@[go_sem] theorem ftyp_35_2 : ftyp Tryz.prog 35 2 = .some 34 := by kernel_rfl
@[go_sem] theorem foff_35_2 : foff Tryz.prog 35 2 = .some 2 := by kernel_rfl
@[go_sem] theorem tk_36 : tk Tryz.prog 36 = .str := by kernel_rfl
@[go_sem] theorem tsz_36 : tsz Tryz.prog 36 = .some 3 := by kernel_rfl
@[go_sem] theorem tby_36 : tby Tryz.prog 36 = .some 56 := by kernel_rfl
@[go_sem] theorem tz_36 : tz Tryz.prog 36 = .some [(.v (.int .i64 0)), (.v (.slice .none 0 0)), (.v (.slice .none 0 0))] := by kernel_rfl
@[go_sem] theorem tagg_36 : tagg Tryz.prog 36 = .some true := by kernel_rfl
@[go_sem] theorem tfi_36 : tfi Tryz.prog 36 = true := by kernel_rfl
@[go_sem] theorem ftyp_36_0 : ftyp Tryz.prog 36 0 = .some 3 := by kernel_rfl
@[go_sem] theorem foff_36_0 : foff Tryz.prog 36 0 = .some 0 := by kernel_rfl
@[go_sem] theorem ftyp_36_1 : ftyp Tryz.prog 36 1 = .some 33 := by kernel_rfl
@[go_sem] theorem foff_36_1 : foff Tryz.prog 36 1 = .some 1 := by kernel_rfl
@[go_sem] theorem ftyp_36_2 : ftyp Tryz.prog 36 2 = .some 34 := by kernel_rfl
@[go_sem] theorem foff_36_2 : foff Tryz.prog 36 2 = .some 2 := by kernel_rfl
@[go_sem] theorem tk_37 : tk Tryz.prog 37 = .sl 71 := by kernel_rfl
@[go_sem] theorem tsz_37 : tsz Tryz.prog 37 = .some 1 := by kernel_rfl
@[go_sem] theorem tby_37 : tby Tryz.prog 37 = .some 24 := by kernel_rfl
@[go_sem] theorem tz_37 : tz Tryz.prog 37 = .some [(.v (.slice .none 0 0))] := by kernel_rfl
@[go_sem] theorem tagg_37 : tagg Tryz.prog 37 = .some false := by kernel_rfl
@[go_sem] theorem tk_38 : tk Tryz.prog 38 = .sl 77 := by kernel_rfl
@[go_sem] theorem tsz_38 : tsz Tryz.prog 38 = .some 1 := by kernel_rfl
@[go_sem] theorem tby_38 : tby Tryz.prog 38 = .some 24 := by kernel_rfl
@[go_sem] theorem tz_38 : tz Tryz.prog 38 = .some [(.v (.slice .none 0 0))] := by kernel_rfl
@[go_sem] theorem tagg_38 : tagg Tryz.prog 38 = .some false := by kernel_rfl
@[go_sem] theorem tk_39 : tk Tryz.prog 39 = .str := by kernel_rfl
@[go_sem] theorem tsz_39 : tsz Tryz.prog 39 = .some 9 := by kernel_rfl
@[go_sem] theorem tby_39 : tby Tryz.prog 39 = .some 136 := by kernel_rfl
@[go_sem] theorem tz_39 : tz Tryz.prog 39 = .some [(.v (.int .i64 0)), (.v (.slice .none 0 0)), (.v (.slice .none 0 0)), (.v (.slice .none 0 0)), (.v (.int .i64 0)), (.v (.bool false)), (.v (.slice .none 0 0)), (.v (.int .i64 0)), (.v (.int .i64 0))] := by kernel_rfl
@[go_sem] theorem tagg_39 : tagg Tryz.prog 39 = .some true := by kernel_rfl
@[go_sem] theorem tfi_39 : tfi Tryz.prog 39 = true := by kernel_rfl
@[go_sem] theorem ftyp_39_0 : ftyp Tryz.prog 39 0 = .some 36 := by kernel_rfl
@[go_sem] theorem foff_39_0 : foff Tryz.prog 39 0 = .some 0 := by kernel_rfl
@[go_sem] theorem ftyp_39_1 : ftyp Tryz.prog 39 1 = .some 37 := by kernel_rfl
@[go_sem] theorem foff_39_1 : foff Tryz.prog 39 1 = .some 3 := by kernel_rfl
@[go_sem] theorem ftyp_39_2 : ftyp Tryz.prog 39 2 = .some 3 := by kernel_rfl
@[go_sem] theorem foff_39_2 : foff Tryz.prog 39 2 = .some 4 := by kernel_rfl
@[go_sem] theorem ftyp_39_3 : ftyp Tryz.prog 39 3 = .some 4 := by kernel_rfl
@[go_sem] theorem foff_39_3 : foff Tryz.prog 39 3 = .some 5 := by kernel_rfl
@[go_sem] theorem ftyp_39_4 : ftyp Tryz.prog 39 4 = .some 38 := by kernel_rfl
@[go_sem] theorem foff_39_4 : foff Tryz.prog 39 4 = .some 6 := by kernel_rfl
@[go_sem] theorem ftyp_39_5 : ftyp Tryz.prog 39 5 = .some 3 := by kernel_rfl
@[go_sem] theorem foff_39_5 : foff Tryz.prog 39 5 = .some 7 := by kernel_rfl
@[go_sem] theorem ftyp_39_6 : ftyp Tryz.prog 39 6 = .some 3 := by kernel_rfl
@[go_sem] theorem foff_39_6 : foff Tryz.prog 39 6 = .some 8 := by kernel_rfl
@[go_sem] theorem tk_40 : tk Tryz.prog 40 = .str := by kernel_rfl
@[go_sem] theorem tsz_40 : tsz Tryz.prog 40 = .some 9 := by kernel_rfl
@[go_sem] theorem tby_40 : tby Tryz.prog 40 = .some 136 := by kernel_rfl
@[go_sem] theorem tz_40 : tz Tryz.prog 40 = .some [(.v (.int .i64 0)), (.v (.slice .none 0 0)), (.v (.slice .none 0 0)), (.v (.slice .none 0 0)), (.v (.int .i64 0)), (.v (.bool false)), (.v (.slice .none 0 0)), (.v (.int .i64 0)), (.v (.int .i64 0))] := by kernel_rfl
@[go_sem] theorem tagg_40 : tagg Tryz.prog 40 = .some true := by kernel_rfl
@[go_sem] theorem tfi_40 : tfi Tryz.prog 40 = true := by kernel_rfl
@[go_sem] theorem ftyp_40_0 : ftyp Tryz.prog 40 0 = .some 36 := by kernel_rfl
@[go_sem] theorem foff_40_0 : foff Tryz.prog 40 0 = .some 0 := by kernel_rfl
@[go_sem] theorem ftyp_40_1 : ftyp Tryz.prog 40 1 = .some 37 := by kernel_rfl
@[go_sem] theorem foff_40_1 : foff Tryz.prog 40 1 = .some 3 := by kernel_rfl
@[go_sem] theorem ftyp_40_2 : ftyp Tryz.prog 40 2 = .some 3 := by kernel_rfl
@[go_sem] theorem foff_40_2 : foff Tryz.prog 40 2 = .some 4 := by kernel_rfl
@[go_sem] theorem ftyp_40_3 : ftyp Tryz.prog 40 3 = .some 4 := by kernel_rfl
@[go_sem] theorem foff_40_3 : foff Tryz.prog 40 3 = .some 5 := by kernel_rfl
@[go_sem] theorem ftyp_40_4 : ftyp Tryz.prog 40 4 = .some 38 := by kernel_rfl
@[go_sem] theorem foff_40_4 : foff Tryz.prog 40 4 = .some 6 := by kernel_rfl
@[go_sem] theorem ftyp_40_5 : ftyp Tryz.prog 40 5 = .some 3 := by kernel_rfl
@[go_sem] theorem foff_40_5 : foff Tryz.prog 40 5 = .some 7 := by kernel_rfl
@[go_sem] theorem ftyp_40_6 : ftyp Tryz.prog 40 6 = .some 3 := by kernel_rfl
@[go_sem] theorem foff_40_6 : foff Tryz.prog 40 6 = .some 8 := by kernel_rfl
@[go_sem] theorem tk_41 : tk Tryz.prog 41 = .other := by kernel_rfl
@[go_sem] theorem tsz_41 : tsz Tryz.prog 41 = .some 1 := by kernel_rfl
@[go_sem] theorem tby_41 : tby Tryz.prog 41 = .some 8 := by kernel_rfl
@[go_sem] theorem tz_41 : tz Tryz.prog 41 = .some [(.v .nilFunc)] := by kernel_rfl
@[go_sem] theorem tagg_41 : tagg Tryz.prog 41 = .some false := by kernel_rfl
@[go_sem] theorem tk_42 : tk Tryz.prog 42 = .other := by kernel_rfl
@[go_sem] theorem tsz_42 : tsz Tryz.prog 42 = .some 1 := by kernel_rfl
@[go_sem] theorem tby_42 : tby Tryz.prog 42 = .some 8 := by kernel_rfl
@[go_sem] theorem tz_42 : tz Tryz.prog 42 = .some [(.v .nilFunc)] := by kernel_rfl
@[go_sem] theorem tagg_42 : tagg Tryz.prog 42 = .some false := by kernel_rfl
@[go_sem] theorem tk_43 : tk Tryz.prog 43 = .other := by kernel_rfl
@[go_sem] theorem tsz_43 : tsz Tryz.prog 43 = .some 1 := by kernel_rfl
@[go_sem] theorem tby_43 : tby Tryz.prog 43 = .some 8 := by kernel_rfl
@[go_sem] theorem tz_43 : tz Tryz.prog 43 = .some [(.v .nilFunc)] := by kernel_rfl
@[go_sem] theorem tagg_43 : tagg Tryz.prog 43 = .some false := by kernel_rfl
@[go_sem] theorem tk_44 : tk Tryz.prog 44 = .other := by kernel_rfl
@[go_sem] theorem tsz_44 : tsz Tryz.prog 44 = .some 1 := by kernel_rfl
@[go_sem] theorem tby_44 : tby Tryz.prog 44 = .some 8 := by kernel_rfl
@[go_sem] theorem tz_44 : tz Tryz.prog 44 = .some [(.v .nilFunc)] := by kernel_rfl
@[go_sem] theorem tagg_44 : tagg Tryz.prog 44 = .some false := by kernel_rfl
@[go_sem] theorem tk_45 : tk Tryz.prog 45 = .arr 2 34 := by kernel_rfl
@[go_sem] theorem tsz_45 : tsz Tryz.prog 45 = .some 2 := by kernel_rfl
@[go_sem] theorem tby_45 : tby Tryz.prog 45 = .some 48 := by kernel_rfl
@[go_sem] theorem tz_45 : tz Tryz.prog 45 = .some [(.v (.slice .none 0 0)), (.v (.slice .none 0 0))] := by kernel_rfl
@[go_sem] theorem tagg_45 : tagg Tryz.prog 45 = .some true := by kernel_rfl
@[go_sem] theorem tk_46 : tk Tryz.prog 46 = .str := by kernel_rfl
@[go_sem] theorem tsz_46 : tsz Tryz.prog 46 = .some 5 := by kernel_rfl
@[go_sem] theorem tby_46 : tby Tryz.prog 46 = .some 88 := by kernel_rfl
@[go_sem] theorem tz_46 : tz Tryz.prog 46 = .some [(.v (.slice .none 0 0)), (.v (.slice .none 0 0)), (.v (.slice .none 0 0)), (.v (.int .i64 0)), (.v (.int .i64 0))] := by kernel_rfl
@[go_sem] theorem tagg_46 : tagg Tryz.prog 46 = .some true := by kernel_rfl
@[go_sem] theorem tfi_46 : tfi Tryz.prog 46 = true := by kernel_rfl
@[go_sem] theorem ftyp_46_0 : ftyp Tryz.prog 46 0 = .some 34 := by kernel_rfl
@[go_sem] theorem foff_46_0 : foff Tryz.prog 46 0 = .some 0 := by kernel_rfl
@[go_sem] theorem ftyp_46_1 : ftyp Tryz.prog 46 1 = .some 45 := by kernel_rfl
@[go_sem] theorem foff_46_1 : foff Tryz.prog 46 1 = .some 1 := by kernel_rfl
@[go_sem] theorem ftyp_46_2 : ftyp Tryz.prog 46 2 = .some 3 := by kernel_rfl
@[go_sem] theorem foff_46_2 : foff Tryz.prog 46 2 = .some 3 := by kernel_rfl
@[go_sem] theorem ftyp_46_3 : ftyp Tryz.prog 46 3 = .some 3 := by kernel_rfl
@[go_sem] theorem foff_46_3 : foff Tryz.prog 46 3 = .some 4 := by kernel_rfl
@[go_sem] theorem tk_47 : tk Tryz.prog 47 = .str := by kernel_rfl
@[go_sem] theorem tsz_47 : tsz Tryz.prog 47 = .some 5 := by kernel_rfl
@[go_sem] theorem tby_47 : tby Tryz.prog 47 = .some 88 := by kernel_rfl
@[go_sem] theorem tz_47 : tz Tryz.prog 47 = .some [(.v (.slice .none 0 0)), (.v (.slice .none 0 0)), (.v (.slice .none 0 0)), (.v (.int .i64 0)), (.v (.int .i64 0))] := by kernel_rfl
@[go_sem] theorem tagg_47 : tagg Tryz.prog 47 = .some true := by kernel_rfl
@[go_sem] theorem tfi_47 : tfi Tryz.prog 47 = true := by kernel_rfl
@[go_sem] theorem ftyp_47_0 : ftyp Tryz.prog 47 0 = .some 34 := by kernel_rfl
@[go_sem] theorem foff_47_0 : foff Tryz.prog 47 0 = .some 0 := by kernel_rfl
@[go_sem] theorem ftyp_47_1 : ftyp Tryz.prog 47 1 = .some 45 := by kernel_rfl
@[go_sem] theorem foff_47_1 : foff Tryz.prog 47 1 = .some 1 := by kernel_rfl
@[go_sem] theorem ftyp_47_2 : ftyp Tryz.prog 47 2 = .some 3 := by kernel_rfl
@[go_sem] theorem foff_47_2 : foff Tryz.prog 47 2 = .some 3 := by kernel_rfl
@[go_sem] theorem ftyp_47_3 : ftyp Tryz.prog 47 3 = .some 3 := by kernel_rfl
@[go_sem] theorem foff_47_3 : foff Tryz.prog 47 3 = .some 4 := by kernel_rfl
@[go_sem] theorem tk_48 : tk Tryz.prog 48 = .other := by kernel_rfl
@[go_sem] theorem tsz_48 : tsz Tryz.prog 48 = .some 1 := by kernel_rfl
@[go_sem] theorem tby_48 : tby Tryz.prog 48 = .some 8 := by kernel_rfl
@[go_sem] theorem tz_48 : tz Tryz.prog 48 = .some [(.v .nilFunc)] := by kernel_rfl
@[go_sem] theorem tagg_48 : tagg Tryz.prog 48 = .some false := by kernel_rfl
@[go_sem] theorem tk_49 : tk Tryz.prog 49 = .sl 47 := by kernel_rfl
@[go_sem] theorem tsz_49 : tsz Tryz.prog 49 = .some 1 := by kernel_rfl
@[go_sem] theorem tby_49 : tby Tryz.prog 49 = .some 24 := by kernel_rfl
@[go_sem] theorem tz_49 : tz Tryz.prog 49 = .some [(.v (.slice .none 0 0))] := by kernel_rfl
@[go_sem] theorem tagg_49 : tagg Tryz.prog 49 = .some false := by kernel_rfl
@[go_sem] theorem tk_50 : tk Tryz.prog 50 = .int .i64 := by kernel_rfl
@[go_sem] theorem tsz_50 : tsz Tryz.prog 50 = .some 1 := by kernel_rfl
@[go_sem] theorem tby_50 : tby Tryz.prog 50 = .some 8 := by kernel_rfl
@[go_sem] theorem tz_50 : tz Tryz.prog 50 = .some [(.v (.int .i64 0))] := by kernel_rfl
@[go_sem] theorem tagg_50 : tagg Tryz.prog 50 = .some false := by kernel_rfl
@[go_sem] theorem tk_51 : tk Tryz.prog 51 = .other := by kernel_rfl
@[go_sem] theorem tsz_51 : tsz Tryz.prog 51 = .some 1 := by kernel_rfl
@[go_sem] theorem tby_51 : tby Tryz.prog 51 = .some 0 := by kernel_rfl
@[go_sem] theorem tagg_51 : tagg Tryz.prog 51 = .some false := by kernel_rfl
@[go_sem] theorem tk_52 : tk Tryz.prog 52 = .other := by kernel_rfl
@[go_sem] theorem tsz_52 : tsz Tryz.prog 52 = .some 1 := by kernel_rfl
@[go_sem] theorem tby_52 : tby Tryz.prog 52 = .some 8 := by kernel_rfl
@[go_sem] theorem tz_52 : tz Tryz.prog 52 = .some [(.v .nilFunc)] := by kernel_rfl
@[go_sem] theorem tagg_52 : tagg Tryz.prog 52 = .some false := by kernel_rfl
@[go_sem] theorem tk_53 : tk Tryz.prog 53 = .other := by kernel_rfl
@[go_sem] theorem tsz_53 : tsz Tryz.prog 53 = .some 1 := by kernel_rfl
@[go_sem] theorem tby_53 : tby Tryz.prog 53 = .some 0 := by kernel_rfl
@[go_sem] theorem tagg_53 : tagg Tryz.prog 53 = .some false := by kernel_rfl
@[go_sem] theorem tk_54 : tk Tryz.prog 54 = .other := by kernel_rfl
@[go_sem] theorem tsz_54 : tsz Tryz.prog 54 = .some 1 := by kernel_rfl
@[go_sem] theorem tby_54 : tby Tryz.prog 54 = .some 8 := by kernel_rfl
@[go_sem] theorem tz_54 : tz Tryz.prog 54 = .some [(.v .nilFunc)] := by kernel_rfl
@[go_sem] theorem tagg_54 : tagg Tryz.prog 54 = .some false := by kernel_rfl
@[go_sem] theorem tk_55 : tk Tryz.prog 55 = .other := by kernel_rfl
@[go_sem] theorem tsz_55 : tsz Tryz.prog 55 = .some 1 := by kernel_rfl
@[go_sem] theorem tby_55 : tby Tryz.prog 55 = .some 8 := by kernel_rfl
@[go_sem] theorem tz_55 : tz Tryz.prog 55 = .some [(.v .nilFunc)] := by kernel_rfl
@[go_sem] theorem tagg_55 : tagg Tryz.prog 55 = .some false := by kernel_rfl
@[go_sem] theorem tk_56 : tk Tryz.prog 56 = .other := by kernel_rfl
@[go_sem] theorem tsz_56 : tsz Tryz.prog 56 = .some 1 := by kernel_rfl
@[go_sem] theorem tby_56 : tby Tryz.prog 56 = .some 8 := by kernel_rfl
@[go_sem] theorem tz_56 : tz Tryz.prog 56 = .some [(.v .nilFunc)] := by kernel_rfl
@[go_sem] theorem tagg_56 : tagg Tryz.prog 56 = .some false := by kernel_rfl
@[go_sem] theorem tk_57 : tk Tryz.prog 57 = .other := by kernel_rfl
@[go_sem] theorem tsz_57 : tsz Tryz.prog 57 = .some 1 := by kernel_rfl
@[go_sem] theorem tby_57 : tby Tryz.prog 57 = .some 8 := by kernel_rfl
@[go_sem] theorem tz_57 : tz Tryz.prog 57 = .some [(.v .nilFunc)] := by kernel_rfl
@[go_sem] theorem tagg_57 : tagg Tryz.prog 57 = .some false := by kernel_rfl
@[go_sem] theorem tk_58 : tk Tryz.prog 58 = .sl 49 := by kernel_rfl
@[go_sem] theorem tsz_58 : tsz Tryz.prog 58 = .some 1 := by kernel_rfl
@[go_sem] theorem tby_58 : tby Tryz.prog 58 = .some 24 := by kernel_rfl
@[go_sem] theorem tz_58 : tz Tryz.prog 58 = .some [(.v (.slice .none 0 0))] := by kernel_rfl
@[go_sem] theorem tagg_58 : tagg Tryz.prog 58 = .some false := by kernel_rfl
@[go_sem] theorem tk_59 : tk Tryz.prog 59 = .other := by kernel_rfl
@[go_sem] theorem tsz_59 : tsz Tryz.prog 59 = .some 1 := by kernel_rfl
@[go_sem] theorem tby_59 : tby Tryz.prog 59 = .some 0 := by kernel_rfl
@[go_sem] theorem tagg_59 : tagg Tryz.prog 59 = .some false := by kernel_rfl
@[go_sem] theorem tk_60 : tk Tryz.prog 60 = .other := by kernel_rfl
@[go_sem] theorem tsz_60 : tsz Tryz.prog 60 = .some 1 := by kernel_rfl
@[go_sem] theorem tby_60 : tby Tryz.prog 60 = .some 8 := by kernel_rfl
@[go_sem] theorem tz_60 : tz Tryz.prog 60 = .some [(.v .nilFunc)] := by kernel_rfl
@[go_sem] theorem tagg_60 : tagg Tryz.prog 60 = .some false := by kernel_rfl
@[go_sem] theorem tk_61 : tk Tryz.prog 61 = .other := by kernel_rfl
@[go_sem] theorem tsz_61 : tsz Tryz.prog 61 = .some 1 := by kernel_rfl
@[go_sem] theorem tby_61 : tby Tryz.prog 61 = .some 0 := by kernel_rfl
@[go_sem] theorem tagg_61 : tagg Tryz.prog 61 = .some false := by kernel_rfl
@[go_sem] theorem tk_62 : tk Tryz.prog 62 = .other := by kernel_rfl
@[go_sem] theorem tsz_62 : tsz Tryz.prog 62 = .some 1 := by kernel_rfl
@[go_sem] theorem tby_62 : tby Tryz.prog 62 = .some 8 := by kernel_rfl
@[go_sem] theorem tz_62 : tz Tryz.prog 62 = .some [(.v .nilFunc)] := by kernel_rfl
@[go_sem] theorem tagg_62 : tagg Tryz.prog 62 = .some false := by kernel_rfl
@[go_sem] theorem tk_63 : tk Tryz.prog 63 = .other := by kernel_rfl
@[go_sem] theorem tsz_63 : tsz Tryz.prog 63 = .some 1 := by kernel_rfl
@[go_sem] theorem tby_63 : tby Tryz.prog 63 = .some 8 := by kernel_rfl
@[go_sem] theorem tz_63 : tz Tryz.prog 63 = .some [(.v .nilFunc)] := by kernel_rfl
@[go_sem] theorem tagg_63 : tagg Tryz.prog 63 = .some false := by kernel_rfl
@[go_sem] theorem tk_64 : tk Tryz.prog 64 = .other := by kernel_rfl
@[go_sem] theorem tsz_64 : tsz Tryz.prog 64 = .some 1 := by kernel_rfl
@[go_sem] theorem tby_64 : tby Tryz.prog 64 = .some 8 := by kernel_rfl
@[go_sem] theorem tz_64 : tz Tryz.prog 64 = .some [(.v .nilFunc)] := by kernel_rfl
@[go_sem] theorem tagg_64 : tagg Tryz.prog 64 = .some false := by kernel_rfl
@[go_sem] theorem tk_65 : tk Tryz.prog 65 = .str := by kernel_rfl
@[go_sem] theorem tsz_65 : tsz Tryz.prog 65 = .some 2 := by kernel_rfl
@[go_sem] theorem tby_65 : tby Tryz.prog 65 = .some 16 := by kernel_rfl
@[go_sem] theorem tz_65 : tz Tryz.prog 65 = .some [(.v (.int .i64 0)), (.v (.int .i64 0))] := by kernel_rfl
@[go_sem] theorem tagg_65 : tagg Tryz.prog 65 = .some true := by kernel_rfl
@[go_sem] theorem tfi_65 : tfi Tryz.prog 65 = true := by kernel_rfl
@[go_sem] theorem tflat_65 : tflat Tryz.prog 65 = .some 2 := by kernel_rfl
@[go_sem] theorem ftyp_65_0 : ftyp Tryz.prog 65 0 = .some 3 := by kernel_rfl
@[go_sem] theorem foff_65_0 : foff Tryz.prog 65 0 = .some 0 := by kernel_rfl
@[go_sem] theorem ftyp_65_1 : ftyp Tryz.prog 65 1 = .some 3 := by kernel_rfl
@[go_sem] theorem foff_65_1 : foff Tryz.prog 65 1 = .some 1 := by kernel_rfl
@[go_sem] theorem tk_66 : tk Tryz.prog 66 = .str := by kernel_rfl
@[go_sem] theorem tsz_66 : tsz Tryz.prog 66 = .some 2 := by kernel_rfl
@[go_sem] theorem tby_66 : tby Tryz.prog 66 = .some 16 := by kernel_rfl
@[go_sem] theorem tz_66 : tz Tryz.prog 66 = .some [(.v (.int .i64 0)), (.v (.int .i64 0))] := by kernel_rfl
@[go_sem] theorem tagg_66 : tagg Tryz.prog 66 = .some true := by kernel_rfl
@[go_sem] theorem tfi_66 : tfi Tryz.prog 66 = true := by kernel_rfl
@[go_sem] theorem tflat_66 : tflat Tryz.prog 66 = .some 2 := by kernel_rfl
@[go_sem] theorem ftyp_66_0 : ftyp Tryz.prog 66 0 = .some 3 := by kernel_rfl
@[go_sem] theorem foff_66_0 : foff Tryz.prog 66 0 = .some 0 := by kernel_rfl
@[go_sem] theorem ftyp_66_1 : ftyp Tryz.prog 66 1 = .some 3 := by kernel_rfl
@[go_sem] theorem foff_66_1 : foff Tryz.prog 66 1 = .some 1 := by kernel_rfl
@[go_sem] theorem tk_67 : tk Tryz.prog 67 = .sl 66 := by kernel_rfl
@[go_sem] theorem tsz_67 : tsz Tryz.prog 67 = .some 1 := by kernel_rfl
@[go_sem] theorem tby_67 : tby Tryz.prog 67 = .some 24 := by kernel_rfl
@[go_sem] theorem tz_67 : tz Tryz.prog 67 = .some [(.v (.slice .none 0 0))] := by kernel_rfl
@[go_sem] theorem tagg_67 : tagg Tryz.prog 67 = .some false := by kernel_rfl
@[go_sem] theorem tk_68 : tk Tryz.prog 68 = .sl 66 := by kernel_rfl
@[go_sem] theorem tsz_68 : tsz Tryz.prog 68 = .some 1 := by kernel_rfl
@[go_sem] theorem tby_68 : tby Tryz.prog 68 = .some 24 := by kernel_rfl
@[go_sem] theorem tz_68 : tz Tryz.prog 68 = .some [(.v (.slice .none 0 0))] := by kernel_rfl
@[go_sem] theorem tagg_68 : tagg Tryz.prog 68 = .some false := by kernel_rfl
@[go_sem] theorem tk_69 : tk Tryz.prog 69 = .sl 68 := by kernel_rfl
@[go_sem] theorem tsz_69 : tsz Tryz.prog 69 = .some 1 := by kernel_rfl
@[go_sem] theorem tby_69 : tby Tryz.prog 69 = .some 24 := by kernel_rfl
@[go_sem] theorem tz_69 : tz Tryz.prog 69 = .some [(.v (.slice .none 0 0))] := by kernel_rfl
@[go_sem] theorem tagg_69 : tagg Tryz.prog 69 = .some false := by kernel_rfl
@[go_sem] theorem tk_70 : tk Tryz.prog 70 = .str := by kernel_rfl
@[go_sem] theorem tsz_70 : tsz Tryz.prog 70 = .some 3 := by kernel_rfl
@[go_sem] theorem tby_70 : tby Tryz.prog 70 = .some 48 := by kernel_rfl
@[go_sem] theorem tz_70 : tz Tryz.prog 70 = .some [(.v (.string ⟨⟨[]⟩⟩)), (.v (.slice .none 0 0)), (.v (.bool false))] := by kernel_rfl
@[go_sem] theorem tagg_70 : tagg Tryz.prog 70 = .some true := by kernel_rfl
@[go_sem] theorem tfi_70 : tfi Tryz.prog 70 = true := by kernel_rfl
@[go_sem] theorem ftyp_70_0 : ftyp Tryz.prog 70 0 = .some 9 := by kernel_rfl
@[go_sem] theorem foff_70_0 : foff Tryz.prog 70 0 = .some 0 := by kernel_rfl
@[go_sem] theorem ftyp_70_1 : ftyp Tryz.prog 70 1 = .some 69 := by kernel_rfl
@[go_sem] theorem foff_70_1 : foff Tryz.prog 70 1 = .some 1 := by kernel_rfl
@[go_sem] theorem ftyp_70_2 : ftyp Tryz.prog 70 2 = .some 4 := by kernel_rfl
@[go_sem] theorem foff_70_2 : foff Tryz.prog 70 2 = .some 2 := by kernel_rfl
@[go_sem] theorem tk_71 : tk Tryz.prog 71 = .str := by kernel_rfl
@[go_sem] theorem tsz_71 : tsz Tryz.prog 71 = .some 3 := by kernel_rfl
@[go_sem] theorem tby_71 : tby Tryz.prog 71 = .some 48 := by kernel_rfl
@[go_sem] theorem tz_71 : tz Tryz.prog 71 = .some [(.v (.string ⟨⟨[]⟩⟩)), (.v (.slice .none 0 0)), (.v (.bool false))] := by kernel_rfl
@[go_sem] theorem tagg_71 : tagg Tryz.prog 71 = .some true := by kernel_rfl
@[go_sem] theorem tfi_71 : tfi Tryz.prog 71 = true := by kernel_rfl
@[go_sem] theorem ftyp_71_0 : ftyp Tryz.prog 71 0 = .some 9 := by kernel_rfl
@[go_sem] theorem foff_71_0 : foff Tryz.prog 71 0 = .some 0 := by kernel_rfl
@[go_sem] theorem ftyp_71_1 : ftyp Tryz.prog 71 1 = .some 69 := by kernel_rfl
@[go_sem] theorem foff_71_1 : foff Tryz.prog 71 1 = .some 1 := by kernel_rfl
@[go_sem] theorem ftyp_71_2 : ftyp Tryz.prog 71 2 = .some 4 := by kernel_rfl
@[go_sem] theorem foff_71_2 : foff Tryz.prog 71 2 = .some 2 := by kernel_rfl
@[go_sem] theorem tk_72 : tk Tryz.prog 72 = .other := by kernel_rfl
@[go_sem] theorem tsz_72 : tsz Tryz.prog 72 = .some 1 := by kernel_rfl
@[go_sem] theorem tby_72 : tby Tryz.prog 72 = .some 8 := by kernel_rfl
@[go_sem] theorem tz_72 : tz Tryz.prog 72 = .some [(.v .nilFunc)] := by kernel_rfl
@[go_sem] theorem tagg_72 : tagg Tryz.prog 72 = .some false := by kernel_rfl
@[go_sem] theorem tk_73 : tk Tryz.prog 73 = .sl 9 := by kernel_rfl
@[go_sem] theorem tsz_73 : tsz Tryz.prog 73 = .some 1 := by kernel_rfl
@[go_sem] theorem tby_73 : tby Tryz.prog 73 = .some 24 := by kernel_rfl
@[go_sem] theorem tz_73 : tz Tryz.prog 73 = .some [(.v (.slice .none 0 0))] := by kernel_rfl
@[go_sem] theorem tagg_73 : tagg Tryz.prog 73 = .some false := by kernel_rfl
@[go_sem] theorem tk_74 : tk Tryz.prog 74 = .other := by kernel_rfl
@[go_sem] theorem tsz_74 : tsz Tryz.prog 74 = .some 1 := by kernel_rfl
@[go_sem] theorem tby_74 : tby Tryz.prog 74 = .some 8 := by kernel_rfl
@[go_sem] theorem tz_74 : tz Tryz.prog 74 = .some [(.v .nilFunc)] := by kernel_rfl
@[go_sem] theorem tagg_74 : tagg Tryz.prog 74 = .some false := by kernel_rfl
@[go_sem] theorem tk_75 : tk Tryz.prog 75 = .arr 3 5 := by kernel_rfl
@[go_sem] theorem tsz_75 : tsz Tryz.prog 75 = .some 3 := by kernel_rfl
@[go_sem] theorem tby_75 : tby Tryz.prog 75 = .some 3 := by kernel_rfl
@[go_sem] theorem tz_75 : tz Tryz.prog 75 = .some [(.v (.int .u8 0)), (.v (.int .u8 0)), (.v (.int .u8 0))] := by kernel_rfl
@[go_sem] theorem tagg_75 : tagg Tryz.prog 75 = .some true := by kernel_rfl
@[go_sem] theorem tk_76 : tk Tryz.prog 76 = .str := by kernel_rfl
@[go_sem] theorem tsz_76 : tsz Tryz.prog 76 = .some 4 := by kernel_rfl
@[go_sem] theorem tby_76 : tby Tryz.prog 76 = .some 32 := by kernel_rfl
@[go_sem] theorem tz_76 : tz Tryz.prog 76 = .some [(.v (.int .i64 0)), (.v (.int .i64 0)), (.v (.int .i64 0)), (.v (.int .i64 0))] := by kernel_rfl
@[go_sem] theorem tagg_76 : tagg Tryz.prog 76 = .some true := by kernel_rfl
@[go_sem] theorem tfi_76 : tfi Tryz.prog 76 = true := by kernel_rfl
@[go_sem] theorem tflat_76 : tflat Tryz.prog 76 = .some 4 := by kernel_rfl
@[go_sem] theorem ftyp_76_0 : ftyp Tryz.prog 76 0 = .some 3 := by kernel_rfl
@[go_sem] theorem foff_76_0 : foff Tryz.prog 76 0 = .some 0 := by kernel_rfl
@[go_sem] theorem ftyp_76_1 : ftyp Tryz.prog 76 1 = .some 3 := by kernel_rfl
@[go_sem] theorem foff_76_1 : foff Tryz.prog 76 1 = .some 1 := by kernel_rfl
@[go_sem] theorem ftyp_76_2 : ftyp Tryz.prog 76 2 = .some 3 := by kernel_rfl
@[go_sem] theorem foff_76_2 : foff Tryz.prog 76 2 = .some 2 := by kernel_rfl
@[go_sem] theorem ftyp_76_3 : ftyp Tryz.prog 76 3 = .some 3 := by kernel_rfl
@[go_sem] theorem foff_76_3 : foff Tryz.prog 76 3 = .some 3 := by kernel_rfl
@[go_sem] theorem tk_77 : tk Tryz.prog 77 = .str := by kernel_rfl
@[go_sem] theorem tsz_77 : tsz Tryz.prog 77 = .some 4 := by kernel_rfl
@[go_sem] theorem tby_77 : tby Tryz.prog 77 = .some 32 := by kernel_rfl
@[go_sem] theorem tz_77 : tz Tryz.prog 77 = .some [(.v (.int .i64 0)), (.v (.int .i64 0)), (.v (.int .i64 0)), (.v (.int .i64 0))] := by kernel_rfl
@[go_sem] theorem tagg_77 : tagg Tryz.prog 77 = .some true := by kernel_rfl
@[go_sem] theorem tfi_77 : tfi Tryz.prog 77 = true := by kernel_rfl
@[go_sem] theorem tflat_77 : tflat Tryz.prog 77 = .some 4 := by kernel_rfl
@[go_sem] theorem ftyp_77_0 : ftyp Tryz.prog 77 0 = .some 3 := by kernel_rfl
@[go_sem] theorem foff_77_0 : foff Tryz.prog 77 0 = .some 0 := by kernel_rfl
@[go_sem] theorem ftyp_77_1 : ftyp Tryz.prog 77 1 = .some 3 := by kernel_rfl
@[go_sem] theorem foff_77_1 : foff Tryz.prog 77 1 = .some 1 := by kernel_rfl
@[go_sem] theorem ftyp_77_2 : ftyp Tryz.prog 77 2 = .some 3 := by kernel_rfl
@[go_sem] theorem foff_77_2 : foff Tryz.prog 77 2 = .some 2 := by kernel_rfl
@[go_sem] theorem ftyp_77_3 : ftyp Tryz.prog 77 3 = .some 3 := by kernel_rfl
@[go_sem] theorem foff_77_3 : foff Tryz.prog 77 3 = .some 3 := by kernel_rfl
@[go_sem] theorem tk_78 : tk Tryz.prog 78 = .other := by kernel_rfl
@[go_sem] theorem tsz_78 : tsz Tryz.prog 78 = .some 1 := by kernel_rfl
@[go_sem] theorem tby_78 : tby Tryz.prog 78 = .some 8 := by kernel_rfl
@[go_sem] theorem tz_78 : tz Tryz.prog 78 = .some [(.v .nilFunc)] := by kernel_rfl
@[go_sem] theorem tagg_78 : tagg Tryz.prog 78 = .some false := by kernel_rfl
@[go_sem] theorem tk_79 : tk Tryz.prog 79 = .sl 90 := by kernel_rfl
@[go_sem] theorem tsz_79 : tsz Tryz.prog 79 = .some 1 := by kernel_rfl
@[go_sem] theorem tby_79 : tby Tryz.prog 79 = .some 24 := by kernel_rfl
@[go_sem] theorem tz_79 : tz Tryz.prog 79 = .some [(.v (.slice .none 0 0))] := by kernel_rfl
@[go_sem] theorem tagg_79 : tagg Tryz.prog 79 = .some false := by kernel_rfl
@[go_sem] theorem tk_80 : tk Tryz.prog 80 = .arr 2 79 := by kernel_rfl
@[go_sem] theorem tsz_80 : tsz Tryz.prog 80 = .some 2 := by kernel_rfl
@[go_sem] theorem tby_80 : tby Tryz.prog 80 = .some 48 := by kernel_rfl
@[go_sem] theorem tz_80 : tz Tryz.prog 80 = .some [(.v (.slice .none 0 0)), (.v (.slice .none 0 0))] := by kernel_rfl
@[go_sem] theorem tagg_80 : tagg Tryz.prog 80 = .some true := by kernel_rfl
@[go_sem] theorem tk_81 : tk Tryz.prog 81 = .str := by kernel_rfl
@[go_sem] theorem tsz_81 : tsz Tryz.prog 81 = .some 2 := by kernel_rfl
@[go_sem] theorem tby_81 : tby Tryz.prog 81 = .some 48 := by kernel_rfl
@[go_sem] theorem tz_81 : tz Tryz.prog 81 = .some [(.v (.slice .none 0 0)), (.v (.slice .none 0 0))] := by kernel_rfl
@[go_sem] theorem tagg_81 : tagg Tryz.prog 81 = .some true := by kernel_rfl
@[go_sem] theorem tfi_81 : tfi Tryz.prog 81 = true := by kernel_rfl
@[go_sem] theorem ftyp_81_0 : ftyp Tryz.prog 81 0 = .some 80 := by kernel_rfl
@[go_sem] theorem foff_81_0 : foff Tryz.prog 81 0 = .some 0 := by kernel_rfl
@[go_sem] theorem tk_82 : tk Tryz.prog 82 = .str := by kernel_rfl
@[go_sem] theorem tsz_82 : tsz Tryz.prog 82 = .some 2 := by kernel_rfl
@[go_sem] theorem tby_82 : tby Tryz.prog 82 = .some 48 := by kernel_rfl
@[go_sem] theorem tz_82 : tz Tryz.prog 82 = .some [(.v (.slice .none 0 0)), (.v (.slice .none 0 0))] := by kernel_rfl
@[go_sem] theorem tagg_82 : tagg Tryz.prog 82 = .some true := by kernel_rfl
@[go_sem] theorem tfi_82 : tfi Tryz.prog 82 = true := by kernel_rfl
@[go_sem] theorem ftyp_82_0 : ftyp Tryz.prog 82 0 = .some 80 := by kernel_rfl
@[go_sem] theorem foff_82_0 : foff Tryz.prog 82 0 = .some 0 := by kernel_rfl
@[go_sem] theorem tk_83 : tk Tryz.prog 83 = .other := by kernel_rfl
@[go_sem] theorem tsz_83 : tsz Tryz.prog 83 = .some 1 := by kernel_rfl
@[go_sem] theorem tby_83 : tby Tryz.prog 83 = .some 8 := by kernel_rfl
@[go_sem] theorem tz_83 : tz Tryz.prog 83 = .some [(.v .nilFunc)] := by kernel_rfl
@[go_sem] theorem tagg_83 : tagg Tryz.prog 83 = .some false := by kernel_rfl
@[go_sem] theorem tk_84 : tk Tryz.prog 84 = .other := by kernel_rfl
@[go_sem] theorem tsz_84 : tsz Tryz.prog 84 = .some 1 := by kernel_rfl
@[go_sem] theorem tby_84 : tby Tryz.prog 84 = .some 8 := by kernel_rfl
@[go_sem] theorem tz_84 : tz Tryz.prog 84 = .some [(.v .nilFunc)] := by kernel_rfl
@[go_sem] theorem tagg_84 : tagg Tryz.prog 84 = .some false := by kernel_rfl
@[go_sem] theorem tk_85 : tk Tryz.prog 85 = .other := by kernel_rfl
@[go_sem] theorem tsz_85 : tsz Tryz.prog 85 = .some 1 := by kernel_rfl
@[go_sem] theorem tby_85 : tby Tryz.prog 85 = .some 8 := by kernel_rfl
@[go_sem] theorem tz_85 : tz Tryz.prog 85 = .some [(.v .nilFunc)] := by kernel_rfl
@[go_sem] theorem tagg_85 : tagg Tryz.prog 85 = .some false := by kernel_rfl
@[go_sem] theorem tk_86 : tk Tryz.prog 86 = .other := by kernel_rfl
@[go_sem] theorem tsz_86 : tsz Tryz.prog 86 = .some 1 := by kernel_rfl
@[go_sem] theorem tby_86 : tby Tryz.prog 86 = .some 8 := by kernel_rfl
@[go_sem] theorem tz_86 : tz Tryz.prog 86 = .some [(.v .nilFunc)] := by kernel_rfl
@[go_sem] theorem tagg_86 : tagg Tryz.prog 86 = .some false := by kernel_rfl
@[go_sem] theorem tk_87 : tk Tryz.prog 87 = .other := by kernel_rfl
@[go_sem] theorem tsz_87 : tsz Tryz.prog 87 = .some 1 := by kernel_rfl
@[go_sem] theorem tby_87 : tby Tryz.prog 87 = .some 8 := by kernel_rfl
@[go_sem] theorem tz_87 : tz Tryz.prog 87 = .some [(.v .nilFunc)] := by kernel_rfl
@[go_sem] theorem tagg_87 : tagg Tryz.prog 87 = .some false := by kernel_rfl
@[go_sem] theorem tk_88 : tk Tryz.prog 88 = .arr 64 3 := by kernel_rfl
@[go_sem] theorem tsz_88 : tsz Tryz.prog 88 = .some 64 := by kernel_rfl
@[go_sem] theorem tby_88 : tby Tryz.prog 88 = .some 512 := by kernel_rfl
@[go_sem] theorem tz_88 : tz Tryz.prog 88 = .some [(.v (.int .i64 0)), (.v (.int .i64 0)), (.v (.int .i64 0)), (.v (.int .i64 0)), (.v (.int .i64 0)), (.v (.int .i64 0)), (.v (.int .i64 0)), (.v (.int .i64 0)), (.v (.int .i64 0)), (.v (.int .i64 0)), (.v (.int .i64 0)), (.v (.int .i64 0)), (.v (.int .i64 0)), (.v (.int .i64 0)), (.v (.int .i64 0)), (.v (.int .i64 0)), (.v (.int .i64 0)), (.v (.int .i64 0)), (.v (.int .i64 0)), (.v (.int .i64 0)), (.v (.int .i64 0)), (.v (.int .i64 0)), (.v (.int .i64 0)), (.v (.int .i64 0)), (.v (.int .i64 0)), (.v (.int .i64 0)), (.v (.int .i64 0)), (.v (.int .i64 0)), (.v (.int .i64 0)), (.v (.int .i64 0)), (.v (.int .i64 0)), (.v (.int .i64 0)), (.v (.int .i64 0)), (.v (.int .i64 0)), (.v (.int .i64 0)), (.v (.int .i64 0)), (.v (.int .i64 0)), (.v (.int .i64 0)), (.v (.int .i64 0)), (.v (.int .i64 0)), (.v (.int .i64 0)), (.v (.int .i64 0)), (.v (.int .i64 0)), (.v (.int .i64 0)), (.v (.int .i64 0)), (.v (.int .i64 0)), (.v (.int .i64 0)), (.v (.int .i64 0)), (.v (.int .i64 0)), (.v (.int .i64 0)), (.v (.int .i64 0)), (.v (.int .i64 0)), (.v (.int .i64 0)), (.v (.int .i64 0)), (.v (.int .i64 0)), (.v (.int .i64 0)), (.v (.int .i64 0)), (.v (.int .i64 0)), (.v (.int .i64 0)), (.v (.int .i64 0)), (.v (.int .i64 0)), (.v (.int .i64 0)), (.v (.int .i64 0)), (.v (.int .i64 0))] := by kernel_rfl
@[go_sem] theorem tagg_88 : tagg Tryz.prog 88 = .some true := by kernel_rfl
@[go_sem] theorem tk_89 : tk Tryz.prog 89 = .arr 64 3 := by kernel_rfl
@[go_sem] theorem tsz_89 : tsz Tryz.prog 89 = .some 64 := by kernel_rfl
@[go_sem] theorem tby_89 : tby Tryz.prog 89 = .some 512 := by kernel_rfl
@[go_sem] theorem tz_89 : tz Tryz.prog 89 = .some [(.v (.int .i64 0)), (.v (.int .i64 0)), (.v (.int .i64 0)), (.v (.int .i64 0)), (.v (.int .i64 0)), (.v (.int .i64 0)), (.v (.int .i64 0)), (.v (.int .i64 0)), (.v (.int .i64 0)), (.v (.int .i64 0)), (.v (.int .i64 0)), (.v (.int .i64 0)), (.v (.int .i64 0)), (.v (.int .i64 0)), (.v (.int .i64 0)), (.v (.int .i64 0)), (.v (.int .i64 0)), (.v (.int .i64 0)), (.v (.int .i64 0)), (.v (.int .i64 0)), (.v (.int .i64 0)), (.v (.int .i64 0)), (.v (.int .i64 0)), (.v (.int .i64 0)), (.v (.int .i64 0)), (.v (.int .i64 0)), (.v (.int .i64 0)), (.v (.int .i64 0)), (.v (.int .i64 0)), (.v (.int .i64 0)), (.v (.int .i64 0)), (.v (.int .i64 0)), (.v (.int .i64 0)), (.v (.int .i64 0)), (.v (.int .i64 0)), (.v (.int .i64 0)), (.v (.int .i64 0)), (.v (.int .i64 0)), (.v (.int .i64 0)), (.v (.int .i64 0)), (.v (.int .i64 0)), (.v (.int .i64 0)), (.v (.int .i64 0)), (.v (.int .i64 0)), (.v (.int .i64 0)), (.v (.int .i64 0)), (.v (.int .i64 0)), (.v (.int .i64 0)), (.v (.int .i64 0)), (.v (.int .i64 0)), (.v (.int .i64 0)), (.v (.int .i64 0)), (.v (.int .i64 0)), (.v (.int .i64 0)), (.v (.int .i64 0)), (.v (.int .i64 0)), (.v (.int .i64 0)), (.v (.int .i64 0)), (.v (.int .i64 0)), (.v (.int .i64 0)), (.v (.int .i64 0)), (.v (.int .i64 0)), (.v (.int .i64 0)), (.v (.int .i64 0))] := by kernel_rfl
@[go_sem] theorem tagg_89 : tagg Tryz.prog 89 = .some true := by kernel_rfl
@[go_sem] theorem tk_90 : tk Tryz.prog 90 = .sl 91 := by kernel_rfl
@[go_sem] theorem tsz_90 : tsz Tryz.prog 90 = .some 1 := by kernel_rfl
@[go_sem] theorem tby_90 : tby Tryz.prog 90 = .some 24 := by kernel_rfl
@[go_sem] theorem tz_90 : tz Tryz.prog 90 = .some [(.v (.slice .none 0 0))] := by kernel_rfl
@[go_sem] theorem tagg_90 : tagg Tryz.prog 90 = .some false := by kernel_rfl
@[go_sem] theorem tk_91 : tk Tryz.prog 91 = .sl 94 := by kernel_rfl
@[go_sem] theorem tsz_91 : tsz Tryz.prog 91 = .some 1 := by kernel_rfl
@[go_sem] theorem tby_91 : tby Tryz.prog 91 = .some 24 := by kernel_rfl
@[go_sem] theorem tz_91 : tz Tryz.prog 91 = .some [(.v (.slice .none 0 0))] := by kernel_rfl
@[go_sem] theorem tagg_91 : tagg Tryz.prog 91 = .some false := by kernel_rfl
@[go_sem] theorem tk_92 : tk Tryz.prog 92 = .sl 97 := by kernel_rfl
@[go_sem] theorem tsz_92 : tsz Tryz.prog 92 = .some 1 := by kernel_rfl
@[go_sem] theorem tby_92 : tby Tryz.prog 92 = .some 24 := by kernel_rfl
@[go_sem] theorem tz_92 : tz Tryz.prog 92 = .some [(.v (.slice .none 0 0))] := by kernel_rfl
@[go_sem] theorem tagg_92 : tagg Tryz.prog 92 = .some false := by kernel_rfl
@[go_sem] theorem tk_93 : tk Tryz.prog 93 = .str := by kernel_rfl
@[go_sem] theorem tsz_93 : tsz Tryz.prog 93 = .some 2 := by kernel_rfl
@[go_sem] theorem tby_93 : tby Tryz.prog 93 = .some 32 := by kernel_rfl
@[go_sem] theorem tz_93 : tz Tryz.prog 93 = .some [(.v (.slice .none 0 0)), (.v (.int .i64 0))] := by kernel_rfl
@[go_sem] theorem tagg_93 : tagg Tryz.prog 93 = .some true := by kernel_rfl
@[go_sem] theorem tfi_93 : tfi Tryz.prog 93 = true := by kernel_rfl
@[go_sem] theorem ftyp_93_0 : ftyp Tryz.prog 93 0 = .some 92 := by kernel_rfl
@[go_sem] theorem foff_93_0 : foff Tryz.prog 93 0 = .some 0 := by kernel_rfl
@[go_sem] theorem ftyp_93_1 : ftyp Tryz.prog 93 1 = .some 3 := by kernel_rfl
@[go_sem] theorem foff_93_1 : foff Tryz.prog 93 1 = .some 1 := by kernel_rfl
@[go_sem] theorem tk_94 : tk Tryz.prog 94 = .str := by kernel_rfl
@[go_sem] theorem tsz_94 : tsz Tryz.prog 94 = .some 2 := by kernel_rfl
@[go_sem] theorem tby_94 : tby Tryz.prog 94 = .some 32 := by kernel_rfl
@[go_sem] theorem tz_94 : tz Tryz.prog 94 = .some [(.v (.slice .none 0 0)), (.v (.int .i64 0))] := by kernel_rfl
@[go_sem] theorem tagg_94 : tagg Tryz.prog 94 = .some true := by kernel_rfl
@[go_sem] theorem tfi_94 : tfi Tryz.prog 94 = true := by kernel_rfl
@[go_sem] theorem ftyp_94_0 : ftyp Tryz.prog 94 0 = .some 92 := by kernel_rfl
@[go_sem] theorem foff_94_0 : foff Tryz.prog 94 0 = .some 0 := by kernel_rfl
@[go_sem] theorem ftyp_94_1 : ftyp Tryz.prog 94 1 = .some 3 := by kernel_rfl
@[go_sem] theorem foff_94_1 : foff Tryz.prog 94 1 = .some 1 := by kernel_rfl
@[go_sem] theorem tk_95 : tk Tryz.prog 95 = .other := by kernel_rfl
@[go_sem] theorem tsz_95 : tsz Tryz.prog 95 = .some 1 := by kernel_rfl
@[go_sem] theorem tby_95 : tby Tryz.prog 95 = .some 8 := by kernel_rfl
@[go_sem] theorem tz_95 : tz Tryz.prog 95 = .some [(.v .nilFunc)] := by kernel_rfl
@[go_sem] theorem tagg_95 : tagg Tryz.prog 95 = .some false := by kernel_rfl
@[go_sem] theorem tk_96 : tk Tryz.prog 96 = .str := by kernel_rfl
@[go_sem] theorem tsz_96 : tsz Tryz.prog 96 = .some 3 := by kernel_rfl
@[go_sem] theorem tby_96 : tby Tryz.prog 96 = .some 24 := by kernel_rfl
@[go_sem] theorem tz_96 : tz Tryz.prog 96 = .some [(.v (.int .i64 0)), (.v (.int .i64 0)), (.v (.int .i64 0))] := by kernel_rfl
@[go_sem] theorem tagg_96 : tagg Tryz.prog 96 = .some true := by kernel_rfl
@[go_sem] theorem tfi_96 : tfi Tryz.prog 96 = true := by kernel_rfl
@[go_sem] theorem tflat_96 : tflat Tryz.prog 96 = .some 3 := by kernel_rfl
@[go_sem] theorem ftyp_96_0 : ftyp Tryz.prog 96 0 = .some 3 := by kernel_rfl
@[go_sem] theorem foff_96_0 : foff Tryz.prog 96 0 = .some 0 := by kernel_rfl
@[go_sem] theorem ftyp_96_1 : ftyp Tryz.prog 96 1 = .some 3 := by kernel_rfl
@[go_sem] theorem foff_96_1 : foff Tryz.prog 96 1 = .some 1 := by kernel_rfl
@[go_sem] theorem ftyp_96_2 : ftyp Tryz.prog 96 2 = .some 3 := by kernel_rfl
@[go_sem] theorem foff_96_2 : foff Tryz.prog 96 2 = .some 2 := by kernel_rfl
@[go_sem] theorem tk_97 : tk Tryz.prog 97 = .str := by kernel_rfl
@[go_sem] theorem tsz_97 : tsz Tryz.prog 97 = .some 3 := by kernel_rfl
@[go_sem] theorem tby_97 : tby Tryz.prog 97 = .some 24 := by kernel_rfl
@[go_sem] theorem tz_97 : tz Tryz.prog 97 = .some [(.v (.int .i64 0)), (.v (.int .i64 0)), (.v (.int .i64 0))] := by kernel_rfl
@[go_sem] theorem tagg_97 : tagg Tryz.prog 97 = .some true := by kernel_rfl
@[go_sem] theorem tfi_97 : tfi Tryz.prog 97 = true := by kernel_rfl
@[go_sem] theorem tflat_97 : tflat Tryz.prog 97 = .some 3 := by kernel_rfl
@[go_sem] theorem ftyp_97_0 : ftyp Tryz.prog 97 0 = .some 3 := by kernel_rfl
@[go_sem] theorem foff_97_0 : foff Tryz.prog 97 0 = .some 0 := by kernel_rfl
@[go_sem] theorem ftyp_97_1 : ftyp Tryz.prog 97 1 = .some 3 := by kernel_rfl
@[go_sem] theorem foff_97_1 : foff Tryz.prog 97 1 = .some 1 := by kernel_rfl
@[go_sem] theorem ftyp_97_2 : ftyp Tryz.prog 97 2 = .some 3 := by kernel_rfl
@[go_sem] theorem foff_97_2 : foff Tryz.prog 97 2 = .some 2 := by kernel_rfl
@[go_sem] theorem tk_98 : tk Tryz.prog 98 = .other := by kernel_rfl
@[go_sem] theorem tsz_98 : tsz Tryz.prog 98 = .some 1 := by kernel_rfl
@[go_sem] theorem tby_98 : tby Tryz.prog 98 = .some 8 := by kernel_rfl
@[go_sem] theorem tz_98 : tz Tryz.prog 98 = .some [(.v .nilFunc)] := by kernel_rfl
@[go_sem] theorem tagg_98 : tagg Tryz.prog 98 = .some false := by kernel_rfl
@[go_sem] theorem tk_99 : tk Tryz.prog 99 = .other := by kernel_rfl
@[go_sem] theorem tsz_99 : tsz Tryz.prog 99 = .some 1 := by kernel_rfl
@[go_sem] theorem tby_99 : tby Tryz.prog 99 = .some 8 := by kernel_rfl
@[go_sem] theorem tz_99 : tz Tryz.prog 99 = .some [(.v .nilFunc)] := by kernel_rfl
@[go_sem] theorem tagg_99 : tagg Tryz.prog 99 = .some false := by kernel_rfl
@[go_sem] theorem tk_100 : tk Tryz.prog 100 = .other := by kernel_rfl
@[go_sem] theorem tsz_100 : tsz Tryz.prog 100 = .some 1 := by kernel_rfl
@[go_sem] theorem tby_100 : tby Tryz.prog 100 = .some 8 := by kernel_rfl
@[go_sem] theorem tz_100 : tz Tryz.prog 100 = .some [(.v .nilFunc)] := by kernel_rfl
@[go_sem] theorem tagg_100 : tagg Tryz.prog 100 = .some false := by kernel_rfl
@[go_sem] theorem tk_101 : tk Tryz.prog 101 = .other := by kernel_rfl
@[go_sem] theorem tsz_101 : tsz Tryz.prog 101 = .some 1 := by kernel_rfl
@[go_sem] theorem tby_101 : tby Tryz.prog 101 = .some 8 := by kernel_rfl
@[go_sem] theorem tz_101 : tz Tryz.prog 101 = .some [(.v .nilFunc)] := by kernel_rfl
@[go_sem] theorem tagg_101 : tagg Tryz.prog 101 = .some false := by kernel_rfl
@[go_sem] theorem tk_102 : tk Tryz.prog 102 = .other := by kernel_rfl
@[go_sem] theorem tsz_102 : tsz Tryz.prog 102 = .some 1 := by kernel_rfl
@[go_sem] theorem tby_102 : tby Tryz.prog 102 = .some 8 := by kernel_rfl
@[go_sem] theorem tz_102 : tz Tryz.prog 102 = .some [(.v .nilFunc)] := by kernel_rfl
@[go_sem] theorem tagg_102 : tagg Tryz.prog 102 = .some false := by kernel_rfl
@[go_sem] theorem tk_103 : tk Tryz.prog 103 = .other := by kernel_rfl
@[go_sem] theorem tsz_103 : tsz Tryz.prog 103 = .some 1 := by kernel_rfl
@[go_sem] theorem tby_103 : tby Tryz.prog 103 = .some 8 := by kernel_rfl
@[go_sem] theorem tz_103 : tz Tryz.prog 103 = .some [(.v .nilFunc)] := by kernel_rfl
@[go_sem] theorem tagg_103 : tagg Tryz.prog 103 = .some false := by kernel_rfl
@[go_sem] theorem tk_104 : tk Tryz.prog 104 = .other := by kernel_rfl
@[go_sem] theorem tsz_104 : tsz Tryz.prog 104 = .some 1 := by kernel_rfl
@[go_sem] theorem tby_104 : tby Tryz.prog 104 = .some 8 := by kernel_rfl
@[go_sem] theorem tz_104 : tz Tryz.prog 104 = .some [(.v .nilFunc)] := by kernel_rfl
@[go_sem] theorem tagg_104 : tagg Tryz.prog 104 = .some false := by kernel_rfl
@[go_sem] theorem tk_105 : tk Tryz.prog 105 = .other := by kernel_rfl
@[go_sem] theorem tsz_105 : tsz Tryz.prog 105 = .some 1 := by kernel_rfl
@[go_sem] theorem tby_105 : tby Tryz.prog 105 = .some 0 := by kernel_rfl
@[go_sem] theorem tagg_105 : tagg Tryz.prog 105 = .some false := by kernel_rfl
@[go_sem] theorem tk_106 : tk Tryz.prog 106 = .other := by kernel_rfl
@[go_sem] theorem tsz_106 : tsz Tryz.prog 106 = .some 1 := by kernel_rfl
@[go_sem] theorem tby_106 : tby Tryz.prog 106 = .some 8 := by kernel_rfl
@[go_sem] theorem tz_106 : tz Tryz.prog 106 = .some [(.v .nilFunc)] := by kernel_rfl
@[go_sem] theorem tagg_106 : tagg Tryz.prog 106 = .some false := by kernel_rfl
@[go_sem] theorem tk_107 : tk Tryz.prog 107 = .other := by kernel_rfl
@[go_sem] theorem tsz_107 : tsz Tryz.prog 107 = .some 1 := by kernel_rfl
@[go_sem] theorem tby_107 : tby Tryz.prog 107 = .some 8 := by kernel_rfl
@[go_sem] theorem tz_107 : tz Tryz.prog 107 = .some [(.v .nilFunc)] := by kernel_rfl
@[go_sem] theorem tagg_107 : tagg Tryz.prog 107 = .some false := by kernel_rfl
@[go_sem] theorem tk_108 : tk Tryz.prog 108 = .other := by kernel_rfl
@[go_sem] theorem tsz_108 : tsz Tryz.prog 108 = .some 1 := by kernel_rfl
@[go_sem] theorem tby_108 : tby Tryz.prog 108 = .some 8 := by kernel_rfl
@[go_sem] theorem tz_108 : tz Tryz.prog 108 = .some [(.v .nilFunc)] := by kernel_rfl
@[go_sem] theorem tagg_108 : tagg Tryz.prog 108 = .some false := by kernel_rfl
@[go_sem] theorem tk_109 : tk Tryz.prog 109 = .other := by kernel_rfl
@[go_sem] theorem tsz_109 : tsz Tryz.prog 109 = .some 1 := by kernel_rfl
@[go_sem] theorem tby_109 : tby Tryz.prog 109 = .some 8 := by kernel_rfl
@[go_sem] theorem tz_109 : tz Tryz.prog 109 = .some [(.v .nilFunc)] := by kernel_rfl
@[go_sem] theorem tagg_109 : tagg Tryz.prog 109 = .some false := by kernel_rfl
@[go_sem] theorem tk_110 : tk Tryz.prog 110 = .other := by kernel_rfl
@[go_sem] theorem tsz_110 : tsz Tryz.prog 110 = .some 1 := by kernel_rfl
@[go_sem] theorem tby_110 : tby Tryz.prog 110 = .some 8 := by kernel_rfl
@[go_sem] theorem tz_110 : tz Tryz.prog 110 = .some [(.v .nilFunc)] := by kernel_rfl
@[go_sem] theorem tagg_110 : tagg Tryz.prog 110 = .some false := by kernel_rfl
@[go_sem] theorem tk_111 : tk Tryz.prog 111 = .other := by kernel_rfl
@[go_sem] theorem tsz_111 : tsz Tryz.prog 111 = .some 1 := by kernel_rfl
@[go_sem] theorem tby_111 : tby Tryz.prog 111 = .some 8 := by kernel_rfl
@[go_sem] theorem tz_111 : tz Tryz.prog 111 = .some [(.v .nilFunc)] := by kernel_rfl
@[go_sem] theorem tagg_111 : tagg Tryz.prog 111 = .some false := by kernel_rfl
@[go_sem] theorem tk_112 : tk Tryz.prog 112 = .other := by kernel_rfl
@[go_sem] theorem tsz_112 : tsz Tryz.prog 112 = .some 1 := by kernel_rfl
@[go_sem] theorem tby_112 : tby Tryz.prog 112 = .some 8 := by kernel_rfl
@[go_sem] theorem tz_112 : tz Tryz.prog 112 = .some [(.v .nilFunc)] := by kernel_rfl
@[go_sem] theorem tagg_112 : tagg Tryz.prog 112 = .some false := by kernel_rfl
@[go_sem] theorem tk_113 : tk Tryz.prog 113 = .other := by kernel_rfl
@[go_sem] theorem tsz_113 : tsz Tryz.prog 113 = .some 1 := by kernel_rfl
@[go_sem] theorem tby_113 : tby Tryz.prog 113 = .some 8 := by kernel_rfl
@[go_sem] theorem tz_113 : tz Tryz.prog 113 = .some [(.v .nilFunc)] := by kernel_rfl
@[go_sem] theorem tagg_113 : tagg Tryz.prog 113 = .some false := by kernel_rfl
@[go_sem] theorem tk_114 : tk Tryz.prog 114 = .other := by kernel_rfl
@[go_sem] theorem tsz_114 : tsz Tryz.prog 114 = .some 1 := by kernel_rfl
@[go_sem] theorem tby_114 : tby Tryz.prog 114 = .some 8 := by kernel_rfl
@[go_sem] theorem tz_114 : tz Tryz.prog 114 = .some [(.v .nilFunc)] := by kernel_rfl
@[go_sem] theorem tagg_114 : tagg Tryz.prog 114 = .some false := by kernel_rfl
@[go_sem] theorem tk_115 : tk Tryz.prog 115 = .other := by kernel_rfl
@[go_sem] theorem tsz_115 : tsz Tryz.prog 115 = .some 1 := by kernel_rfl
@[go_sem] theorem tby_115 : tby Tryz.prog 115 = .some 8 := by kernel_rfl
@[go_sem] theorem tz_115 : tz Tryz.prog 115 = .some [(.v .nilFunc)] := by kernel_rfl
@[go_sem] theorem tagg_115 : tagg Tryz.prog 115 = .some false := by kernel_rfl
@[go_sem] theorem tk_116 : tk Tryz.prog 116 = .other := by kernel_rfl
@[go_sem] theorem tsz_116 : tsz Tryz.prog 116 = .some 1 := by kernel_rfl
@[go_sem] theorem tby_116 : tby Tryz.prog 116 = .some 8 := by kernel_rfl
@[go_sem] theorem tz_116 : tz Tryz.prog 116 = .some [(.v .nilFunc)] := by kernel_rfl
@[go_sem] theorem tagg_116 : tagg Tryz.prog 116 = .some false := by kernel_rfl
@[go_sem] theorem tk_117 : tk Tryz.prog 117 = .other := by kernel_rfl
@[go_sem] theorem tsz_117 : tsz Tryz.prog 117 = .some 1 := by kernel_rfl
@[go_sem] theorem tby_117 : tby Tryz.prog 117 = .some 8 := by kernel_rfl
@[go_sem] theorem tz_117 : tz Tryz.prog 117 = .some [(.v .nilFunc)] := by kernel_rfl
@[go_sem] theorem tagg_117 : tagg Tryz.prog 117 = .some false := by kernel_rfl
@[go_sem] theorem tk_118 : tk Tryz.prog 118 = .other := by kernel_rfl
@[go_sem] theorem tsz_118 : tsz Tryz.prog 118 = .some 1 := by kernel_rfl
@[go_sem] theorem tby_118 : tby Tryz.prog 118 = .some 8 := by kernel_rfl
@[go_sem] theorem tz_118 : tz Tryz.prog 118 = .some [(.v .nilFunc)] := by kernel_rfl
@[go_sem] theorem tagg_118 : tagg Tryz.prog 118 = .some false := by kernel_rfl
@[go_sem] theorem tk_119 : tk Tryz.prog 119 = .other := by kernel_rfl
@[go_sem] theorem tsz_119 : tsz Tryz.prog 119 = .some 1 := by kernel_rfl
@[go_sem] theorem tby_119 : tby Tryz.prog 119 = .some 8 := by kernel_rfl
@[go_sem] theorem tz_119 : tz Tryz.prog 119 = .some [(.v .nilFunc)] := by kernel_rfl
@[go_sem] theorem tagg_119 : tagg Tryz.prog 119 = .some false := by kernel_rfl
@[go_sem] theorem tk_120 : tk Tryz.prog 120 = .other := by kernel_rfl
@[go_sem] theorem tsz_120 : tsz Tryz.prog 120 = .some 1 := by kernel_rfl
@[go_sem] theorem tby_120 : tby Tryz.prog 120 = .some 8 := by kernel_rfl
@[go_sem] theorem tz_120 : tz Tryz.prog 120 = .some [(.v .nilFunc)] := by kernel_rfl
@[go_sem] theorem tagg_120 : tagg Tryz.prog 120 = .some false := by kernel_rfl
@[go_sem] theorem tk_121 : tk Tryz.prog 121 = .other := by kernel_rfl
@[go_sem] theorem tsz_121 : tsz Tryz.prog 121 = .some 1 := by kernel_rfl
@[go_sem] theorem tby_121 : tby Tryz.prog 121 = .some 8 := by kernel_rfl
@[go_sem] theorem tz_121 : tz Tryz.prog 121 = .some [(.v .nilFunc)] := by kernel_rfl
@[go_sem] theorem tagg_121 : tagg Tryz.prog 121 = .some false := by kernel_rfl
@[go_sem] theorem tk_122 : tk Tryz.prog 122 = .other := by kernel_rfl
@[go_sem] theorem tsz_122 : tsz Tryz.prog 122 = .some 1 := by kernel_rfl
@[go_sem] theorem tby_122 : tby Tryz.prog 122 = .some 8 := by kernel_rfl
@[go_sem] theorem tz_122 : tz Tryz.prog 122 = .some [(.v .nilFunc)] := by kernel_rfl
@[go_sem] theorem tagg_122 : tagg Tryz.prog 122 = .some false := by kernel_rfl
@[go_sem] theorem tk_123 : tk Tryz.prog 123 = .ptr 89 := by kernel_rfl
@[go_sem] theorem tsz_123 : tsz Tryz.prog 123 = .some 1 := by kernel_rfl
@[go_sem] theorem tby_123 : tby Tryz.prog 123 = .some 8 := by kernel_rfl
@[go_sem] theorem tz_123 : tz Tryz.prog 123 = .some [(.v (.pointer .none))] := by kernel_rfl
@[go_sem] theorem tagg_123 : tagg Tryz.prog 123 = .some false := by kernel_rfl
@[go_sem] theorem tk_124 : tk Tryz.prog 124 = .other := by kernel_rfl
@[go_sem] theorem tsz_124 : tsz Tryz.prog 124 = .some 1 := by kernel_rfl
@[go_sem] theorem tby_124 : tby Tryz.prog 124 = .some 8 := by kernel_rfl
@[go_sem] theorem tz_124 : tz Tryz.prog 124 = .some [(.v .nilFunc)] := by kernel_rfl
@[go_sem] theorem tagg_124 : tagg Tryz.prog 124 = .some false := by kernel_rfl
@[go_sem] theorem tk_125 : tk Tryz.prog 125 = .str := by kernel_rfl
@[go_sem] theorem tsz_125 : tsz Tryz.prog 125 = .some 9 := by kernel_rfl
@[go_sem] theorem tby_125 : tby Tryz.prog 125 = .some 136 := by kernel_rfl
@[go_sem] theorem tz_125 : tz Tryz.prog 125 = .some [(.v (.int .i64 0)), (.v (.slice .none 0 0)), (.v (.slice .none 0 0)), (.v (.slice .none 0 0)), (.v (.int .i64 0)), (.v (.bool false)), (.v (.slice .none 0 0)), (.v (.int .i64 0)), (.v (.int .i64 0))] := by kernel_rfl
@[go_sem] theorem tagg_125 : tagg Tryz.prog 125 = .some true := by kernel_rfl
@[go_sem] theorem tfi_125 : tfi Tryz.prog 125 = true := by kernel_rfl
@[go_sem] theorem ftyp_125_0 : ftyp Tryz.prog 125 0 = .some 40 := by kernel_rfl
@[go_sem] theorem foff_125_0 : foff Tryz.prog 125 0 = .some 0 := by kernel_rfl
@[go_sem] theorem tk_126 : tk Tryz.prog 126 = .str := by kernel_rfl
@[go_sem] theorem tsz_126 : tsz Tryz.prog 126 = .some 9 := by kernel_rfl
@[go_sem] theorem tby_126 : tby Tryz.prog 126 = .some 136 := by kernel_rfl
@[go_sem] theorem tz_126 : tz Tryz.prog 126 = .some [(.v (.int .i64 0)), (.v (.slice .none 0 0)), (.v (.slice .none 0 0)), (.v (.slice .none 0 0)), (.v (.int .i64 0)), (.v (.bool false)), (.v (.slice .none 0 0)), (.v (.int .i64 0)), (.v (.int .i64 0))] := by kernel_rfl
@[go_sem] theorem tagg_126 : tagg Tryz.prog 126 = .some true := by kernel_rfl
@[go_sem] theorem tfi_126 : tfi Tryz.prog 126 = true := by kernel_rfl
@[go_sem] theorem ftyp_126_0 : ftyp Tryz.prog 126 0 = .some 40 := by kernel_rfl
@[go_sem] theorem foff_126_0 : foff Tryz.prog 126 0 = .some 0 := by kernel_rfl
@[go_sem] theorem tk_127 : tk Tryz.prog 127 = .other := by kernel_rfl
@[go_sem] theorem tsz_127 : tsz Tryz.prog 127 = .some 1 := by kernel_rfl
@[go_sem] theorem tby_127 : tby Tryz.prog 127 = .some 8 := by kernel_rfl
@[go_sem] theorem tz_127 : tz Tryz.prog 127 = .some [(.v .nilFunc)] := by kernel_rfl
@[go_sem] theorem tagg_127 : tagg Tryz.prog 127 = .some false := by kernel_rfl
@[go_sem] theorem tk_128 : tk Tryz.prog 128 = .other := by kernel_rfl
@[go_sem] theorem tsz_128 : tsz Tryz.prog 128 = .some 1 := by kernel_rfl
@[go_sem] theorem tby_128 : tby Tryz.prog 128 = .some 8 := by kernel_rfl
@[go_sem] theorem tz_128 : tz Tryz.prog 128 = .some [(.v .nilFunc)] := by kernel_rfl
@[go_sem] theorem tagg_128 : tagg Tryz.prog 128 = .some false := by kernel_rfl
@[go_sem] theorem tk_129 : tk Tryz.prog 129 = .other := by kernel_rfl
@[go_sem] theorem tsz_129 : tsz Tryz.prog 129 = .some 1 := by kernel_rfl
@[go_sem] theorem tby_129 : tby Tryz.prog 129 = .some 8 := by kernel_rfl
@[go_sem] theorem tz_129 : tz Tryz.prog 129 = .some [(.v .nilFunc)] := by kernel_rfl
@[go_sem] theorem tagg_129 : tagg Tryz.prog 129 = .some false := by kernel_rfl
@[go_sem] theorem tk_130 : tk Tryz.prog 130 = .other := by kernel_rfl
@[go_sem] theorem tsz_130 : tsz Tryz.prog 130 = .some 1 := by kernel_rfl
@[go_sem] theorem tby_130 : tby Tryz.prog 130 = .some 8 := by kernel_rfl
@[go_sem] theorem tz_130 : tz Tryz.prog 130 = .some [(.v .nilFunc)] := by kernel_rfl
@[go_sem] theorem tagg_130 : tagg Tryz.prog 130 = .some false := by kernel_rfl
@[go_sem] theorem tk_131 : tk Tryz.prog 131 = .other := by kernel_rfl
@[go_sem] theorem tsz_131 : tsz Tryz.prog 131 = .some 1 := by kernel_rfl
@[go_sem] theorem tby_131 : tby Tryz.prog 131 = .some 8 := by kernel_rfl
@[go_sem] theorem tz_131 : tz Tryz.prog 131 = .some [(.v .nilFunc)] := by kernel_rfl
@[go_sem] theorem tagg_131 : tagg Tryz.prog 131 = .some false := by kernel_rfl
@[go_sem] theorem tk_132 : tk Tryz.prog 132 = .other := by kernel_rfl
@[go_sem] theorem tsz_132 : tsz Tryz.prog 132 = .some 1 := by kernel_rfl
@[go_sem] theorem tby_132 : tby Tryz.prog 132 = .some 8 := by kernel_rfl
@[go_sem] theorem tz_132 : tz Tryz.prog 132 = .some [(.v .nilFunc)] := by kernel_rfl
@[go_sem] theorem tagg_132 : tagg Tryz.prog 132 = .some false := by kernel_rfl
@[go_sem] theorem tk_133 : tk Tryz.prog 133 = .other := by kernel_rfl
@[go_sem] theorem tsz_133 : tsz Tryz.prog 133 = .some 1 := by kernel_rfl
@[go_sem] theorem tby_133 : tby Tryz.prog 133 = .some 8 := by kernel_rfl
@[go_sem] theorem tz_133 : tz Tryz.prog 133 = .some [(.v .nilFunc)] := by kernel_rfl
@[go_sem] theorem tagg_133 : tagg Tryz.prog 133 = .some false := by kernel_rfl
@[go_sem] theorem tk_134 : tk Tryz.prog 134 = .other := by kernel_rfl
@[go_sem] theorem tsz_134 : tsz Tryz.prog 134 = .some 1 := by kernel_rfl
@[go_sem] theorem tby_134 : tby Tryz.prog 134 = .some 8 := by kernel_rfl
@[go_sem] theorem tz_134 : tz Tryz.prog 134 = .some [(.v .nilFunc)] := by kernel_rfl
@[go_sem] theorem tagg_134 : tagg Tryz.prog 134 = .some false := by kernel_rfl
@[go_sem] theorem tk_135 : tk Tryz.prog 135 = .arr 4 3 := by kernel_rfl
@[go_sem] theorem tsz_135 : tsz Tryz.prog 135 = .some 4 := by kernel_rfl
@[go_sem] theorem tby_135 : tby Tryz.prog 135 = .some 32 := by kernel_rfl
@[go_sem] theorem tz_135 : tz Tryz.prog 135 = .some [(.v (.int .i64 0)), (.v (.int .i64 0)), (.v (.int .i64 0)), (.v (.int .i64 0))] := by kernel_rfl
@[go_sem] theorem tagg_135 : tagg Tryz.prog 135 = .some true := by kernel_rfl
@[go_sem] theorem tk_136 : tk Tryz.prog 136 = .str := by kernel_rfl
@[go_sem] theorem tsz_136 : tsz Tryz.prog 136 = .some 2 := by kernel_rfl
@[go_sem] theorem tby_136 : tby Tryz.prog 136 = .some 24 := by kernel_rfl
@[go_sem] theorem tz_136 : tz Tryz.prog 136 = .some [(.v (.string ⟨⟨[]⟩⟩)), (.v (.int .i64 0))] := by kernel_rfl
@[go_sem] theorem tagg_136 : tagg Tryz.prog 136 = .some true := by kernel_rfl
@[go_sem] theorem tfi_136 : tfi Tryz.prog 136 = true := by kernel_rfl
@[go_sem] theorem ftyp_136_0 : ftyp Tryz.prog 136 0 = .some 9 := by kernel_rfl
@[go_sem] theorem foff_136_0 : foff Tryz.prog 136 0 = .some 0 := by kernel_rfl
@[go_sem] theorem ftyp_136_1 : ftyp Tryz.prog 136 1 = .some 3 := by kernel_rfl
@[go_sem] theorem foff_136_1 : foff Tryz.prog 136 1 = .some 1 := by kernel_rfl
@[go_sem] theorem tk_137 : tk Tryz.prog 137 = .str := by kernel_rfl
@[go_sem] theorem tsz_137 : tsz Tryz.prog 137 = .some 2 := by kernel_rfl
@[go_sem] theorem tby_137 : tby Tryz.prog 137 = .some 24 := by kernel_rfl
@[go_sem] theorem tz_137 : tz Tryz.prog 137 = .some [(.v (.string ⟨⟨[]⟩⟩)), (.v (.int .i64 0))] := by kernel_rfl
@[go_sem] theorem tagg_137 : tagg Tryz.prog 137 = .some true := by kernel_rfl
@[go_sem] theorem tfi_137 : tfi Tryz.prog 137 = true := by kernel_rfl
@[go_sem] theorem ftyp_137_0 : ftyp Tryz.prog 137 0 = .some 9 := by kernel_rfl
@[go_sem] theorem foff_137_0 : foff Tryz.prog 137 0 = .some 0 := by kernel_rfl
@[go_sem] theorem ftyp_137_1 : ftyp Tryz.prog 137 1 = .some 3 := by kernel_rfl
@[go_sem] theorem foff_137_1 : foff Tryz.prog 137 1 = .some 1 := by kernel_rfl
@[go_sem] theorem tk_138 : tk Tryz.prog 138 = .other := by kernel_rfl
@[go_sem] theorem tsz_138 : tsz Tryz.prog 138 = .some 1 := by kernel_rfl
@[go_sem] theorem tby_138 : tby Tryz.prog 138 = .some 0 := by kernel_rfl
@[go_sem] theorem tagg_138 : tagg Tryz.prog 138 = .some false := by kernel_rfl
@[go_sem] theorem tk_139 : tk Tryz.prog 139 = .other := by kernel_rfl
@[go_sem] theorem tsz_139 : tsz Tryz.prog 139 = .some 1 := by kernel_rfl
@[go_sem] theorem tby_139 : tby Tryz.prog 139 = .some 8 := by kernel_rfl
@[go_sem] theorem tz_139 : tz Tryz.prog 139 = .some [(.v .nilFunc)] := by kernel_rfl
@[go_sem] theorem tagg_139 : tagg Tryz.prog 139 = .some false := by kernel_rfl
@[go_sem] theorem tk_140 : tk Tryz.prog 140 = .other := by kernel_rfl
@[go_sem] theorem tsz_140 : tsz Tryz.prog 140 = .some 1 := by kernel_rfl
@[go_sem] theorem tby_140 : tby Tryz.prog 140 = .some 8 := by kernel_rfl
@[go_sem] theorem tz_140 : tz Tryz.prog 140 = .some [(.v .nilFunc)] := by kernel_rfl
@[go_sem] theorem tagg_140 : tagg Tryz.prog 140 = .some false := by kernel_rfl
@[go_sem] theorem tk_141 : tk Tryz.prog 141 = .other := by kernel_rfl
@[go_sem] theorem tsz_141 : tsz Tryz.prog 141 = .some 1 := by kernel_rfl
@[go_sem] theorem tby_141 : tby Tryz.prog 141 = .some 8 := by kernel_rfl
@[go_sem] theorem tz_141 : tz Tryz.prog 141 = .some [(.v .nilFunc)] := by kernel_rfl
@[go_sem] theorem tagg_141 : tagg Tryz.prog 141 = .some false := by kernel_rfl
@[go_sem] theorem tk_142 : tk Tryz.prog 142 = .other := by kernel_rfl
@[go_sem] theorem tsz_142 : tsz Tryz.prog 142 = .some 1 := by kernel_rfl
@[go_sem] theorem tby_142 : tby Tryz.prog 142 = .some 8 := by kernel_rfl
@[go_sem] theorem tz_142 : tz Tryz.prog 142 = .some [(.v .nilFunc)] := by kernel_rfl
@[go_sem] theorem tagg_142 : tagg Tryz.prog 142 = .some false := by kernel_rfl
@[go_sem] theorem tk_143 : tk Tryz.prog 143 = .other := by kernel_rfl
@[go_sem] theorem tsz_143 : tsz Tryz.prog 143 = .some 1 := by kernel_rfl
@[go_sem] theorem tby_143 : tby Tryz.prog 143 = .some 8 := by kernel_rfl
@[go_sem] theorem tz_143 : tz Tryz.prog 143 = .some [(.v .nilFunc)] := by kernel_rfl
@[go_sem] theorem tagg_143 : tagg Tryz.prog 143 = .some false := by kernel_rfl
@[go_sem] theorem tk_144 : tk Tryz.prog 144 = .other := by kernel_rfl
@[go_sem] theorem tsz_144 : tsz Tryz.prog 144 = .some 1 := by kernel_rfl
@[go_sem] theorem tby_144 : tby Tryz.prog 144 = .some 8 := by kernel_rfl
@[go_sem] theorem tz_144 : tz Tryz.prog 144 = .some [(.v .nilFunc)] := by kernel_rfl
@[go_sem] theorem tagg_144 : tagg Tryz.prog 144 = .some false := by kernel_rfl
@[go_sem] theorem tk_145 : tk Tryz.prog 145 = .other := by kernel_rfl
@[go_sem] theorem tsz_145 : tsz Tryz.prog 145 = .some 1 := by kernel_rfl
@[go_sem] theorem tby_145 : tby Tryz.prog 145 = .some 8 := by kernel_rfl
@[go_sem] theorem tz_145 : tz Tryz.prog 145 = .some [(.v .nilFunc)] := by kernel_rfl
@[go_sem] theorem tagg_145 : tagg Tryz.prog 145 = .some false := by kernel_rfl
@[go_sem] theorem tk_146 : tk Tryz.prog 146 = .other := by kernel_rfl
@[go_sem] theorem tsz_146 : tsz Tryz.prog 146 = .some 1 := by kernel_rfl
@[go_sem] theorem tby_146 : tby Tryz.prog 146 = .some 8 := by kernel_rfl
@[go_sem] theorem tz_146 : tz Tryz.prog 146 = .some [(.v .nilFunc)] := by kernel_rfl
@[go_sem] theorem tagg_146 : tagg Tryz.prog 146 = .some false := by kernel_rfl
@[go_sem] theorem tk_147 : tk Tryz.prog 147 = .other := by kernel_rfl
@[go_sem] theorem tsz_147 : tsz Tryz.prog 147 = .some 1 := by kernel_rfl
@[go_sem] theorem tby_147 : tby Tryz.prog 147 = .some 8 := by kernel_rfl
@[go_sem] theorem tz_147 : tz Tryz.prog 147 = .some [(.v .nilFunc)] := by kernel_rfl
@[go_sem] theorem tagg_147 : tagg Tryz.prog 147 = .some false := by kernel_rfl
@[go_sem] theorem tk_148 : tk Tryz.prog 148 = .other := by kernel_rfl
@[go_sem] theorem tsz_148 : tsz Tryz.prog 148 = .some 1 := by kernel_rfl
@[go_sem] theorem tby_148 : tby Tryz.prog 148 = .some 8 := by kernel_rfl
@[go_sem] theorem tz_148 : tz Tryz.prog 148 = .some [(.v .nilFunc)] := by kernel_rfl
@[go_sem] theorem tagg_148 : tagg Tryz.prog 148 = .some false := by kernel_rfl
@[go_sem] theorem tk_149 : tk Tryz.prog 149 = .other := by kernel_rfl
@[go_sem] theorem tsz_149 : tsz Tryz.prog 149 = .some 1 := by kernel_rfl
@[go_sem] theorem tby_149 : tby Tryz.prog 149 = .some 8 := by kernel_rfl
@[go_sem] theorem tz_149 : tz Tryz.prog 149 = .some [(.v .nilFunc)] := by kernel_rfl
@[go_sem] theorem tagg_149 : tagg Tryz.prog 149 = .some false := by kernel_rfl
@[go_sem] theorem tk_150 : tk Tryz.prog 150 = .other := by kernel_rfl
@[go_sem] theorem tsz_150 : tsz Tryz.prog 150 = .some 1 := by kernel_rfl
@[go_sem] theorem tby_150 : tby Tryz.prog 150 = .some 8 := by kernel_rfl
@[go_sem] theorem tz_150 : tz Tryz.prog 150 = .some [(.v .nilFunc)] := by kernel_rfl
@[go_sem] theorem tagg_150 : tagg Tryz.prog 150 = .some false := by kernel_rfl
@[go_sem] theorem tk_151 : tk Tryz.prog 151 = .other := by kernel_rfl
@[go_sem] theorem tsz_151 : tsz Tryz.prog 151 = .some 1 := by kernel_rfl
@[go_sem] theorem tby_151 : tby Tryz.prog 151 = .some 8 := by kernel_rfl
@[go_sem] theorem tz_151 : tz Tryz.prog 151 = .some [(.v .nilFunc)] := by kernel_rfl
@[go_sem] theorem tagg_151 : tagg Tryz.prog 151 = .some false := by kernel_rfl
@[go_sem] theorem tk_152 : tk Tryz.prog 152 = .other := by kernel_rfl
@[go_sem] theorem tsz_152 : tsz Tryz.prog 152 = .some 1 := by kernel_rfl
@[go_sem] theorem tby_152 : tby Tryz.prog 152 = .some 8 := by kernel_rfl
@[go_sem] theorem tz_152 : tz Tryz.prog 152 = .some [(.v .nilFunc)] := by kernel_rfl
@[go_sem] theorem tagg_152 : tagg Tryz.prog 152 = .some false := by kernel_rfl
@[go_sem] theorem tk_153 : tk Tryz.prog 153 = .arr 11 137 := by kernel_rfl
@[go_sem] theorem tsz_153 : tsz Tryz.prog 153 = .some 22 := by kernel_rfl
@[go_sem] theorem tby_153 : tby Tryz.prog 153 = .some 264 := by kernel_rfl
@[go_sem] theorem tz_153 : tz Tryz.prog 153 = .some [(.v (.string ⟨⟨[]⟩⟩)), (.v (.int .i64 0)), (.v (.string ⟨⟨[]⟩⟩)), (.v (.int .i64 0)), (.v (.string ⟨⟨[]⟩⟩)), (.v (.int .i64 0)), (.v (.string ⟨⟨[]⟩⟩)), (.v (.int .i64 0)), (.v (.string ⟨⟨[]⟩⟩)), (.v (.int .i64 0)), (.v (.string ⟨⟨[]⟩⟩)), (.v (.int .i64 0)), (.v (.string ⟨⟨[]⟩⟩)), (.v (.int .i64 0)), (.v (.string ⟨⟨[]⟩⟩)), (.v (.int .i64 0)), (.v (.string ⟨⟨[]⟩⟩)), (.v (.int .i64 0)), (.v (.string ⟨⟨[]⟩⟩)), (.v (.int .i64 0)), (.v (.string ⟨⟨[]⟩⟩)), (.v (.int .i64 0))] := by kernel_rfl
@[go_sem] theorem tagg_153 : tagg Tryz.prog 153 = .some true := by kernel_rfl
@[go_sem] theorem tk_154 : tk Tryz.prog 154 = .other := by kernel_rfl
@[go_sem] theorem tsz_154 : tsz Tryz.prog 154 = .some 1 := by kernel_rfl
@[go_sem] theorem tby_154 : tby Tryz.prog 154 = .some 8 := by kernel_rfl
@[go_sem] theorem tz_154 : tz Tryz.prog 154 = .some [(.v .nilFunc)] := by kernel_rfl
@[go_sem] theorem tagg_154 : tagg Tryz.prog 154 = .some false := by kernel_rfl
@[go_sem] theorem tk_155 : tk Tryz.prog 155 = .other := by kernel_rfl
@[go_sem] theorem tsz_155 : tsz Tryz.prog 155 = .some 1 := by kernel_rfl
@[go_sem] theorem tby_155 : tby Tryz.prog 155 = .some 8 := by kernel_rfl
@[go_sem] theorem tz_155 : tz Tryz.prog 155 = .some [(.v .nilFunc)] := by kernel_rfl
@[go_sem] theorem tagg_155 : tagg Tryz.prog 155 = .some false := by kernel_rfl
@[go_sem] theorem tk_156 : tk Tryz.prog 156 = .other := by kernel_rfl
@[go_sem] theorem tsz_156 : tsz Tryz.prog 156 = .some 1 := by kernel_rfl
@[go_sem] theorem tby_156 : tby Tryz.prog 156 = .some 8 := by kernel_rfl
@[go_sem] theorem tz_156 : tz Tryz.prog 156 = .some [(.v .nilFunc)] := by kernel_rfl
@[go_sem] theorem tagg_156 : tagg Tryz.prog 156 = .some false := by kernel_rfl
@[go_sem] theorem tk_157 : tk Tryz.prog 157 = .other := by kernel_rfl
@[go_sem] theorem tsz_157 : tsz Tryz.prog 157 = .some 1 := by kernel_rfl
@[go_sem] theorem tby_157 : tby Tryz.prog 157 = .some 8 := by kernel_rfl
@[go_sem] theorem tz_157 : tz Tryz.prog 157 = .some [(.v .nilFunc)] := by kernel_rfl
@[go_sem] theorem tagg_157 : tagg Tryz.prog 157 = .some false := by kernel_rfl
@[go_sem] theorem tk_158 : tk Tryz.prog 158 = .other := by kernel_rfl
@[go_sem] theorem tsz_158 : tsz Tryz.prog 158 = .some 1 := by kernel_rfl
@[go_sem] theorem tby_158 : tby Tryz.prog 158 = .some 8 := by kernel_rfl
@[go_sem] theorem tz_158 : tz Tryz.prog 158 = .some [(.v .nilFunc)] := by kernel_rfl
@[go_sem] theorem tagg_158 : tagg Tryz.prog 158 = .some false := by kernel_rfl
@[go_sem] theorem tk_159 : tk Tryz.prog 159 = .other := by kernel_rfl
@[go_sem] theorem tsz_159 : tsz Tryz.prog 159 = .some 1 := by kernel_rfl
@[go_sem] theorem tby_159 : tby Tryz.prog 159 = .some 8 := by kernel_rfl
@[go_sem] theorem tz_159 : tz Tryz.prog 159 = .some [(.v .nilFunc)] := by kernel_rfl
@[go_sem] theorem tagg_159 : tagg Tryz.prog 159 = .some false := by kernel_rfl
@[go_sem] theorem tk_160 : tk Tryz.prog 160 = .sl 92 := by kernel_rfl
@[go_sem] theorem tsz_160 : tsz Tryz.prog 160 = .some 1 := by kernel_rfl
@[go_sem] theorem tby_160 : tby Tryz.prog 160 = .some 24 := by kernel_rfl
@[go_sem] theorem tz_160 : tz Tryz.prog 160 = .some [(.v (.slice .none 0 0))] := by kernel_rfl
@[go_sem] theorem tagg_160 : tagg Tryz.prog 160 = .some false := by kernel_rfl
@[go_sem] theorem tk_161 : tk Tryz.prog 161 = .other := by kernel_rfl
@[go_sem] theorem tsz_161 : tsz Tryz.prog 161 = .some 1 := by kernel_rfl
@[go_sem] theorem tby_161 : tby Tryz.prog 161 = .some 8 := by kernel_rfl
@[go_sem] theorem tz_161 : tz Tryz.prog 161 = .some [(.v .nilFunc)] := by kernel_rfl
@[go_sem] theorem tagg_161 : tagg Tryz.prog 161 = .some false := by kernel_rfl
@[go_sem] theorem tk_162 : tk Tryz.prog 162 = .other := by kernel_rfl
@[go_sem] theorem tsz_162 : tsz Tryz.prog 162 = .some 1 := by kernel_rfl
@[go_sem] theorem tby_162 : tby Tryz.prog 162 = .some 8 := by kernel_rfl
@[go_sem] theorem tz_162 : tz Tryz.prog 162 = .some [(.v .nilFunc)] := by kernel_rfl
@[go_sem] theorem tagg_162 : tagg Tryz.prog 162 = .some false := by kernel_rfl
@[go_sem] theorem tk_163 : tk Tryz.prog 163 = .other := by kernel_rfl
@[go_sem] theorem tsz_163 : tsz Tryz.prog 163 = .some 1 := by kernel_rfl
@[go_sem] theorem tby_163 : tby Tryz.prog 163 = .some 8 := by kernel_rfl
@[go_sem] theorem tz_163 : tz Tryz.prog 163 = .some [(.v .nilFunc)] := by kernel_rfl
@[go_sem] theorem tagg_163 : tagg Tryz.prog 163 = .some false := by kernel_rfl
@[go_sem] theorem tk_164 : tk Tryz.prog 164 = .other := by kernel_rfl
@[go_sem] theorem tsz_164 : tsz Tryz.prog 164 = .some 1 := by kernel_rfl
@[go_sem] theorem tby_164 : tby Tryz.prog 164 = .some 8 := by kernel_rfl
@[go_sem] theorem tz_164 : tz Tryz.prog 164 = .some [(.v .nilFunc)] := by kernel_rfl
@[go_sem] theorem tagg_164 : tagg Tryz.prog 164 = .some false := by kernel_rfl
@[go_sem] theorem tk_165 : tk Tryz.prog 165 = .other := by kernel_rfl
@[go_sem] theorem tsz_165 : tsz Tryz.prog 165 = .some 1 := by kernel_rfl
@[go_sem] theorem tby_165 : tby Tryz.prog 165 = .some 8 := by kernel_rfl
@[go_sem] theorem tz_165 : tz Tryz.prog 165 = .some [(.v .nilFunc)] := by kernel_rfl
@[go_sem] theorem tagg_165 : tagg Tryz.prog 165 = .some false := by kernel_rfl
@[go_sem] theorem tk_166 : tk Tryz.prog 166 = .other := by kernel_rfl
@[go_sem] theorem tsz_166 : tsz Tryz.prog 166 = .some 1 := by kernel_rfl
@[go_sem] theorem tby_166 : tby Tryz.prog 166 = .some 8 := by kernel_rfl
@[go_sem] theorem tz_166 : tz Tryz.prog 166 = .some [(.v .nilFunc)] := by kernel_rfl
@[go_sem] theorem tagg_166 : tagg Tryz.prog 166 = .some false := by kernel_rfl
@[go_sem] theorem tk_167 : tk Tryz.prog 167 = .str := by kernel_rfl
@[go_sem] theorem tsz_167 : tsz Tryz.prog 167 = .some 4 := by kernel_rfl
@[go_sem] theorem tby_167 : tby Tryz.prog 167 = .some 40 := by kernel_rfl
@[go_sem] theorem tz_167 : tz Tryz.prog 167 = .some [(.v (.pointer .none)), (.v (.pointer .none)), (.v (.pointer .none)), (.v (.string ⟨⟨[]⟩⟩))] := by kernel_rfl
@[go_sem] theorem tagg_167 : tagg Tryz.prog 167 = .some true := by kernel_rfl
@[go_sem] theorem tfi_167 : tfi Tryz.prog 167 = true := by kernel_rfl
@[go_sem] theorem ftyp_167_0 : ftyp Tryz.prog 167 0 = .some 17 := by kernel_rfl
@[go_sem] theorem foff_167_0 : foff Tryz.prog 167 0 = .some 0 := by kernel_rfl
@[go_sem] theorem ftyp_167_1 : ftyp Tryz.prog 167 1 = .some 17 := by kernel_rfl
@[go_sem] theorem foff_167_1 : foff Tryz.prog 167 1 = .some 1 := by kernel_rfl
@[go_sem] theorem ftyp_167_2 : ftyp Tryz.prog 167 2 = .some 17 := by kernel_rfl
@[go_sem] theorem foff_167_2 : foff Tryz.prog 167 2 = .some 2 := by kernel_rfl
@[go_sem] theorem ftyp_167_3 : ftyp Tryz.prog 167 3 = .some 9 := by kernel_rfl
@[go_sem] theorem foff_167_3 : foff Tryz.prog 167 3 = .some 3 := by kernel_rfl
@[go_sem] theorem tk_168 : tk Tryz.prog 168 = .str := by kernel_rfl
@[go_sem] theorem tsz_168 : tsz Tryz.prog 168 = .some 4 := by kernel_rfl
@[go_sem] theorem tby_168 : tby Tryz.prog 168 = .some 40 := by kernel_rfl
@[go_sem] theorem tz_168 : tz Tryz.prog 168 = .some [(.v (.pointer .none)), (.v (.pointer .none)), (.v (.pointer .none)), (.v (.string ⟨⟨[]⟩⟩))] := by kernel_rfl
@[go_sem] theorem tagg_168 : tagg Tryz.prog 168 = .some true := by kernel_rfl
@[go_sem] theorem tfi_168 : tfi Tryz.prog 168 = true := by kernel_rfl
@[go_sem] theorem ftyp_168_0 : ftyp Tryz.prog 168 0 = .some 17 := by kernel_rfl
@[go_sem] theorem foff_168_0 : foff Tryz.prog 168 0 = .some 0 := by kernel_rfl
@[go_sem] theorem ftyp_168_1 : ftyp Tryz.prog 168 1 = .some 17 := by kernel_rfl
@[go_sem] theorem foff_168_1 : foff Tryz.prog 168 1 = .some 1 := by kernel_rfl
@[go_sem] theorem ftyp_168_2 : ftyp Tryz.prog 168 2 = .some 17 := by kernel_rfl
@[go_sem] theorem foff_168_2 : foff Tryz.prog 168 2 = .some 2 := by kernel_rfl
@[go_sem] theorem ftyp_168_3 : ftyp Tryz.prog 168 3 = .some 9 := by kernel_rfl
@[go_sem] theorem foff_168_3 : foff Tryz.prog 168 3 = .some 3 := by kernel_rfl
@[go_sem] theorem tk_169 : tk Tryz.prog 169 = .arr 0 16 := by kernel_rfl
@[go_sem] theorem tsz_169 : tsz Tryz.prog 169 = .some 0 := by kernel_rfl
@[go_sem] theorem tby_169 : tby Tryz.prog 169 = .some 0 := by kernel_rfl
@[go_sem] theorem tz_169 : tz Tryz.prog 169 = .some [] := by kernel_rfl
@[go_sem] theorem tagg_169 : tagg Tryz.prog 169 = .some true := by kernel_rfl
@[go_sem] theorem tk_170 : tk Tryz.prog 170 = .str := by kernel_rfl
@[go_sem] theorem tsz_170 : tsz Tryz.prog 170 = .some 0 := by kernel_rfl
@[go_sem] theorem tby_170 : tby Tryz.prog 170 = .some 0 := by kernel_rfl
@[go_sem] theorem tz_170 : tz Tryz.prog 170 = .some [] := by kernel_rfl
@[go_sem] theorem tagg_170 : tagg Tryz.prog 170 = .some true := by kernel_rfl
@[go_sem] theorem tfi_170 : tfi Tryz.prog 170 = true := by kernel_rfl
@[go_sem] theorem ftyp_170_0 : ftyp Tryz.prog 170 0 = .some 169 := by kernel_rfl
@[go_sem] theorem foff_170_0 : foff Tryz.prog 170 0 = .none := by kernel_rfl
@[go_sem] theorem tk_171 : tk Tryz.prog 171 = .str := by kernel_rfl
@[go_sem] theorem tsz_171 : tsz Tryz.prog 171 = .some 0 := by kernel_rfl
@[go_sem] theorem tby_171 : tby Tryz.prog 171 = .some 0 := by kernel_rfl
@[go_sem] theorem tz_171 : tz Tryz.prog 171 = .some [] := by kernel_rfl
@[go_sem] theorem tagg_171 : tagg Tryz.prog 171 = .some true := by kernel_rfl
@[go_sem] theorem tfi_171 : tfi Tryz.prog 171 = true := by kernel_rfl
@[go_sem] theorem ftyp_171_0 : ftyp Tryz.prog 171 0 = .some 169 := by kernel_rfl
@[go_sem] theorem foff_171_0 : foff Tryz.prog 171 0 = .none := by kernel_rfl
@[go_sem] theorem tk_172 : tk Tryz.prog 172 = .other := by kernel_rfl
@[go_sem] theorem tsz_172 : tsz Tryz.prog 172 = .some 1 := by kernel_rfl
@[go_sem] theorem tby_172 : tby Tryz.prog 172 = .some 8 := by kernel_rfl
@[go_sem] theorem tz_172 : tz Tryz.prog 172 = .some [(.v .nilFunc)] := by kernel_rfl
@[go_sem] theorem tagg_172 : tagg Tryz.prog 172 = .some false := by kernel_rfl
@[go_sem] theorem tk_173 : tk Tryz.prog 173 = .int .u32 := by kernel_rfl
@[go_sem] theorem tsz_173 : tsz Tryz.prog 173 = .some 1 := by kernel_rfl
@[go_sem] theorem tby_173 : tby Tryz.prog 173 = .some 4 := by kernel_rfl
@[go_sem] theorem tz_173 : tz Tryz.prog 173 = .some [(.v (.int .u32 0))] := by kernel_rfl
@[go_sem] theorem tagg_173 : tagg Tryz.prog 173 = .some false := by kernel_rfl
@[go_sem] theorem tk_174 : tk Tryz.prog 174 = .int .u8 := by kernel_rfl
@[go_sem] theorem tsz_174 : tsz Tryz.prog 174 = .some 1 := by kernel_rfl
@[go_sem] theorem tby_174 : tby Tryz.prog 174 = .some 1 := by kernel_rfl
@[go_sem] theorem tz_174 : tz Tryz.prog 174 = .some [(.v (.int .u8 0))] := by kernel_rfl
@[go_sem] theorem tagg_174 : tagg Tryz.prog 174 = .some false := by kernel_rfl
@[go_sem] theorem tk_175 : tk Tryz.prog 175 = .int .u8 := by kernel_rfl
@[go_sem] theorem tsz_175 : tsz Tryz.prog 175 = .some 1 := by kernel_rfl
@[go_sem] theorem tby_175 : tby Tryz.prog 175 = .some 1 := by kernel_rfl
@[go_sem] theorem tz_175 : tz Tryz.prog 175 = .some [(.v (.int .u8 0))] := by kernel_rfl
@[go_sem] theorem tagg_175 : tagg Tryz.prog 175 = .some false := by kernel_rfl
@[go_sem] theorem tk_176 : tk Tryz.prog 176 = .other := by kernel_rfl
@[go_sem] theorem tsz_176 : tsz Tryz.prog 176 = .some 1 := by kernel_rfl
@[go_sem] theorem tby_176 : tby Tryz.prog 176 = .some 8 := by kernel_rfl
@[go_sem] theorem tz_176 : tz Tryz.prog 176 = .some [(.v .nilFunc)] := by kernel_rfl
@[go_sem] theorem tagg_176 : tagg Tryz.prog 176 = .some false := by kernel_rfl
@[go_sem] theorem tk_177 : tk Tryz.prog 177 = .ptr 5 := by kernel_rfl
@[go_sem] theorem tsz_177 : tsz Tryz.prog 177 = .some 1 := by kernel_rfl
@[go_sem] theorem tby_177 : tby Tryz.prog 177 = .some 8 := by kernel_rfl
@[go_sem] theorem tz_177 : tz Tryz.prog 177 = .some [(.v (.pointer .none))] := by kernel_rfl
@[go_sem] theorem tagg_177 : tagg Tryz.prog 177 = .some false := by kernel_rfl
@[go_sem] theorem tk_178 : tk Tryz.prog 178 = .int .i32 := by kernel_rfl
@[go_sem] theorem tsz_178 : tsz Tryz.prog 178 = .some 1 := by kernel_rfl
@[go_sem] theorem tby_178 : tby Tryz.prog 178 = .some 4 := by kernel_rfl
@[go_sem] theorem tz_178 : tz Tryz.prog 178 = .some [(.v (.int .i32 0))] := by kernel_rfl
@[go_sem] theorem tagg_178 : tagg Tryz.prog 178 = .some false := by kernel_rfl
@[go_sem] theorem tk_179 : tk Tryz.prog 179 = .int .i32 := by kernel_rfl
@[go_sem] theorem tsz_179 : tsz Tryz.prog 179 = .some 1 := by kernel_rfl
@[go_sem] theorem tby_179 : tby Tryz.prog 179 = .some 4 := by kernel_rfl
@[go_sem] theorem tz_179 : tz Tryz.prog 179 = .some [(.v (.int .i32 0))] := by kernel_rfl
@[go_sem] theorem tagg_179 : tagg Tryz.prog 179 = .some false := by kernel_rfl
@[go_sem] theorem tk_180 : tk Tryz.prog 180 = .str := by kernel_rfl
@[go_sem] theorem tsz_180 : tsz Tryz.prog 180 = .some 11 := by kernel_rfl
@[go_sem] theorem tby_180 : tby Tryz.prog 180 = .some 48 := by kernel_rfl
@[go_sem] theorem tz_180 : tz Tryz.prog 180 = .some [(.v (.int .u64 0)), (.v (.int .u64 0)), (.v (.int .u32 0)), (.v (.int .u8 0)), (.v (.int .u8 0)), (.v (.int .u8 0)), (.v (.int .u8 0)), (.v .nilFunc), (.v (.pointer .none)), (.v (.int .i32 0)), (.v (.int .i32 0))] := by kernel_rfl
@[go_sem] theorem tagg_180 : tagg Tryz.prog 180 = .some true := by kernel_rfl
@[go_sem] theorem tfi_180 : tfi Tryz.prog 180 = true := by kernel_rfl
@[go_sem] theorem ftyp_180_0 : ftyp Tryz.prog 180 0 = .some 12 := by kernel_rfl
@[go_sem] theorem foff_180_0 : foff Tryz.prog 180 0 = .some 0 := by kernel_rfl
@[go_sem] theorem ftyp_180_1 : ftyp Tryz.prog 180 1 = .some 12 := by kernel_rfl
@[go_sem] theorem foff_180_1 : foff Tryz.prog 180 1 = .some 1 := by kernel_rfl
@[go_sem] theorem ftyp_180_2 : ftyp Tryz.prog 180 2 = .some 173 := by kernel_rfl
@[go_sem] theorem foff_180_2 : foff Tryz.prog 180 2 = .some 2 := by kernel_rfl
@[go_sem] theorem ftyp_180_3 : ftyp Tryz.prog 180 3 = .some 174 := by kernel_rfl
@[go_sem] theorem foff_180_3 : foff Tryz.prog 180 3 = .some 3 := by kernel_rfl
@[go_sem] theorem ftyp_180_4 : ftyp Tryz.prog 180 4 = .some 5 := by kernel_rfl
@[go_sem] theorem foff_180_4 : foff Tryz.prog 180 4 = .some 4 := by kernel_rfl
@[go_sem] theorem ftyp_180_5 : ftyp Tryz.prog 180 5 = .some 5 := by kernel_rfl
@[go_sem] theorem foff_180_5 : foff Tryz.prog 180 5 = .some 5 := by kernel_rfl
@[go_sem] theorem ftyp_180_6 : ftyp Tryz.prog 180 6 = .some 175 := by kernel_rfl
@[go_sem] theorem foff_180_6 : foff Tryz.prog 180 6 = .some 6 := by kernel_rfl
@[go_sem] theorem ftyp_180_7 : ftyp Tryz.prog 180 7 = .some 176 := by kernel_rfl
@[go_sem] theorem foff_180_7 : foff Tryz.prog 180 7 = .some 7 := by kernel_rfl
@[go_sem] theorem ftyp_180_8 : ftyp Tryz.prog 180 8 = .some 177 := by kernel_rfl
@[go_sem] theorem foff_180_8 : foff Tryz.prog 180 8 = .some 8 := by kernel_rfl
@[go_sem] theorem ftyp_180_9 : ftyp Tryz.prog 180 9 = .some 178 := by kernel_rfl
@[go_sem] theorem foff_180_9 : foff Tryz.prog 180 9 = .some 9 := by kernel_rfl
@[go_sem] theorem ftyp_180_10 : ftyp Tryz.prog 180 10 = .some 179 := by kernel_rfl
@[go_sem] theorem foff_180_10 : foff Tryz.prog 180 10 = .some 10 := by kernel_rfl
@[go_sem] theorem tk_181 : tk Tryz.prog 181 = .str := by kernel_rfl
@[go_sem] theorem tsz_181 : tsz Tryz.prog 181 = .some 11 := by kernel_rfl
@[go_sem] theorem tby_181 : tby Tryz.prog 181 = .some 48 := by kernel_rfl
@[go_sem] theorem tz_181 : tz Tryz.prog 181 = .some [(.v (.int .u64 0)), (.v (.int .u64 0)), (.v (.int .u32 0)), (.v (.int .u8 0)), (.v (.int .u8 0)), (.v (.int .u8 0)), (.v (.int .u8 0)), (.v .nilFunc), (.v (.pointer .none)), (.v (.int .i32 0)), (.v (.int .i32 0))] := by kernel_rfl
@[go_sem] theorem tagg_181 : tagg Tryz.prog 181 = .some true := by kernel_rfl
@[go_sem] theorem tfi_181 : tfi Tryz.prog 181 = true := by kernel_rfl
@[go_sem] theorem ftyp_181_0 : ftyp Tryz.prog 181 0 = .some 12 := by kernel_rfl
@[go_sem] theorem foff_181_0 : foff Tryz.prog 181 0 = .some 0 := by kernel_rfl
@[go_sem] theorem ftyp_181_1 : ftyp Tryz.prog 181 1 = .some 12 := by kernel_rfl
@[go_sem] theorem foff_181_1 : foff Tryz.prog 181 1 = .some 1 := by kernel_rfl
@[go_sem] theorem ftyp_181_2 : ftyp Tryz.prog 181 2 = .some 173 := by kernel_rfl
@[go_sem] theorem foff_181_2 : foff Tryz.prog 181 2 = .some 2 := by kernel_rfl
@[go_sem] theorem ftyp_181_3 : ftyp Tryz.prog 181 3 = .some 174 := by kernel_rfl
@[go_sem] theorem foff_181_3 : foff Tryz.prog 181 3 = .some 3 := by kernel_rfl
@[go_sem] theorem ftyp_181_4 : ftyp Tryz.prog 181 4 = .some 5 := by kernel_rfl
@[go_sem] theorem foff_181_4 : foff Tryz.prog 181 4 = .some 4 := by kernel_rfl
@[go_sem] theorem ftyp_181_5 : ftyp Tryz.prog 181 5 = .some 5 := by kernel_rfl
@[go_sem] theorem foff_181_5 : foff Tryz.prog 181 5 = .some 5 := by kernel_rfl
@[go_sem] theorem ftyp_181_6 : ftyp Tryz.prog 181 6 = .some 175 := by kernel_rfl
@[go_sem] theorem foff_181_6 : foff Tryz.prog 181 6 = .some 6 := by kernel_rfl
@[go_sem] theorem ftyp_181_7 : ftyp Tryz.prog 181 7 = .some 176 := by kernel_rfl
@[go_sem] theorem foff_181_7 : foff Tryz.prog 181 7 = .some 7 := by kernel_rfl
@[go_sem] theorem ftyp_181_8 : ftyp Tryz.prog 181 8 = .some 177 := by kernel_rfl
@[go_sem] theorem foff_181_8 : foff Tryz.prog 181 8 = .some 8 := by kernel_rfl
@[go_sem] theorem ftyp_181_9 : ftyp Tryz.prog 181 9 = .some 178 := by kernel_rfl
@[go_sem] theorem foff_181_9 : foff Tryz.prog 181 9 = .some 9 := by kernel_rfl
@[go_sem] theorem ftyp_181_10 : ftyp Tryz.prog 181 10 = .some 179 := by kernel_rfl
@[go_sem] theorem foff_181_10 : foff Tryz.prog 181 10 = .some 10 := by kernel_rfl
@[go_sem] theorem tk_182 : tk Tryz.prog 182 = .other := by kernel_rfl
@[go_sem] theorem tsz_182 : tsz Tryz.prog 182 = .some 1 := by kernel_rfl
@[go_sem] theorem tby_182 : tby Tryz.prog 182 = .some 8 := by kernel_rfl
@[go_sem] theorem tz_182 : tz Tryz.prog 182 = .some [(.v (.pointer .none))] := by kernel_rfl
@[go_sem] theorem tagg_182 : tagg Tryz.prog 182 = .some false := by kernel_rfl
@[go_sem] theorem tk_183 : tk Tryz.prog 183 = .other := by kernel_rfl
@[go_sem] theorem tk_184 : tk Tryz.prog 184 = .other := by kernel_rfl
@[go_sem] theorem tk_185 : tk Tryz.prog 185 = .other := by kernel_rfl
@[go_sem] theorem tk_186 : tk Tryz.prog 186 = .other := by kernel_rfl
@[go_sem] theorem tk_187 : tk Tryz.prog 187 = .other := by kernel_rfl
@[go_sem] theorem tk_188 : tk Tryz.prog 188 = .other := by kernel_rfl
@[go_sem] theorem tk_189 : tk Tryz.prog 189 = .other := by kernel_rfl
@[go_sem] theorem tk_190 : tk Tryz.prog 190 = .other := by kernel_rfl
@[go_sem] theorem tk_191 : tk Tryz.prog 191 = .other := by kernel_rfl
@[go_sem] theorem tk_192 : tk Tryz.prog 192 = .other := by kernel_rfl
@[go_sem] theorem tk_193 : tk Tryz.prog 193 = .other := by kernel_rfl
@[go_sem] theorem tk_198 : tk Tryz.prog 198 = .other := by kernel_rfl
@[go_sem] theorem tk_200 : tk Tryz.prog 200 = .other := by kernel_rfl
@[go_sem] theorem tk_203 : tk Tryz.prog 203 = .other := by kernel_rfl
@[go_sem] theorem tk_216 : tk Tryz.prog 216 = .other := by kernel_rfl
@[go_sem] theorem tk_220 : tk Tryz.prog 220 = .other := by kernel_rfl
end Go.Av
end
