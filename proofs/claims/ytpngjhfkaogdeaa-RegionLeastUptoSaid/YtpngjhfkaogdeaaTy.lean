/- The facts of the types: printed by a program of ours (types.sh). -/
import Derived.Test.YtpngjhfkaogdeaaAv4
import Derived.Test.YtpngjhfkaogdeaaProg
section
set_option linter.unusedVariables false
namespace Go.Av
open Go Go.Proofs
@[go_sem] theorem tk_0 : tk Try.prog 0 = .other := by kernel_rfl
@[go_sem] theorem tsz_0 : tsz Try.prog 0 = .some 1 := by kernel_rfl
@[go_sem] theorem tby_0 : tby Try.prog 0 = .some 0 := by kernel_rfl
@[go_sem] theorem tagg_0 : tagg Try.prog 0 = .some false := by kernel_rfl
@[go_sem] theorem tk_1 : tk Try.prog 1 = .other := by kernel_rfl
@[go_sem] theorem tsz_1 : tsz Try.prog 1 = .some 1 := by kernel_rfl
@[go_sem] theorem tby_1 : tby Try.prog 1 = .some 8 := by kernel_rfl
@[go_sem] theorem tz_1 : tz Try.prog 1 = .some [(.v .nilFunc)] := by kernel_rfl
@[go_sem] theorem tagg_1 : tagg Try.prog 1 = .some false := by kernel_rfl
@[go_sem] theorem tk_2 : tk Try.prog 2 = .int .i64 := by kernel_rfl
@[go_sem] theorem tsz_2 : tsz Try.prog 2 = .some 1 := by kernel_rfl
@[go_sem] theorem tby_2 : tby Try.prog 2 = .some 8 := by kernel_rfl
@[go_sem] theorem tz_2 : tz Try.prog 2 = .some [(.v (.int .i64 0))] := by kernel_rfl
@[go_sem] theorem tagg_2 : tagg Try.prog 2 = .some false := by kernel_rfl
@[go_sem] theorem tk_3 : tk Try.prog 3 = .int .i64 := by kernel_rfl
@[go_sem] theorem tsz_3 : tsz Try.prog 3 = .some 1 := by kernel_rfl
@[go_sem] theorem tby_3 : tby Try.prog 3 = .some 8 := by kernel_rfl
@[go_sem] theorem tz_3 : tz Try.prog 3 = .some [(.v (.int .i64 0))] := by kernel_rfl
@[go_sem] theorem tagg_3 : tagg Try.prog 3 = .some false := by kernel_rfl
@[go_sem] theorem tk_4 : tk Try.prog 4 = .bool := by kernel_rfl
@[go_sem] theorem tsz_4 : tsz Try.prog 4 = .some 1 := by kernel_rfl
@[go_sem] theorem tby_4 : tby Try.prog 4 = .some 1 := by kernel_rfl
@[go_sem] theorem tz_4 : tz Try.prog 4 = .some [(.v (.bool false))] := by kernel_rfl
@[go_sem] theorem tagg_4 : tagg Try.prog 4 = .some false := by kernel_rfl
@[go_sem] theorem tk_5 : tk Try.prog 5 = .int .u8 := by kernel_rfl
@[go_sem] theorem tsz_5 : tsz Try.prog 5 = .some 1 := by kernel_rfl
@[go_sem] theorem tby_5 : tby Try.prog 5 = .some 1 := by kernel_rfl
@[go_sem] theorem tz_5 : tz Try.prog 5 = .some [(.v (.int .u8 0))] := by kernel_rfl
@[go_sem] theorem tagg_5 : tagg Try.prog 5 = .some false := by kernel_rfl
@[go_sem] theorem tk_6 : tk Try.prog 6 = .int .u8 := by kernel_rfl
@[go_sem] theorem tsz_6 : tsz Try.prog 6 = .some 1 := by kernel_rfl
@[go_sem] theorem tby_6 : tby Try.prog 6 = .some 1 := by kernel_rfl
@[go_sem] theorem tz_6 : tz Try.prog 6 = .some [(.v (.int .u8 0))] := by kernel_rfl
@[go_sem] theorem tagg_6 : tagg Try.prog 6 = .some false := by kernel_rfl
@[go_sem] theorem tk_7 : tk Try.prog 7 = .str := by kernel_rfl
@[go_sem] theorem tsz_7 : tsz Try.prog 7 = .some 4 := by kernel_rfl
@[go_sem] theorem tby_7 : tby Try.prog 7 = .some 24 := by kernel_rfl
@[go_sem] theorem tz_7 : tz Try.prog 7 = .some [(.v (.int .i64 0)), (.v (.int .i64 0)), (.v (.bool false)), (.v (.int .u8 0))] := by kernel_rfl
@[go_sem] theorem tagg_7 : tagg Try.prog 7 = .some true := by kernel_rfl
@[go_sem] theorem tfi_7 : tfi Try.prog 7 = true := by kernel_rfl
@[go_sem] theorem ftyp_7_0 : ftyp Try.prog 7 0 = .some 2 := by kernel_rfl
@[go_sem] theorem foff_7_0 : foff Try.prog 7 0 = .some 0 := by kernel_rfl
@[go_sem] theorem ftyp_7_1 : ftyp Try.prog 7 1 = .some 3 := by kernel_rfl
@[go_sem] theorem foff_7_1 : foff Try.prog 7 1 = .some 1 := by kernel_rfl
@[go_sem] theorem ftyp_7_2 : ftyp Try.prog 7 2 = .some 4 := by kernel_rfl
@[go_sem] theorem foff_7_2 : foff Try.prog 7 2 = .some 2 := by kernel_rfl
@[go_sem] theorem ftyp_7_3 : ftyp Try.prog 7 3 = .some 6 := by kernel_rfl
@[go_sem] theorem foff_7_3 : foff Try.prog 7 3 = .some 3 := by kernel_rfl
@[go_sem] theorem tk_8 : tk Try.prog 8 = .str := by kernel_rfl
@[go_sem] theorem tsz_8 : tsz Try.prog 8 = .some 4 := by kernel_rfl
@[go_sem] theorem tby_8 : tby Try.prog 8 = .some 24 := by kernel_rfl
@[go_sem] theorem tz_8 : tz Try.prog 8 = .some [(.v (.int .i64 0)), (.v (.int .i64 0)), (.v (.bool false)), (.v (.int .u8 0))] := by kernel_rfl
@[go_sem] theorem tagg_8 : tagg Try.prog 8 = .some true := by kernel_rfl
@[go_sem] theorem tfi_8 : tfi Try.prog 8 = true := by kernel_rfl
@[go_sem] theorem ftyp_8_0 : ftyp Try.prog 8 0 = .some 2 := by kernel_rfl
@[go_sem] theorem foff_8_0 : foff Try.prog 8 0 = .some 0 := by kernel_rfl
@[go_sem] theorem ftyp_8_1 : ftyp Try.prog 8 1 = .some 3 := by kernel_rfl
@[go_sem] theorem foff_8_1 : foff Try.prog 8 1 = .some 1 := by kernel_rfl
@[go_sem] theorem ftyp_8_2 : ftyp Try.prog 8 2 = .some 4 := by kernel_rfl
@[go_sem] theorem foff_8_2 : foff Try.prog 8 2 = .some 2 := by kernel_rfl
@[go_sem] theorem ftyp_8_3 : ftyp Try.prog 8 3 = .some 6 := by kernel_rfl
@[go_sem] theorem foff_8_3 : foff Try.prog 8 3 = .some 3 := by kernel_rfl
@[go_sem] theorem tk_9 : tk Try.prog 9 = .string := by kernel_rfl
@[go_sem] theorem tsz_9 : tsz Try.prog 9 = .some 1 := by kernel_rfl
@[go_sem] theorem tby_9 : tby Try.prog 9 = .some 16 := by kernel_rfl
@[go_sem] theorem tz_9 : tz Try.prog 9 = .some [(.v (.string ⟨⟨[]⟩⟩))] := by kernel_rfl
@[go_sem] theorem tagg_9 : tagg Try.prog 9 = .some false := by kernel_rfl
@[go_sem] theorem tk_10 : tk Try.prog 10 = .string := by kernel_rfl
@[go_sem] theorem tsz_10 : tsz Try.prog 10 = .some 1 := by kernel_rfl
@[go_sem] theorem tby_10 : tby Try.prog 10 = .some 16 := by kernel_rfl
@[go_sem] theorem tz_10 : tz Try.prog 10 = .some [(.v (.string ⟨⟨[]⟩⟩))] := by kernel_rfl
@[go_sem] theorem tagg_10 : tagg Try.prog 10 = .some false := by kernel_rfl
@[go_sem] theorem tk_11 : tk Try.prog 11 = .string := by kernel_rfl
@[go_sem] theorem tsz_11 : tsz Try.prog 11 = .some 1 := by kernel_rfl
@[go_sem] theorem tby_11 : tby Try.prog 11 = .some 16 := by kernel_rfl
@[go_sem] theorem tz_11 : tz Try.prog 11 = .some [(.v (.string ⟨⟨[]⟩⟩))] := by kernel_rfl
@[go_sem] theorem tagg_11 : tagg Try.prog 11 = .some false := by kernel_rfl
@[go_sem] theorem tk_12 : tk Try.prog 12 = .int .u64 := by kernel_rfl
@[go_sem] theorem tsz_12 : tsz Try.prog 12 = .some 1 := by kernel_rfl
@[go_sem] theorem tby_12 : tby Try.prog 12 = .some 8 := by kernel_rfl
@[go_sem] theorem tz_12 : tz Try.prog 12 = .some [(.v (.int .u64 0))] := by kernel_rfl
@[go_sem] theorem tagg_12 : tagg Try.prog 12 = .some false := by kernel_rfl
@[go_sem] theorem tk_13 : tk Try.prog 13 = .str := by kernel_rfl
@[go_sem] theorem tsz_13 : tsz Try.prog 13 = .some 2 := by kernel_rfl
@[go_sem] theorem tby_13 : tby Try.prog 13 = .some 24 := by kernel_rfl
@[go_sem] theorem tz_13 : tz Try.prog 13 = .some [(.v (.string ⟨⟨[]⟩⟩)), (.v (.int .u64 0))] := by kernel_rfl
@[go_sem] theorem tagg_13 : tagg Try.prog 13 = .some true := by kernel_rfl
@[go_sem] theorem tfi_13 : tfi Try.prog 13 = true := by kernel_rfl
@[go_sem] theorem ftyp_13_0 : ftyp Try.prog 13 0 = .some 9 := by kernel_rfl
@[go_sem] theorem foff_13_0 : foff Try.prog 13 0 = .some 0 := by kernel_rfl
@[go_sem] theorem ftyp_13_1 : ftyp Try.prog 13 1 = .some 12 := by kernel_rfl
@[go_sem] theorem foff_13_1 : foff Try.prog 13 1 = .some 1 := by kernel_rfl
@[go_sem] theorem tk_14 : tk Try.prog 14 = .str := by kernel_rfl
@[go_sem] theorem tsz_14 : tsz Try.prog 14 = .some 2 := by kernel_rfl
@[go_sem] theorem tby_14 : tby Try.prog 14 = .some 24 := by kernel_rfl
@[go_sem] theorem tz_14 : tz Try.prog 14 = .some [(.v (.string ⟨⟨[]⟩⟩)), (.v (.int .u64 0))] := by kernel_rfl
@[go_sem] theorem tagg_14 : tagg Try.prog 14 = .some true := by kernel_rfl
@[go_sem] theorem tfi_14 : tfi Try.prog 14 = true := by kernel_rfl
@[go_sem] theorem ftyp_14_0 : ftyp Try.prog 14 0 = .some 9 := by kernel_rfl
@[go_sem] theorem foff_14_0 : foff Try.prog 14 0 = .some 0 := by kernel_rfl
@[go_sem] theorem ftyp_14_1 : ftyp Try.prog 14 1 = .some 12 := by kernel_rfl
@[go_sem] theorem foff_14_1 : foff Try.prog 14 1 = .some 1 := by kernel_rfl
@[go_sem] theorem tk_15 : tk Try.prog 15 = .ptr 166 := by kernel_rfl
@[go_sem] theorem tsz_15 : tsz Try.prog 15 = .some 1 := by kernel_rfl
@[go_sem] theorem tby_15 : tby Try.prog 15 = .some 8 := by kernel_rfl
@[go_sem] theorem tz_15 : tz Try.prog 15 = .some [(.v (.pointer .none))] := by kernel_rfl
@[go_sem] theorem tagg_15 : tagg Try.prog 15 = .some false := by kernel_rfl
@[go_sem] theorem tk_16 : tk Try.prog 16 = .ptr 169 := by kernel_rfl
@[go_sem] theorem tsz_16 : tsz Try.prog 16 = .some 1 := by kernel_rfl
@[go_sem] theorem tby_16 : tby Try.prog 16 = .some 8 := by kernel_rfl
@[go_sem] theorem tz_16 : tz Try.prog 16 = .some [(.v (.pointer .none))] := by kernel_rfl
@[go_sem] theorem tagg_16 : tagg Try.prog 16 = .some false := by kernel_rfl
@[go_sem] theorem tk_17 : tk Try.prog 17 = .ptr 179 := by kernel_rfl
@[go_sem] theorem tsz_17 : tsz Try.prog 17 = .some 1 := by kernel_rfl
@[go_sem] theorem tby_17 : tby Try.prog 17 = .some 8 := by kernel_rfl
@[go_sem] theorem tz_17 : tz Try.prog 17 = .some [(.v (.pointer .none))] := by kernel_rfl
@[go_sem] theorem tagg_17 : tagg Try.prog 17 = .some false := by kernel_rfl
@[go_sem] theorem tk_18 : tk Try.prog 18 = .str := by kernel_rfl
@[go_sem] theorem tsz_18 : tsz Try.prog 18 = .some 1 := by kernel_rfl
@[go_sem] theorem tby_18 : tby Try.prog 18 = .some 8 := by kernel_rfl
@[go_sem] theorem tz_18 : tz Try.prog 18 = .some [(.v (.pointer .none))] := by kernel_rfl
@[go_sem] theorem tagg_18 : tagg Try.prog 18 = .some true := by kernel_rfl
@[go_sem] theorem tfi_18 : tfi Try.prog 18 = true := by kernel_rfl
@[go_sem] theorem ftyp_18_0 : ftyp Try.prog 18 0 = .some 17 := by kernel_rfl
@[go_sem] theorem foff_18_0 : foff Try.prog 18 0 = .some 0 := by kernel_rfl
@[go_sem] theorem tk_19 : tk Try.prog 19 = .str := by kernel_rfl
@[go_sem] theorem tsz_19 : tsz Try.prog 19 = .some 1 := by kernel_rfl
@[go_sem] theorem tby_19 : tby Try.prog 19 = .some 8 := by kernel_rfl
@[go_sem] theorem tz_19 : tz Try.prog 19 = .some [(.v (.pointer .none))] := by kernel_rfl
@[go_sem] theorem tagg_19 : tagg Try.prog 19 = .some true := by kernel_rfl
@[go_sem] theorem tfi_19 : tfi Try.prog 19 = true := by kernel_rfl
@[go_sem] theorem ftyp_19_0 : ftyp Try.prog 19 0 = .some 17 := by kernel_rfl
@[go_sem] theorem foff_19_0 : foff Try.prog 19 0 = .some 0 := by kernel_rfl
@[go_sem] theorem tk_20 : tk Try.prog 20 = .other := by kernel_rfl
@[go_sem] theorem tsz_20 : tsz Try.prog 20 = .some 1 := by kernel_rfl
@[go_sem] theorem tby_20 : tby Try.prog 20 = .some 16 := by kernel_rfl
@[go_sem] theorem tz_20 : tz Try.prog 20 = .some [(.v .nilIface)] := by kernel_rfl
@[go_sem] theorem tagg_20 : tagg Try.prog 20 = .some false := by kernel_rfl
@[go_sem] theorem tk_21 : tk Try.prog 21 = .int .i32 := by kernel_rfl
@[go_sem] theorem tsz_21 : tsz Try.prog 21 = .some 1 := by kernel_rfl
@[go_sem] theorem tby_21 : tby Try.prog 21 = .some 4 := by kernel_rfl
@[go_sem] theorem tz_21 : tz Try.prog 21 = .some [(.v (.int .i32 0))] := by kernel_rfl
@[go_sem] theorem tagg_21 : tagg Try.prog 21 = .some false := by kernel_rfl
@[go_sem] theorem tk_22 : tk Try.prog 22 = .sl 5 := by kernel_rfl
@[go_sem] theorem tsz_22 : tsz Try.prog 22 = .some 1 := by kernel_rfl
@[go_sem] theorem tby_22 : tby Try.prog 22 = .some 24 := by kernel_rfl
@[go_sem] theorem tz_22 : tz Try.prog 22 = .some [(.v (.slice .none 0 0))] := by kernel_rfl
@[go_sem] theorem tagg_22 : tagg Try.prog 22 = .some false := by kernel_rfl
@[go_sem] theorem tk_23 : tk Try.prog 23 = .arr 2 22 := by kernel_rfl
@[go_sem] theorem tsz_23 : tsz Try.prog 23 = .some 2 := by kernel_rfl
@[go_sem] theorem tby_23 : tby Try.prog 23 = .some 48 := by kernel_rfl
@[go_sem] theorem tz_23 : tz Try.prog 23 = .some [(.v (.slice .none 0 0)), (.v (.slice .none 0 0))] := by kernel_rfl
@[go_sem] theorem tagg_23 : tagg Try.prog 23 = .some true := by kernel_rfl
@[go_sem] theorem tk_24 : tk Try.prog 24 = .sl 87 := by kernel_rfl
@[go_sem] theorem tsz_24 : tsz Try.prog 24 = .some 1 := by kernel_rfl
@[go_sem] theorem tby_24 : tby Try.prog 24 = .some 24 := by kernel_rfl
@[go_sem] theorem tz_24 : tz Try.prog 24 = .some [(.v (.slice .none 0 0))] := by kernel_rfl
@[go_sem] theorem tagg_24 : tagg Try.prog 24 = .some false := by kernel_rfl
@[go_sem] theorem tk_25 : tk Try.prog 25 = .arr 6 5 := by kernel_rfl
@[go_sem] theorem tsz_25 : tsz Try.prog 25 = .some 6 := by kernel_rfl
@[go_sem] theorem tby_25 : tby Try.prog 25 = .some 6 := by kernel_rfl
@[go_sem] theorem tz_25 : tz Try.prog 25 = .some [(.v (.int .u8 0)), (.v (.int .u8 0)), (.v (.int .u8 0)), (.v (.int .u8 0)), (.v (.int .u8 0)), (.v (.int .u8 0))] := by kernel_rfl
@[go_sem] theorem tagg_25 : tagg Try.prog 25 = .some true := by kernel_rfl
@[go_sem] theorem tk_26 : tk Try.prog 26 = .str := by kernel_rfl
@[go_sem] theorem tsz_26 : tsz Try.prog 26 = .some 12 := by kernel_rfl
@[go_sem] theorem tby_26 : tby Try.prog 26 = .some 88 := by kernel_rfl
@[go_sem] theorem tz_26 : tz Try.prog 26 = .some [(.v (.int .u8 0)), (.v (.int .u8 0)), (.v (.int .u8 0)), (.v (.slice .none 0 0)), (.v (.slice .none 0 0)), (.v (.slice .none 0 0)), (.v (.int .u8 0)), (.v (.int .u8 0)), (.v (.int .u8 0)), (.v (.int .u8 0)), (.v (.int .u8 0)), (.v (.int .u8 0))] := by kernel_rfl
@[go_sem] theorem tagg_26 : tagg Try.prog 26 = .some true := by kernel_rfl
@[go_sem] theorem tfi_26 : tfi Try.prog 26 = true := by kernel_rfl
@[go_sem] theorem ftyp_26_0 : ftyp Try.prog 26 0 = .some 5 := by kernel_rfl
@[go_sem] theorem foff_26_0 : foff Try.prog 26 0 = .some 0 := by kernel_rfl
@[go_sem] theorem ftyp_26_1 : ftyp Try.prog 26 1 = .some 5 := by kernel_rfl
@[go_sem] theorem foff_26_1 : foff Try.prog 26 1 = .some 1 := by kernel_rfl
@[go_sem] theorem ftyp_26_2 : ftyp Try.prog 26 2 = .some 5 := by kernel_rfl
@[go_sem] theorem foff_26_2 : foff Try.prog 26 2 = .some 2 := by kernel_rfl
@[go_sem] theorem ftyp_26_3 : ftyp Try.prog 26 3 = .some 23 := by kernel_rfl
@[go_sem] theorem foff_26_3 : foff Try.prog 26 3 = .some 3 := by kernel_rfl
@[go_sem] theorem ftyp_26_4 : ftyp Try.prog 26 4 = .some 24 := by kernel_rfl
@[go_sem] theorem foff_26_4 : foff Try.prog 26 4 = .some 5 := by kernel_rfl
@[go_sem] theorem ftyp_26_5 : ftyp Try.prog 26 5 = .some 25 := by kernel_rfl
@[go_sem] theorem foff_26_5 : foff Try.prog 26 5 = .some 6 := by kernel_rfl
@[go_sem] theorem tk_27 : tk Try.prog 27 = .str := by kernel_rfl
@[go_sem] theorem tsz_27 : tsz Try.prog 27 = .some 12 := by kernel_rfl
@[go_sem] theorem tby_27 : tby Try.prog 27 = .some 88 := by kernel_rfl
@[go_sem] theorem tz_27 : tz Try.prog 27 = .some [(.v (.int .u8 0)), (.v (.int .u8 0)), (.v (.int .u8 0)), (.v (.slice .none 0 0)), (.v (.slice .none 0 0)), (.v (.slice .none 0 0)), (.v (.int .u8 0)), (.v (.int .u8 0)), (.v (.int .u8 0)), (.v (.int .u8 0)), (.v (.int .u8 0)), (.v (.int .u8 0))] := by kernel_rfl
@[go_sem] theorem tagg_27 : tagg Try.prog 27 = .some true := by kernel_rfl
@[go_sem] theorem tfi_27 : tfi Try.prog 27 = true := by kernel_rfl
@[go_sem] theorem ftyp_27_0 : ftyp Try.prog 27 0 = .some 5 := by kernel_rfl
@[go_sem] theorem foff_27_0 : foff Try.prog 27 0 = .some 0 := by kernel_rfl
@[go_sem] theorem ftyp_27_1 : ftyp Try.prog 27 1 = .some 5 := by kernel_rfl
@[go_sem] theorem foff_27_1 : foff Try.prog 27 1 = .some 1 := by kernel_rfl
@[go_sem] theorem ftyp_27_2 : ftyp Try.prog 27 2 = .some 5 := by kernel_rfl
@[go_sem] theorem foff_27_2 : foff Try.prog 27 2 = .some 2 := by kernel_rfl
@[go_sem] theorem ftyp_27_3 : ftyp Try.prog 27 3 = .some 23 := by kernel_rfl
@[go_sem] theorem foff_27_3 : foff Try.prog 27 3 = .some 3 := by kernel_rfl
@[go_sem] theorem ftyp_27_4 : ftyp Try.prog 27 4 = .some 24 := by kernel_rfl
@[go_sem] theorem foff_27_4 : foff Try.prog 27 4 = .some 5 := by kernel_rfl
@[go_sem] theorem ftyp_27_5 : ftyp Try.prog 27 5 = .some 25 := by kernel_rfl
@[go_sem] theorem foff_27_5 : foff Try.prog 27 5 = .some 6 := by kernel_rfl
@[go_sem] theorem tk_28 : tk Try.prog 28 = .arr 4 5 := by kernel_rfl
@[go_sem] theorem tsz_28 : tsz Try.prog 28 = .some 4 := by kernel_rfl
@[go_sem] theorem tby_28 : tby Try.prog 28 = .some 4 := by kernel_rfl
@[go_sem] theorem tz_28 : tz Try.prog 28 = .some [(.v (.int .u8 0)), (.v (.int .u8 0)), (.v (.int .u8 0)), (.v (.int .u8 0))] := by kernel_rfl
@[go_sem] theorem tagg_28 : tagg Try.prog 28 = .some true := by kernel_rfl
@[go_sem] theorem tk_29 : tk Try.prog 29 = .str := by kernel_rfl
@[go_sem] theorem tsz_29 : tsz Try.prog 29 = .some 18 := by kernel_rfl
@[go_sem] theorem tby_29 : tby Try.prog 29 = .some 18 := by kernel_rfl
@[go_sem] theorem tz_29 : tz Try.prog 29 = .some [(.v (.int .u8 0)), (.v (.int .u8 0)), (.v (.int .u8 0)), (.v (.int .u8 0)), (.v (.int .u8 0)), (.v (.int .u8 0)), (.v (.int .u8 0)), (.v (.int .u8 0)), (.v (.int .u8 0)), (.v (.int .u8 0)), (.v (.int .u8 0)), (.v (.int .u8 0)), (.v (.int .u8 0)), (.v (.int .u8 0)), (.v (.int .u8 0)), (.v (.int .u8 0)), (.v (.int .u8 0)), (.v (.int .u8 0))] := by kernel_rfl
@[go_sem] theorem tagg_29 : tagg Try.prog 29 = .some true := by kernel_rfl
@[go_sem] theorem tfi_29 : tfi Try.prog 29 = true := by kernel_rfl
@[go_sem] theorem ftyp_29_0 : ftyp Try.prog 29 0 = .some 25 := by kernel_rfl
@[go_sem] theorem foff_29_0 : foff Try.prog 29 0 = .some 0 := by kernel_rfl
@[go_sem] theorem ftyp_29_1 : ftyp Try.prog 29 1 = .some 25 := by kernel_rfl
@[go_sem] theorem foff_29_1 : foff Try.prog 29 1 = .some 6 := by kernel_rfl
@[go_sem] theorem ftyp_29_2 : ftyp Try.prog 29 2 = .some 28 := by kernel_rfl
@[go_sem] theorem foff_29_2 : foff Try.prog 29 2 = .some 12 := by kernel_rfl
@[go_sem] theorem ftyp_29_3 : ftyp Try.prog 29 3 = .some 5 := by kernel_rfl
@[go_sem] theorem foff_29_3 : foff Try.prog 29 3 = .some 16 := by kernel_rfl
@[go_sem] theorem ftyp_29_4 : ftyp Try.prog 29 4 = .some 5 := by kernel_rfl
@[go_sem] theorem foff_29_4 : foff Try.prog 29 4 = .some 17 := by kernel_rfl
@[go_sem] theorem tk_30 : tk Try.prog 30 = .str := by kernel_rfl
@[go_sem] theorem tsz_30 : tsz Try.prog 30 = .some 18 := by kernel_rfl
@[go_sem] theorem tby_30 : tby Try.prog 30 = .some 18 := by kernel_rfl
@[go_sem] theorem tz_30 : tz Try.prog 30 = .some [(.v (.int .u8 0)), (.v (.int .u8 0)), (.v (.int .u8 0)), (.v (.int .u8 0)), (.v (.int .u8 0)), (.v (.int .u8 0)), (.v (.int .u8 0)), (.v (.int .u8 0)), (.v (.int .u8 0)), (.v (.int .u8 0)), (.v (.int .u8 0)), (.v (.int .u8 0)), (.v (.int .u8 0)), (.v (.int .u8 0)), (.v (.int .u8 0)), (.v (.int .u8 0)), (.v (.int .u8 0)), (.v (.int .u8 0))] := by kernel_rfl
@[go_sem] theorem tagg_30 : tagg Try.prog 30 = .some true := by kernel_rfl
@[go_sem] theorem tfi_30 : tfi Try.prog 30 = true := by kernel_rfl
@[go_sem] theorem ftyp_30_0 : ftyp Try.prog 30 0 = .some 25 := by kernel_rfl
@[go_sem] theorem foff_30_0 : foff Try.prog 30 0 = .some 0 := by kernel_rfl
@[go_sem] theorem ftyp_30_1 : ftyp Try.prog 30 1 = .some 25 := by kernel_rfl
@[go_sem] theorem foff_30_1 : foff Try.prog 30 1 = .some 6 := by kernel_rfl
@[go_sem] theorem ftyp_30_2 : ftyp Try.prog 30 2 = .some 28 := by kernel_rfl
@[go_sem] theorem foff_30_2 : foff Try.prog 30 2 = .some 12 := by kernel_rfl
@[go_sem] theorem ftyp_30_3 : ftyp Try.prog 30 3 = .some 5 := by kernel_rfl
@[go_sem] theorem foff_30_3 : foff Try.prog 30 3 = .some 16 := by kernel_rfl
@[go_sem] theorem ftyp_30_4 : ftyp Try.prog 30 4 = .some 5 := by kernel_rfl
@[go_sem] theorem foff_30_4 : foff Try.prog 30 4 = .some 17 := by kernel_rfl
@[go_sem] theorem tk_31 : tk Try.prog 31 = .arr 2 30 := by kernel_rfl
@[go_sem] theorem tsz_31 : tsz Try.prog 31 = .some 36 := by kernel_rfl
@[go_sem] theorem tby_31 : tby Try.prog 31 = .some 36 := by kernel_rfl
@[go_sem] theorem tz_31 : tz Try.prog 31 = .some [(.v (.int .u8 0)), (.v (.int .u8 0)), (.v (.int .u8 0)), (.v (.int .u8 0)), (.v (.int .u8 0)), (.v (.int .u8 0)), (.v (.int .u8 0)), (.v (.int .u8 0)), (.v (.int .u8 0)), (.v (.int .u8 0)), (.v (.int .u8 0)), (.v (.int .u8 0)), (.v (.int .u8 0)), (.v (.int .u8 0)), (.v (.int .u8 0)), (.v (.int .u8 0)), (.v (.int .u8 0)), (.v (.int .u8 0)), (.v (.int .u8 0)), (.v (.int .u8 0)), (.v (.int .u8 0)), (.v (.int .u8 0)), (.v (.int .u8 0)), (.v (.int .u8 0)), (.v (.int .u8 0)), (.v (.int .u8 0)), (.v (.int .u8 0)), (.v (.int .u8 0)), (.v (.int .u8 0)), (.v (.int .u8 0)), (.v (.int .u8 0)), (.v (.int .u8 0)), (.v (.int .u8 0)), (.v (.int .u8 0)), (.v (.int .u8 0)), (.v (.int .u8 0))] := by kernel_rfl
@[go_sem] theorem tagg_31 : tagg Try.prog 31 = .some true := by kernel_rfl
@[go_sem] theorem tk_32 : tk Try.prog 32 = .arr 2 5 := by kernel_rfl
@[go_sem] theorem tsz_32 : tsz Try.prog 32 = .some 2 := by kernel_rfl
@[go_sem] theorem tby_32 : tby Try.prog 32 = .some 2 := by kernel_rfl
@[go_sem] theorem tz_32 : tz Try.prog 32 = .some [(.v (.int .u8 0)), (.v (.int .u8 0))] := by kernel_rfl
@[go_sem] theorem tagg_32 : tagg Try.prog 32 = .some true := by kernel_rfl
@[go_sem] theorem tk_33 : tk Try.prog 33 = .other := by kernel_rfl
@[go_sem] theorem tsz_33 : tsz Try.prog 33 = .some 1 := by kernel_rfl
@[go_sem] theorem tby_33 : tby Try.prog 33 = .some 8 := by kernel_rfl
@[go_sem] theorem tz_33 : tz Try.prog 33 = .some [(.v .nilFunc)] := by kernel_rfl
@[go_sem] theorem tagg_33 : tagg Try.prog 33 = .some false := by kernel_rfl
@[go_sem] theorem tk_34 : tk Try.prog 34 = .sl 35 := by kernel_rfl
@[go_sem] theorem tsz_34 : tsz Try.prog 34 = .some 1 := by kernel_rfl
@[go_sem] theorem tby_34 : tby Try.prog 34 = .some 24 := by kernel_rfl
@[go_sem] theorem tz_34 : tz Try.prog 34 = .some [(.v (.slice .none 0 0))] := by kernel_rfl
@[go_sem] theorem tagg_34 : tagg Try.prog 34 = .some false := by kernel_rfl
@[go_sem] theorem tk_35 : tk Try.prog 35 = .sl 3 := by kernel_rfl
@[go_sem] theorem tsz_35 : tsz Try.prog 35 = .some 1 := by kernel_rfl
@[go_sem] theorem tby_35 : tby Try.prog 35 = .some 24 := by kernel_rfl
@[go_sem] theorem tz_35 : tz Try.prog 35 = .some [(.v (.slice .none 0 0))] := by kernel_rfl
@[go_sem] theorem tagg_35 : tagg Try.prog 35 = .some false := by kernel_rfl
@[go_sem] theorem tk_36 : tk Try.prog 36 = .str := by kernel_rfl
@[go_sem] theorem tsz_36 : tsz Try.prog 36 = .some 3 := by kernel_rfl
@[go_sem] theorem tby_36 : tby Try.prog 36 = .some 56 := by kernel_rfl
@[go_sem] theorem tz_36 : tz Try.prog 36 = .some [(.v (.int .i64 0)), (.v (.slice .none 0 0)), (.v (.slice .none 0 0))] := by kernel_rfl
@[go_sem] theorem tagg_36 : tagg Try.prog 36 = .some true := by kernel_rfl
@[go_sem] theorem tfi_36 : tfi Try.prog 36 = true := by kernel_rfl
@[go_sem] theorem ftyp_36_0 : ftyp Try.prog 36 0 = .some 3 := by kernel_rfl
@[go_sem] theorem foff_36_0 : foff Try.prog 36 0 = .some 0 := by kernel_rfl
@[go_sem] theorem ftyp_36_1 : ftyp Try.prog 36 1 = .some 34 := by kernel_rfl
@[go_sem] theorem foff_36_1 : foff Try.prog 36 1 = .some 1 := by kernel_rfl
@[go_sem] theorem ftyp_36_2 : ftyp Try.prog 36 2 = .some 35 := by kernel_rfl
@[go_sem] theorem foff_36_2 : foff Try.prog 36 2 = .some 2 := by kernel_rfl
@[go_sem] theorem tk_37 : tk Try.prog 37 = .str := by kernel_rfl
@[go_sem] theorem tsz_37 : tsz Try.prog 37 = .some 3 := by kernel_rfl
@[go_sem] theorem tby_37 : tby Try.prog 37 = .some 56 := by kernel_rfl
@[go_sem] theorem tz_37 : tz Try.prog 37 = .some [(.v (.int .i64 0)), (.v (.slice .none 0 0)), (.v (.slice .none 0 0))] := by kernel_rfl
@[go_sem] theorem tagg_37 : tagg Try.prog 37 = .some true := by kernel_rfl
@[go_sem] theorem tfi_37 : tfi Try.prog 37 = true := by kernel_rfl
@[go_sem] theorem ftyp_37_0 : ftyp Try.prog 37 0 = .some 3 := by kernel_rfl
@[go_sem] theorem foff_37_0 : foff Try.prog 37 0 = .some 0 := by kernel_rfl
@[go_sem] theorem ftyp_37_1 : ftyp Try.prog 37 1 = .some 34 := by kernel_rfl
@[go_sem] theorem foff_37_1 : foff Try.prog 37 1 = .some 1 := by kernel_rfl
@[go_sem] theorem ftyp_37_2 : ftyp Try.prog 37 2 = .some 35 := by kernel_rfl
@[go_sem] theorem foff_37_2 : foff Try.prog 37 2 = .some 2 := by kernel_rfl
@[go_sem] theorem tk_38 : tk Try.prog 38 = .sl 81 := by kernel_rfl
@[go_sem] theorem tsz_38 : tsz Try.prog 38 = .some 1 := by kernel_rfl
@[go_sem] theorem tby_38 : tby Try.prog 38 = .some 24 := by kernel_rfl
@[go_sem] theorem tz_38 : tz Try.prog 38 = .some [(.v (.slice .none 0 0))] := by kernel_rfl
@[go_sem] theorem tagg_38 : tagg Try.prog 38 = .some false := by kernel_rfl
@[go_sem] theorem tk_39 : tk Try.prog 39 = .sl 89 := by kernel_rfl
@[go_sem] theorem tsz_39 : tsz Try.prog 39 = .some 1 := by kernel_rfl
@[go_sem] theorem tby_39 : tby Try.prog 39 = .some 24 := by kernel_rfl
@[go_sem] theorem tz_39 : tz Try.prog 39 = .some [(.v (.slice .none 0 0))] := by kernel_rfl
@[go_sem] theorem tagg_39 : tagg Try.prog 39 = .some false := by kernel_rfl
@[go_sem] theorem tk_40 : tk Try.prog 40 = .str := by kernel_rfl
@[go_sem] theorem tsz_40 : tsz Try.prog 40 = .some 9 := by kernel_rfl
@[go_sem] theorem tby_40 : tby Try.prog 40 = .some 136 := by kernel_rfl
@[go_sem] theorem tz_40 : tz Try.prog 40 = .some [(.v (.int .i64 0)), (.v (.slice .none 0 0)), (.v (.slice .none 0 0)), (.v (.slice .none 0 0)), (.v (.int .i64 0)), (.v (.bool false)), (.v (.slice .none 0 0)), (.v (.int .i64 0)), (.v (.int .i64 0))] := by kernel_rfl
@[go_sem] theorem tagg_40 : tagg Try.prog 40 = .some true := by kernel_rfl
@[go_sem] theorem tfi_40 : tfi Try.prog 40 = true := by kernel_rfl
@[go_sem] theorem ftyp_40_0 : ftyp Try.prog 40 0 = .some 37 := by kernel_rfl
@[go_sem] theorem foff_40_0 : foff Try.prog 40 0 = .some 0 := by kernel_rfl
@[go_sem] theorem ftyp_40_1 : ftyp Try.prog 40 1 = .some 38 := by kernel_rfl
@[go_sem] theorem foff_40_1 : foff Try.prog 40 1 = .some 3 := by kernel_rfl
@[go_sem] theorem ftyp_40_2 : ftyp Try.prog 40 2 = .some 3 := by kernel_rfl
@[go_sem] theorem foff_40_2 : foff Try.prog 40 2 = .some 4 := by kernel_rfl
@[go_sem] theorem ftyp_40_3 : ftyp Try.prog 40 3 = .some 4 := by kernel_rfl
@[go_sem] theorem foff_40_3 : foff Try.prog 40 3 = .some 5 := by kernel_rfl
@[go_sem] theorem ftyp_40_4 : ftyp Try.prog 40 4 = .some 39 := by kernel_rfl
@[go_sem] theorem foff_40_4 : foff Try.prog 40 4 = .some 6 := by kernel_rfl
@[go_sem] theorem ftyp_40_5 : ftyp Try.prog 40 5 = .some 3 := by kernel_rfl
@[go_sem] theorem foff_40_5 : foff Try.prog 40 5 = .some 7 := by kernel_rfl
@[go_sem] theorem ftyp_40_6 : ftyp Try.prog 40 6 = .some 3 := by kernel_rfl
@[go_sem] theorem foff_40_6 : foff Try.prog 40 6 = .some 8 := by kernel_rfl
@[go_sem] theorem tk_41 : tk Try.prog 41 = .str := by kernel_rfl
@[go_sem] theorem tsz_41 : tsz Try.prog 41 = .some 9 := by kernel_rfl
@[go_sem] theorem tby_41 : tby Try.prog 41 = .some 136 := by kernel_rfl
@[go_sem] theorem tz_41 : tz Try.prog 41 = .some [(.v (.int .i64 0)), (.v (.slice .none 0 0)), (.v (.slice .none 0 0)), (.v (.slice .none 0 0)), (.v (.int .i64 0)), (.v (.bool false)), (.v (.slice .none 0 0)), (.v (.int .i64 0)), (.v (.int .i64 0))] := by kernel_rfl
@[go_sem] theorem tagg_41 : tagg Try.prog 41 = .some true := by kernel_rfl
@[go_sem] theorem tfi_41 : tfi Try.prog 41 = true := by kernel_rfl
@[go_sem] theorem ftyp_41_0 : ftyp Try.prog 41 0 = .some 37 := by kernel_rfl
@[go_sem] theorem foff_41_0 : foff Try.prog 41 0 = .some 0 := by kernel_rfl
@[go_sem] theorem ftyp_41_1 : ftyp Try.prog 41 1 = .some 38 := by kernel_rfl
@[go_sem] theorem foff_41_1 : foff Try.prog 41 1 = .some 3 := by kernel_rfl
@[go_sem] theorem ftyp_41_2 : ftyp Try.prog 41 2 = .some 3 := by kernel_rfl
@[go_sem] theorem foff_41_2 : foff Try.prog 41 2 = .some 4 := by kernel_rfl
@[go_sem] theorem ftyp_41_3 : ftyp Try.prog 41 3 = .some 4 := by kernel_rfl
@[go_sem] theorem foff_41_3 : foff Try.prog 41 3 = .some 5 := by kernel_rfl
@[go_sem] theorem ftyp_41_4 : ftyp Try.prog 41 4 = .some 39 := by kernel_rfl
@[go_sem] theorem foff_41_4 : foff Try.prog 41 4 = .some 6 := by kernel_rfl
@[go_sem] theorem ftyp_41_5 : ftyp Try.prog 41 5 = .some 3 := by kernel_rfl
@[go_sem] theorem foff_41_5 : foff Try.prog 41 5 = .some 7 := by kernel_rfl
@[go_sem] theorem ftyp_41_6 : ftyp Try.prog 41 6 = .some 3 := by kernel_rfl
@[go_sem] theorem foff_41_6 : foff Try.prog 41 6 = .some 8 := by kernel_rfl
@[go_sem] theorem tk_42 : tk Try.prog 42 = .other := by kernel_rfl
@[go_sem] theorem tsz_42 : tsz Try.prog 42 = .some 1 := by kernel_rfl
@[go_sem] theorem tby_42 : tby Try.prog 42 = .some 8 := by kernel_rfl
@[go_sem] theorem tz_42 : tz Try.prog 42 = .some [(.v .nilFunc)] := by kernel_rfl
@[go_sem] theorem tagg_42 : tagg Try.prog 42 = .some false := by kernel_rfl
@[go_sem] theorem tk_43 : tk Try.prog 43 = .other := by kernel_rfl
@[go_sem] theorem tsz_43 : tsz Try.prog 43 = .some 1 := by kernel_rfl
@[go_sem] theorem tby_43 : tby Try.prog 43 = .some 8 := by kernel_rfl
@[go_sem] theorem tz_43 : tz Try.prog 43 = .some [(.v .nilFunc)] := by kernel_rfl
@[go_sem] theorem tagg_43 : tagg Try.prog 43 = .some false := by kernel_rfl
@[go_sem] theorem tk_44 : tk Try.prog 44 = .other := by kernel_rfl
@[go_sem] theorem tsz_44 : tsz Try.prog 44 = .some 1 := by kernel_rfl
@[go_sem] theorem tby_44 : tby Try.prog 44 = .some 8 := by kernel_rfl
@[go_sem] theorem tz_44 : tz Try.prog 44 = .some [(.v .nilFunc)] := by kernel_rfl
@[go_sem] theorem tagg_44 : tagg Try.prog 44 = .some false := by kernel_rfl
@[go_sem] theorem tk_45 : tk Try.prog 45 = .arr 2 35 := by kernel_rfl
@[go_sem] theorem tsz_45 : tsz Try.prog 45 = .some 2 := by kernel_rfl
@[go_sem] theorem tby_45 : tby Try.prog 45 = .some 48 := by kernel_rfl
@[go_sem] theorem tz_45 : tz Try.prog 45 = .some [(.v (.slice .none 0 0)), (.v (.slice .none 0 0))] := by kernel_rfl
@[go_sem] theorem tagg_45 : tagg Try.prog 45 = .some true := by kernel_rfl
@[go_sem] theorem tk_46 : tk Try.prog 46 = .str := by kernel_rfl
@[go_sem] theorem tsz_46 : tsz Try.prog 46 = .some 5 := by kernel_rfl
@[go_sem] theorem tby_46 : tby Try.prog 46 = .some 88 := by kernel_rfl
@[go_sem] theorem tz_46 : tz Try.prog 46 = .some [(.v (.slice .none 0 0)), (.v (.slice .none 0 0)), (.v (.slice .none 0 0)), (.v (.int .i64 0)), (.v (.int .i64 0))] := by kernel_rfl
@[go_sem] theorem tagg_46 : tagg Try.prog 46 = .some true := by kernel_rfl
@[go_sem] theorem tfi_46 : tfi Try.prog 46 = true := by kernel_rfl
@[go_sem] theorem ftyp_46_0 : ftyp Try.prog 46 0 = .some 35 := by kernel_rfl
@[go_sem] theorem foff_46_0 : foff Try.prog 46 0 = .some 0 := by kernel_rfl
@[go_sem] theorem ftyp_46_1 : ftyp Try.prog 46 1 = .some 45 := by kernel_rfl
@[go_sem] theorem foff_46_1 : foff Try.prog 46 1 = .some 1 := by kernel_rfl
@[go_sem] theorem ftyp_46_2 : ftyp Try.prog 46 2 = .some 3 := by kernel_rfl
@[go_sem] theorem foff_46_2 : foff Try.prog 46 2 = .some 3 := by kernel_rfl
@[go_sem] theorem ftyp_46_3 : ftyp Try.prog 46 3 = .some 3 := by kernel_rfl
@[go_sem] theorem foff_46_3 : foff Try.prog 46 3 = .some 4 := by kernel_rfl
@[go_sem] theorem tk_47 : tk Try.prog 47 = .str := by kernel_rfl
@[go_sem] theorem tsz_47 : tsz Try.prog 47 = .some 5 := by kernel_rfl
@[go_sem] theorem tby_47 : tby Try.prog 47 = .some 88 := by kernel_rfl
@[go_sem] theorem tz_47 : tz Try.prog 47 = .some [(.v (.slice .none 0 0)), (.v (.slice .none 0 0)), (.v (.slice .none 0 0)), (.v (.int .i64 0)), (.v (.int .i64 0))] := by kernel_rfl
@[go_sem] theorem tagg_47 : tagg Try.prog 47 = .some true := by kernel_rfl
@[go_sem] theorem tfi_47 : tfi Try.prog 47 = true := by kernel_rfl
@[go_sem] theorem ftyp_47_0 : ftyp Try.prog 47 0 = .some 35 := by kernel_rfl
@[go_sem] theorem foff_47_0 : foff Try.prog 47 0 = .some 0 := by kernel_rfl
@[go_sem] theorem ftyp_47_1 : ftyp Try.prog 47 1 = .some 45 := by kernel_rfl
@[go_sem] theorem foff_47_1 : foff Try.prog 47 1 = .some 1 := by kernel_rfl
@[go_sem] theorem ftyp_47_2 : ftyp Try.prog 47 2 = .some 3 := by kernel_rfl
@[go_sem] theorem foff_47_2 : foff Try.prog 47 2 = .some 3 := by kernel_rfl
@[go_sem] theorem ftyp_47_3 : ftyp Try.prog 47 3 = .some 3 := by kernel_rfl
@[go_sem] theorem foff_47_3 : foff Try.prog 47 3 = .some 4 := by kernel_rfl
@[go_sem] theorem tk_48 : tk Try.prog 48 = .other := by kernel_rfl
@[go_sem] theorem tsz_48 : tsz Try.prog 48 = .some 1 := by kernel_rfl
@[go_sem] theorem tby_48 : tby Try.prog 48 = .some 8 := by kernel_rfl
@[go_sem] theorem tz_48 : tz Try.prog 48 = .some [(.v .nilFunc)] := by kernel_rfl
@[go_sem] theorem tagg_48 : tagg Try.prog 48 = .some false := by kernel_rfl
@[go_sem] theorem tk_49 : tk Try.prog 49 = .sl 47 := by kernel_rfl
@[go_sem] theorem tsz_49 : tsz Try.prog 49 = .some 1 := by kernel_rfl
@[go_sem] theorem tby_49 : tby Try.prog 49 = .some 24 := by kernel_rfl
@[go_sem] theorem tz_49 : tz Try.prog 49 = .some [(.v (.slice .none 0 0))] := by kernel_rfl
@[go_sem] theorem tagg_49 : tagg Try.prog 49 = .some false := by kernel_rfl
@[go_sem] theorem tk_50 : tk Try.prog 50 = .int .i64 := by kernel_rfl
@[go_sem] theorem tsz_50 : tsz Try.prog 50 = .some 1 := by kernel_rfl
@[go_sem] theorem tby_50 : tby Try.prog 50 = .some 8 := by kernel_rfl
@[go_sem] theorem tz_50 : tz Try.prog 50 = .some [(.v (.int .i64 0))] := by kernel_rfl
@[go_sem] theorem tagg_50 : tagg Try.prog 50 = .some false := by kernel_rfl
@[go_sem] theorem tk_51 : tk Try.prog 51 = .other := by kernel_rfl
@[go_sem] theorem tsz_51 : tsz Try.prog 51 = .some 1 := by kernel_rfl
@[go_sem] theorem tby_51 : tby Try.prog 51 = .some 0 := by kernel_rfl
@[go_sem] theorem tagg_51 : tagg Try.prog 51 = .some false := by kernel_rfl
@[go_sem] theorem tk_52 : tk Try.prog 52 = .other := by kernel_rfl
@[go_sem] theorem tsz_52 : tsz Try.prog 52 = .some 1 := by kernel_rfl
@[go_sem] theorem tby_52 : tby Try.prog 52 = .some 8 := by kernel_rfl
@[go_sem] theorem tz_52 : tz Try.prog 52 = .some [(.v .nilFunc)] := by kernel_rfl
@[go_sem] theorem tagg_52 : tagg Try.prog 52 = .some false := by kernel_rfl
@[go_sem] theorem tk_53 : tk Try.prog 53 = .other := by kernel_rfl
@[go_sem] theorem tsz_53 : tsz Try.prog 53 = .some 1 := by kernel_rfl
@[go_sem] theorem tby_53 : tby Try.prog 53 = .some 8 := by kernel_rfl
@[go_sem] theorem tz_53 : tz Try.prog 53 = .some [(.v .nilFunc)] := by kernel_rfl
@[go_sem] theorem tagg_53 : tagg Try.prog 53 = .some false := by kernel_rfl
@[go_sem] theorem tk_54 : tk Try.prog 54 = .other := by kernel_rfl
@[go_sem] theorem tsz_54 : tsz Try.prog 54 = .some 1 := by kernel_rfl
@[go_sem] theorem tby_54 : tby Try.prog 54 = .some 0 := by kernel_rfl
@[go_sem] theorem tagg_54 : tagg Try.prog 54 = .some false := by kernel_rfl
@[go_sem] theorem tk_55 : tk Try.prog 55 = .other := by kernel_rfl
@[go_sem] theorem tsz_55 : tsz Try.prog 55 = .some 1 := by kernel_rfl
@[go_sem] theorem tby_55 : tby Try.prog 55 = .some 8 := by kernel_rfl
@[go_sem] theorem tz_55 : tz Try.prog 55 = .some [(.v .nilFunc)] := by kernel_rfl
@[go_sem] theorem tagg_55 : tagg Try.prog 55 = .some false := by kernel_rfl
@[go_sem] theorem tk_56 : tk Try.prog 56 = .other := by kernel_rfl
@[go_sem] theorem tsz_56 : tsz Try.prog 56 = .some 1 := by kernel_rfl
@[go_sem] theorem tby_56 : tby Try.prog 56 = .some 8 := by kernel_rfl
@[go_sem] theorem tz_56 : tz Try.prog 56 = .some [(.v .nilFunc)] := by kernel_rfl
@[go_sem] theorem tagg_56 : tagg Try.prog 56 = .some false := by kernel_rfl
@[go_sem] theorem tk_57 : tk Try.prog 57 = .other := by kernel_rfl
@[go_sem] theorem tsz_57 : tsz Try.prog 57 = .some 1 := by kernel_rfl
@[go_sem] theorem tby_57 : tby Try.prog 57 = .some 8 := by kernel_rfl
@[go_sem] theorem tz_57 : tz Try.prog 57 = .some [(.v .nilFunc)] := by kernel_rfl
@[go_sem] theorem tagg_57 : tagg Try.prog 57 = .some false := by kernel_rfl
@[go_sem] theorem tk_58 : tk Try.prog 58 = .other := by kernel_rfl
@[go_sem] theorem tsz_58 : tsz Try.prog 58 = .some 1 := by kernel_rfl
@[go_sem] theorem tby_58 : tby Try.prog 58 = .some 8 := by kernel_rfl
@[go_sem] theorem tz_58 : tz Try.prog 58 = .some [(.v .nilFunc)] := by kernel_rfl
@[go_sem] theorem tagg_58 : tagg Try.prog 58 = .some false := by kernel_rfl
@[go_sem] theorem tk_59 : tk Try.prog 59 = .other := by kernel_rfl
@[go_sem] theorem tsz_59 : tsz Try.prog 59 = .some 1 := by kernel_rfl
@[go_sem] theorem tby_59 : tby Try.prog 59 = .some 8 := by kernel_rfl
@[go_sem] theorem tz_59 : tz Try.prog 59 = .some [(.v .nilFunc)] := by kernel_rfl
@[go_sem] theorem tagg_59 : tagg Try.prog 59 = .some false := by kernel_rfl
@[go_sem] theorem tk_60 : tk Try.prog 60 = .other := by kernel_rfl
@[go_sem] theorem tsz_60 : tsz Try.prog 60 = .some 1 := by kernel_rfl
@[go_sem] theorem tby_60 : tby Try.prog 60 = .some 8 := by kernel_rfl
@[go_sem] theorem tz_60 : tz Try.prog 60 = .some [(.v .nilFunc)] := by kernel_rfl
@[go_sem] theorem tagg_60 : tagg Try.prog 60 = .some false := by kernel_rfl
@[go_sem] theorem tk_61 : tk Try.prog 61 = .sl 67 := by kernel_rfl
@[go_sem] theorem tsz_61 : tsz Try.prog 61 = .some 1 := by kernel_rfl
@[go_sem] theorem tby_61 : tby Try.prog 61 = .some 24 := by kernel_rfl
@[go_sem] theorem tz_61 : tz Try.prog 61 = .some [(.v (.slice .none 0 0))] := by kernel_rfl
@[go_sem] theorem tagg_61 : tagg Try.prog 61 = .some false := by kernel_rfl
@[go_sem] theorem tk_62 : tk Try.prog 62 = .arr 2 61 := by kernel_rfl
@[go_sem] theorem tsz_62 : tsz Try.prog 62 = .some 2 := by kernel_rfl
@[go_sem] theorem tby_62 : tby Try.prog 62 = .some 48 := by kernel_rfl
@[go_sem] theorem tz_62 : tz Try.prog 62 = .some [(.v (.slice .none 0 0)), (.v (.slice .none 0 0))] := by kernel_rfl
@[go_sem] theorem tagg_62 : tagg Try.prog 62 = .some true := by kernel_rfl
@[go_sem] theorem tk_63 : tk Try.prog 63 = .str := by kernel_rfl
@[go_sem] theorem tsz_63 : tsz Try.prog 63 = .some 2 := by kernel_rfl
@[go_sem] theorem tby_63 : tby Try.prog 63 = .some 48 := by kernel_rfl
@[go_sem] theorem tz_63 : tz Try.prog 63 = .some [(.v (.slice .none 0 0)), (.v (.slice .none 0 0))] := by kernel_rfl
@[go_sem] theorem tagg_63 : tagg Try.prog 63 = .some true := by kernel_rfl
@[go_sem] theorem tfi_63 : tfi Try.prog 63 = true := by kernel_rfl
@[go_sem] theorem ftyp_63_0 : ftyp Try.prog 63 0 = .some 62 := by kernel_rfl
@[go_sem] theorem foff_63_0 : foff Try.prog 63 0 = .some 0 := by kernel_rfl
@[go_sem] theorem tk_64 : tk Try.prog 64 = .str := by kernel_rfl
@[go_sem] theorem tsz_64 : tsz Try.prog 64 = .some 2 := by kernel_rfl
@[go_sem] theorem tby_64 : tby Try.prog 64 = .some 48 := by kernel_rfl
@[go_sem] theorem tz_64 : tz Try.prog 64 = .some [(.v (.slice .none 0 0)), (.v (.slice .none 0 0))] := by kernel_rfl
@[go_sem] theorem tagg_64 : tagg Try.prog 64 = .some true := by kernel_rfl
@[go_sem] theorem tfi_64 : tfi Try.prog 64 = true := by kernel_rfl
@[go_sem] theorem ftyp_64_0 : ftyp Try.prog 64 0 = .some 62 := by kernel_rfl
@[go_sem] theorem foff_64_0 : foff Try.prog 64 0 = .some 0 := by kernel_rfl
@[go_sem] theorem tk_65 : tk Try.prog 65 = .other := by kernel_rfl
@[go_sem] theorem tsz_65 : tsz Try.prog 65 = .some 1 := by kernel_rfl
@[go_sem] theorem tby_65 : tby Try.prog 65 = .some 8 := by kernel_rfl
@[go_sem] theorem tz_65 : tz Try.prog 65 = .some [(.v .nilFunc)] := by kernel_rfl
@[go_sem] theorem tagg_65 : tagg Try.prog 65 = .some false := by kernel_rfl
@[go_sem] theorem tk_66 : tk Try.prog 66 = .sl 71 := by kernel_rfl
@[go_sem] theorem tsz_66 : tsz Try.prog 66 = .some 1 := by kernel_rfl
@[go_sem] theorem tby_66 : tby Try.prog 66 = .some 24 := by kernel_rfl
@[go_sem] theorem tz_66 : tz Try.prog 66 = .some [(.v (.slice .none 0 0))] := by kernel_rfl
@[go_sem] theorem tagg_66 : tagg Try.prog 66 = .some false := by kernel_rfl
@[go_sem] theorem tk_67 : tk Try.prog 67 = .sl 66 := by kernel_rfl
@[go_sem] theorem tsz_67 : tsz Try.prog 67 = .some 1 := by kernel_rfl
@[go_sem] theorem tby_67 : tby Try.prog 67 = .some 24 := by kernel_rfl
@[go_sem] theorem tz_67 : tz Try.prog 67 = .some [(.v (.slice .none 0 0))] := by kernel_rfl
@[go_sem] theorem tagg_67 : tagg Try.prog 67 = .some false := by kernel_rfl
@[go_sem] theorem tk_68 : tk Try.prog 68 = .other := by kernel_rfl
@[go_sem] theorem tsz_68 : tsz Try.prog 68 = .some 1 := by kernel_rfl
@[go_sem] theorem tby_68 : tby Try.prog 68 = .some 8 := by kernel_rfl
@[go_sem] theorem tz_68 : tz Try.prog 68 = .some [(.v .nilFunc)] := by kernel_rfl
@[go_sem] theorem tagg_68 : tagg Try.prog 68 = .some false := by kernel_rfl
@[go_sem] theorem tk_69 : tk Try.prog 69 = .sl 99 := by kernel_rfl
@[go_sem] theorem tsz_69 : tsz Try.prog 69 = .some 1 := by kernel_rfl
@[go_sem] theorem tby_69 : tby Try.prog 69 = .some 24 := by kernel_rfl
@[go_sem] theorem tz_69 : tz Try.prog 69 = .some [(.v (.slice .none 0 0))] := by kernel_rfl
@[go_sem] theorem tagg_69 : tagg Try.prog 69 = .some false := by kernel_rfl
@[go_sem] theorem tk_70 : tk Try.prog 70 = .str := by kernel_rfl
@[go_sem] theorem tsz_70 : tsz Try.prog 70 = .some 2 := by kernel_rfl
@[go_sem] theorem tby_70 : tby Try.prog 70 = .some 32 := by kernel_rfl
@[go_sem] theorem tz_70 : tz Try.prog 70 = .some [(.v (.slice .none 0 0)), (.v (.int .i64 0))] := by kernel_rfl
@[go_sem] theorem tagg_70 : tagg Try.prog 70 = .some true := by kernel_rfl
@[go_sem] theorem tfi_70 : tfi Try.prog 70 = true := by kernel_rfl
@[go_sem] theorem ftyp_70_0 : ftyp Try.prog 70 0 = .some 69 := by kernel_rfl
@[go_sem] theorem foff_70_0 : foff Try.prog 70 0 = .some 0 := by kernel_rfl
@[go_sem] theorem ftyp_70_1 : ftyp Try.prog 70 1 = .some 3 := by kernel_rfl
@[go_sem] theorem foff_70_1 : foff Try.prog 70 1 = .some 1 := by kernel_rfl
@[go_sem] theorem tk_71 : tk Try.prog 71 = .str := by kernel_rfl
@[go_sem] theorem tsz_71 : tsz Try.prog 71 = .some 2 := by kernel_rfl
@[go_sem] theorem tby_71 : tby Try.prog 71 = .some 32 := by kernel_rfl
@[go_sem] theorem tz_71 : tz Try.prog 71 = .some [(.v (.slice .none 0 0)), (.v (.int .i64 0))] := by kernel_rfl
@[go_sem] theorem tagg_71 : tagg Try.prog 71 = .some true := by kernel_rfl
@[go_sem] theorem tfi_71 : tfi Try.prog 71 = true := by kernel_rfl
@[go_sem] theorem ftyp_71_0 : ftyp Try.prog 71 0 = .some 69 := by kernel_rfl
@[go_sem] theorem foff_71_0 : foff Try.prog 71 0 = .some 0 := by kernel_rfl
@[go_sem] theorem ftyp_71_1 : ftyp Try.prog 71 1 = .some 3 := by kernel_rfl
@[go_sem] theorem foff_71_1 : foff Try.prog 71 1 = .some 1 := by kernel_rfl
@[go_sem] theorem tk_72 : tk Try.prog 72 = .other := by kernel_rfl
@[go_sem] theorem tsz_72 : tsz Try.prog 72 = .some 1 := by kernel_rfl
@[go_sem] theorem tby_72 : tby Try.prog 72 = .some 8 := by kernel_rfl
@[go_sem] theorem tz_72 : tz Try.prog 72 = .some [(.v .nilFunc)] := by kernel_rfl
@[go_sem] theorem tagg_72 : tagg Try.prog 72 = .some false := by kernel_rfl
@[go_sem] theorem tk_73 : tk Try.prog 73 = .other := by kernel_rfl
@[go_sem] theorem tsz_73 : tsz Try.prog 73 = .some 1 := by kernel_rfl
@[go_sem] theorem tby_73 : tby Try.prog 73 = .some 8 := by kernel_rfl
@[go_sem] theorem tz_73 : tz Try.prog 73 = .some [(.v .nilFunc)] := by kernel_rfl
@[go_sem] theorem tagg_73 : tagg Try.prog 73 = .some false := by kernel_rfl
@[go_sem] theorem tk_74 : tk Try.prog 74 = .other := by kernel_rfl
@[go_sem] theorem tsz_74 : tsz Try.prog 74 = .some 1 := by kernel_rfl
@[go_sem] theorem tby_74 : tby Try.prog 74 = .some 8 := by kernel_rfl
@[go_sem] theorem tz_74 : tz Try.prog 74 = .some [(.v .nilFunc)] := by kernel_rfl
@[go_sem] theorem tagg_74 : tagg Try.prog 74 = .some false := by kernel_rfl
@[go_sem] theorem tk_75 : tk Try.prog 75 = .str := by kernel_rfl
@[go_sem] theorem tsz_75 : tsz Try.prog 75 = .some 2 := by kernel_rfl
@[go_sem] theorem tby_75 : tby Try.prog 75 = .some 16 := by kernel_rfl
@[go_sem] theorem tz_75 : tz Try.prog 75 = .some [(.v (.int .i64 0)), (.v (.int .i64 0))] := by kernel_rfl
@[go_sem] theorem tagg_75 : tagg Try.prog 75 = .some true := by kernel_rfl
@[go_sem] theorem tfi_75 : tfi Try.prog 75 = true := by kernel_rfl
@[go_sem] theorem tflat_75 : tflat Try.prog 75 = .some 2 := by kernel_rfl
@[go_sem] theorem ftyp_75_0 : ftyp Try.prog 75 0 = .some 3 := by kernel_rfl
@[go_sem] theorem foff_75_0 : foff Try.prog 75 0 = .some 0 := by kernel_rfl
@[go_sem] theorem ftyp_75_1 : ftyp Try.prog 75 1 = .some 3 := by kernel_rfl
@[go_sem] theorem foff_75_1 : foff Try.prog 75 1 = .some 1 := by kernel_rfl
@[go_sem] theorem tk_76 : tk Try.prog 76 = .str := by kernel_rfl
@[go_sem] theorem tsz_76 : tsz Try.prog 76 = .some 2 := by kernel_rfl
@[go_sem] theorem tby_76 : tby Try.prog 76 = .some 16 := by kernel_rfl
@[go_sem] theorem tz_76 : tz Try.prog 76 = .some [(.v (.int .i64 0)), (.v (.int .i64 0))] := by kernel_rfl
@[go_sem] theorem tagg_76 : tagg Try.prog 76 = .some true := by kernel_rfl
@[go_sem] theorem tfi_76 : tfi Try.prog 76 = true := by kernel_rfl
@[go_sem] theorem tflat_76 : tflat Try.prog 76 = .some 2 := by kernel_rfl
@[go_sem] theorem ftyp_76_0 : ftyp Try.prog 76 0 = .some 3 := by kernel_rfl
@[go_sem] theorem foff_76_0 : foff Try.prog 76 0 = .some 0 := by kernel_rfl
@[go_sem] theorem ftyp_76_1 : ftyp Try.prog 76 1 = .some 3 := by kernel_rfl
@[go_sem] theorem foff_76_1 : foff Try.prog 76 1 = .some 1 := by kernel_rfl
@[go_sem] theorem tk_77 : tk Try.prog 77 = .sl 76 := by kernel_rfl
@[go_sem] theorem tsz_77 : tsz Try.prog 77 = .some 1 := by kernel_rfl
@[go_sem] theorem tby_77 : tby Try.prog 77 = .some 24 := by kernel_rfl
@[go_sem] theorem tz_77 : tz Try.prog 77 = .some [(.v (.slice .none 0 0))] := by kernel_rfl
@[go_sem] theorem tagg_77 : tagg Try.prog 77 = .some false := by kernel_rfl
@[go_sem] theorem tk_78 : tk Try.prog 78 = .sl 76 := by kernel_rfl
@[go_sem] theorem tsz_78 : tsz Try.prog 78 = .some 1 := by kernel_rfl
@[go_sem] theorem tby_78 : tby Try.prog 78 = .some 24 := by kernel_rfl
@[go_sem] theorem tz_78 : tz Try.prog 78 = .some [(.v (.slice .none 0 0))] := by kernel_rfl
@[go_sem] theorem tagg_78 : tagg Try.prog 78 = .some false := by kernel_rfl
@[go_sem] theorem tk_79 : tk Try.prog 79 = .sl 78 := by kernel_rfl
@[go_sem] theorem tsz_79 : tsz Try.prog 79 = .some 1 := by kernel_rfl
@[go_sem] theorem tby_79 : tby Try.prog 79 = .some 24 := by kernel_rfl
@[go_sem] theorem tz_79 : tz Try.prog 79 = .some [(.v (.slice .none 0 0))] := by kernel_rfl
@[go_sem] theorem tagg_79 : tagg Try.prog 79 = .some false := by kernel_rfl
@[go_sem] theorem tk_80 : tk Try.prog 80 = .str := by kernel_rfl
@[go_sem] theorem tsz_80 : tsz Try.prog 80 = .some 3 := by kernel_rfl
@[go_sem] theorem tby_80 : tby Try.prog 80 = .some 48 := by kernel_rfl
@[go_sem] theorem tz_80 : tz Try.prog 80 = .some [(.v (.string ⟨⟨[]⟩⟩)), (.v (.slice .none 0 0)), (.v (.bool false))] := by kernel_rfl
@[go_sem] theorem tagg_80 : tagg Try.prog 80 = .some true := by kernel_rfl
@[go_sem] theorem tfi_80 : tfi Try.prog 80 = true := by kernel_rfl
@[go_sem] theorem ftyp_80_0 : ftyp Try.prog 80 0 = .some 9 := by kernel_rfl
@[go_sem] theorem foff_80_0 : foff Try.prog 80 0 = .some 0 := by kernel_rfl
@[go_sem] theorem ftyp_80_1 : ftyp Try.prog 80 1 = .some 79 := by kernel_rfl
@[go_sem] theorem foff_80_1 : foff Try.prog 80 1 = .some 1 := by kernel_rfl
@[go_sem] theorem ftyp_80_2 : ftyp Try.prog 80 2 = .some 4 := by kernel_rfl
@[go_sem] theorem foff_80_2 : foff Try.prog 80 2 = .some 2 := by kernel_rfl
@[go_sem] theorem tk_81 : tk Try.prog 81 = .str := by kernel_rfl
@[go_sem] theorem tsz_81 : tsz Try.prog 81 = .some 3 := by kernel_rfl
@[go_sem] theorem tby_81 : tby Try.prog 81 = .some 48 := by kernel_rfl
@[go_sem] theorem tz_81 : tz Try.prog 81 = .some [(.v (.string ⟨⟨[]⟩⟩)), (.v (.slice .none 0 0)), (.v (.bool false))] := by kernel_rfl
@[go_sem] theorem tagg_81 : tagg Try.prog 81 = .some true := by kernel_rfl
@[go_sem] theorem tfi_81 : tfi Try.prog 81 = true := by kernel_rfl
@[go_sem] theorem ftyp_81_0 : ftyp Try.prog 81 0 = .some 9 := by kernel_rfl
@[go_sem] theorem foff_81_0 : foff Try.prog 81 0 = .some 0 := by kernel_rfl
@[go_sem] theorem ftyp_81_1 : ftyp Try.prog 81 1 = .some 79 := by kernel_rfl
@[go_sem] theorem foff_81_1 : foff Try.prog 81 1 = .some 1 := by kernel_rfl
@[go_sem] theorem ftyp_81_2 : ftyp Try.prog 81 2 = .some 4 := by kernel_rfl
@[go_sem] theorem foff_81_2 : foff Try.prog 81 2 = .some 2 := by kernel_rfl
@[go_sem] theorem tk_82 : tk Try.prog 82 = .other := by kernel_rfl
@[go_sem] theorem tsz_82 : tsz Try.prog 82 = .some 1 := by kernel_rfl
@[go_sem] theorem tby_82 : tby Try.prog 82 = .some 8 := by kernel_rfl
@[go_sem] theorem tz_82 : tz Try.prog 82 = .some [(.v .nilFunc)] := by kernel_rfl
@[go_sem] theorem tagg_82 : tagg Try.prog 82 = .some false := by kernel_rfl
@[go_sem] theorem tk_83 : tk Try.prog 83 = .other := by kernel_rfl
@[go_sem] theorem tsz_83 : tsz Try.prog 83 = .some 1 := by kernel_rfl
@[go_sem] theorem tby_83 : tby Try.prog 83 = .some 8 := by kernel_rfl
@[go_sem] theorem tz_83 : tz Try.prog 83 = .some [(.v .nilFunc)] := by kernel_rfl
@[go_sem] theorem tagg_83 : tagg Try.prog 83 = .some false := by kernel_rfl
@[go_sem] theorem tk_84 : tk Try.prog 84 = .other := by kernel_rfl
@[go_sem] theorem tsz_84 : tsz Try.prog 84 = .some 1 := by kernel_rfl
@[go_sem] theorem tby_84 : tby Try.prog 84 = .some 8 := by kernel_rfl
@[go_sem] theorem tz_84 : tz Try.prog 84 = .some [(.v .nilFunc)] := by kernel_rfl
@[go_sem] theorem tagg_84 : tagg Try.prog 84 = .some false := by kernel_rfl
@[go_sem] theorem tk_85 : tk Try.prog 85 = .sl 9 := by kernel_rfl
@[go_sem] theorem tsz_85 : tsz Try.prog 85 = .some 1 := by kernel_rfl
@[go_sem] theorem tby_85 : tby Try.prog 85 = .some 24 := by kernel_rfl
@[go_sem] theorem tz_85 : tz Try.prog 85 = .some [(.v (.slice .none 0 0))] := by kernel_rfl
@[go_sem] theorem tagg_85 : tagg Try.prog 85 = .some false := by kernel_rfl
@[go_sem] theorem tk_86 : tk Try.prog 86 = .other := by kernel_rfl
@[go_sem] theorem tsz_86 : tsz Try.prog 86 = .some 1 := by kernel_rfl
@[go_sem] theorem tby_86 : tby Try.prog 86 = .some 8 := by kernel_rfl
@[go_sem] theorem tz_86 : tz Try.prog 86 = .some [(.v .nilFunc)] := by kernel_rfl
@[go_sem] theorem tagg_86 : tagg Try.prog 86 = .some false := by kernel_rfl
@[go_sem] theorem tk_87 : tk Try.prog 87 = .arr 3 5 := by kernel_rfl
@[go_sem] theorem tsz_87 : tsz Try.prog 87 = .some 3 := by kernel_rfl
@[go_sem] theorem tby_87 : tby Try.prog 87 = .some 3 := by kernel_rfl
@[go_sem] theorem tz_87 : tz Try.prog 87 = .some [(.v (.int .u8 0)), (.v (.int .u8 0)), (.v (.int .u8 0))] := by kernel_rfl
@[go_sem] theorem tagg_87 : tagg Try.prog 87 = .some true := by kernel_rfl
@[go_sem] theorem tk_88 : tk Try.prog 88 = .str := by kernel_rfl
@[go_sem] theorem tsz_88 : tsz Try.prog 88 = .some 4 := by kernel_rfl
@[go_sem] theorem tby_88 : tby Try.prog 88 = .some 32 := by kernel_rfl
@[go_sem] theorem tz_88 : tz Try.prog 88 = .some [(.v (.int .i64 0)), (.v (.int .i64 0)), (.v (.int .i64 0)), (.v (.int .i64 0))] := by kernel_rfl
@[go_sem] theorem tagg_88 : tagg Try.prog 88 = .some true := by kernel_rfl
@[go_sem] theorem tfi_88 : tfi Try.prog 88 = true := by kernel_rfl
@[go_sem] theorem tflat_88 : tflat Try.prog 88 = .some 4 := by kernel_rfl
@[go_sem] theorem ftyp_88_0 : ftyp Try.prog 88 0 = .some 3 := by kernel_rfl
@[go_sem] theorem foff_88_0 : foff Try.prog 88 0 = .some 0 := by kernel_rfl
@[go_sem] theorem ftyp_88_1 : ftyp Try.prog 88 1 = .some 3 := by kernel_rfl
@[go_sem] theorem foff_88_1 : foff Try.prog 88 1 = .some 1 := by kernel_rfl
@[go_sem] theorem ftyp_88_2 : ftyp Try.prog 88 2 = .some 3 := by kernel_rfl
@[go_sem] theorem foff_88_2 : foff Try.prog 88 2 = .some 2 := by kernel_rfl
@[go_sem] theorem ftyp_88_3 : ftyp Try.prog 88 3 = .some 3 := by kernel_rfl
@[go_sem] theorem foff_88_3 : foff Try.prog 88 3 = .some 3 := by kernel_rfl
@[go_sem] theorem tk_89 : tk Try.prog 89 = .str := by kernel_rfl
@[go_sem] theorem tsz_89 : tsz Try.prog 89 = .some 4 := by kernel_rfl
@[go_sem] theorem tby_89 : tby Try.prog 89 = .some 32 := by kernel_rfl
@[go_sem] theorem tz_89 : tz Try.prog 89 = .some [(.v (.int .i64 0)), (.v (.int .i64 0)), (.v (.int .i64 0)), (.v (.int .i64 0))] := by kernel_rfl
@[go_sem] theorem tagg_89 : tagg Try.prog 89 = .some true := by kernel_rfl
@[go_sem] theorem tfi_89 : tfi Try.prog 89 = true := by kernel_rfl
@[go_sem] theorem tflat_89 : tflat Try.prog 89 = .some 4 := by kernel_rfl
@[go_sem] theorem ftyp_89_0 : ftyp Try.prog 89 0 = .some 3 := by kernel_rfl
@[go_sem] theorem foff_89_0 : foff Try.prog 89 0 = .some 0 := by kernel_rfl
@[go_sem] theorem ftyp_89_1 : ftyp Try.prog 89 1 = .some 3 := by kernel_rfl
@[go_sem] theorem foff_89_1 : foff Try.prog 89 1 = .some 1 := by kernel_rfl
@[go_sem] theorem ftyp_89_2 : ftyp Try.prog 89 2 = .some 3 := by kernel_rfl
@[go_sem] theorem foff_89_2 : foff Try.prog 89 2 = .some 2 := by kernel_rfl
@[go_sem] theorem ftyp_89_3 : ftyp Try.prog 89 3 = .some 3 := by kernel_rfl
@[go_sem] theorem foff_89_3 : foff Try.prog 89 3 = .some 3 := by kernel_rfl
@[go_sem] theorem tk_90 : tk Try.prog 90 = .other := by kernel_rfl
@[go_sem] theorem tsz_90 : tsz Try.prog 90 = .some 1 := by kernel_rfl
@[go_sem] theorem tby_90 : tby Try.prog 90 = .some 8 := by kernel_rfl
@[go_sem] theorem tz_90 : tz Try.prog 90 = .some [(.v .nilFunc)] := by kernel_rfl
@[go_sem] theorem tagg_90 : tagg Try.prog 90 = .some false := by kernel_rfl
@[go_sem] theorem tk_91 : tk Try.prog 91 = .other := by kernel_rfl
@[go_sem] theorem tsz_91 : tsz Try.prog 91 = .some 1 := by kernel_rfl
@[go_sem] theorem tby_91 : tby Try.prog 91 = .some 8 := by kernel_rfl
@[go_sem] theorem tz_91 : tz Try.prog 91 = .some [(.v .nilFunc)] := by kernel_rfl
@[go_sem] theorem tagg_91 : tagg Try.prog 91 = .some false := by kernel_rfl
@[go_sem] theorem tk_92 : tk Try.prog 92 = .other := by kernel_rfl
@[go_sem] theorem tsz_92 : tsz Try.prog 92 = .some 1 := by kernel_rfl
@[go_sem] theorem tby_92 : tby Try.prog 92 = .some 8 := by kernel_rfl
@[go_sem] theorem tz_92 : tz Try.prog 92 = .some [(.v .nilFunc)] := by kernel_rfl
@[go_sem] theorem tagg_92 : tagg Try.prog 92 = .some false := by kernel_rfl
@[go_sem] theorem tk_93 : tk Try.prog 93 = .other := by kernel_rfl
@[go_sem] theorem tsz_93 : tsz Try.prog 93 = .some 1 := by kernel_rfl
@[go_sem] theorem tby_93 : tby Try.prog 93 = .some 8 := by kernel_rfl
@[go_sem] theorem tz_93 : tz Try.prog 93 = .some [(.v .nilFunc)] := by kernel_rfl
@[go_sem] theorem tagg_93 : tagg Try.prog 93 = .some false := by kernel_rfl
@[go_sem] theorem tk_94 : tk Try.prog 94 = .other := by kernel_rfl
@[go_sem] theorem tsz_94 : tsz Try.prog 94 = .some 1 := by kernel_rfl
@[go_sem] theorem tby_94 : tby Try.prog 94 = .some 8 := by kernel_rfl
@[go_sem] theorem tz_94 : tz Try.prog 94 = .some [(.v .nilFunc)] := by kernel_rfl
@[go_sem] theorem tagg_94 : tagg Try.prog 94 = .some false := by kernel_rfl
@[go_sem] theorem tk_95 : tk Try.prog 95 = .arr 64 3 := by kernel_rfl
@[go_sem] theorem tsz_95 : tsz Try.prog 95 = .some 64 := by kernel_rfl
@[go_sem] theorem tby_95 : tby Try.prog 95 = .some 512 := by kernel_rfl
@[go_sem] theorem tz_95 : tz Try.prog 95 = .some [(.v (.int .i64 0)), (.v (.int .i64 0)), (.v (.int .i64 0)), (.v (.int .i64 0)), (.v (.int .i64 0)), (.v (.int .i64 0)), (.v (.int .i64 0)), (.v (.int .i64 0)), (.v (.int .i64 0)), (.v (.int .i64 0)), (.v (.int .i64 0)), (.v (.int .i64 0)), (.v (.int .i64 0)), (.v (.int .i64 0)), (.v (.int .i64 0)), (.v (.int .i64 0)), (.v (.int .i64 0)), (.v (.int .i64 0)), (.v (.int .i64 0)), (.v (.int .i64 0)), (.v (.int .i64 0)), (.v (.int .i64 0)), (.v (.int .i64 0)), (.v (.int .i64 0)), (.v (.int .i64 0)), (.v (.int .i64 0)), (.v (.int .i64 0)), (.v (.int .i64 0)), (.v (.int .i64 0)), (.v (.int .i64 0)), (.v (.int .i64 0)), (.v (.int .i64 0)), (.v (.int .i64 0)), (.v (.int .i64 0)), (.v (.int .i64 0)), (.v (.int .i64 0)), (.v (.int .i64 0)), (.v (.int .i64 0)), (.v (.int .i64 0)), (.v (.int .i64 0)), (.v (.int .i64 0)), (.v (.int .i64 0)), (.v (.int .i64 0)), (.v (.int .i64 0)), (.v (.int .i64 0)), (.v (.int .i64 0)), (.v (.int .i64 0)), (.v (.int .i64 0)), (.v (.int .i64 0)), (.v (.int .i64 0)), (.v (.int .i64 0)), (.v (.int .i64 0)), (.v (.int .i64 0)), (.v (.int .i64 0)), (.v (.int .i64 0)), (.v (.int .i64 0)), (.v (.int .i64 0)), (.v (.int .i64 0)), (.v (.int .i64 0)), (.v (.int .i64 0)), (.v (.int .i64 0)), (.v (.int .i64 0)), (.v (.int .i64 0)), (.v (.int .i64 0))] := by kernel_rfl
@[go_sem] theorem tagg_95 : tagg Try.prog 95 = .some true := by kernel_rfl
@[go_sem] theorem tk_96 : tk Try.prog 96 = .arr 64 3 := by kernel_rfl
@[go_sem] theorem tsz_96 : tsz Try.prog 96 = .some 64 := by kernel_rfl
@[go_sem] theorem tby_96 : tby Try.prog 96 = .some 512 := by kernel_rfl
@[go_sem] theorem tz_96 : tz Try.prog 96 = .some [(.v (.int .i64 0)), (.v (.int .i64 0)), (.v (.int .i64 0)), (.v (.int .i64 0)), (.v (.int .i64 0)), (.v (.int .i64 0)), (.v (.int .i64 0)), (.v (.int .i64 0)), (.v (.int .i64 0)), (.v (.int .i64 0)), (.v (.int .i64 0)), (.v (.int .i64 0)), (.v (.int .i64 0)), (.v (.int .i64 0)), (.v (.int .i64 0)), (.v (.int .i64 0)), (.v (.int .i64 0)), (.v (.int .i64 0)), (.v (.int .i64 0)), (.v (.int .i64 0)), (.v (.int .i64 0)), (.v (.int .i64 0)), (.v (.int .i64 0)), (.v (.int .i64 0)), (.v (.int .i64 0)), (.v (.int .i64 0)), (.v (.int .i64 0)), (.v (.int .i64 0)), (.v (.int .i64 0)), (.v (.int .i64 0)), (.v (.int .i64 0)), (.v (.int .i64 0)), (.v (.int .i64 0)), (.v (.int .i64 0)), (.v (.int .i64 0)), (.v (.int .i64 0)), (.v (.int .i64 0)), (.v (.int .i64 0)), (.v (.int .i64 0)), (.v (.int .i64 0)), (.v (.int .i64 0)), (.v (.int .i64 0)), (.v (.int .i64 0)), (.v (.int .i64 0)), (.v (.int .i64 0)), (.v (.int .i64 0)), (.v (.int .i64 0)), (.v (.int .i64 0)), (.v (.int .i64 0)), (.v (.int .i64 0)), (.v (.int .i64 0)), (.v (.int .i64 0)), (.v (.int .i64 0)), (.v (.int .i64 0)), (.v (.int .i64 0)), (.v (.int .i64 0)), (.v (.int .i64 0)), (.v (.int .i64 0)), (.v (.int .i64 0)), (.v (.int .i64 0)), (.v (.int .i64 0)), (.v (.int .i64 0)), (.v (.int .i64 0)), (.v (.int .i64 0))] := by kernel_rfl
@[go_sem] theorem tagg_96 : tagg Try.prog 96 = .some true := by kernel_rfl
@[go_sem] theorem tk_97 : tk Try.prog 97 = .other := by kernel_rfl
@[go_sem] theorem tsz_97 : tsz Try.prog 97 = .some 1 := by kernel_rfl
@[go_sem] theorem tby_97 : tby Try.prog 97 = .some 8 := by kernel_rfl
@[go_sem] theorem tz_97 : tz Try.prog 97 = .some [(.v .nilFunc)] := by kernel_rfl
@[go_sem] theorem tagg_97 : tagg Try.prog 97 = .some false := by kernel_rfl
@[go_sem] theorem tk_98 : tk Try.prog 98 = .str := by kernel_rfl
@[go_sem] theorem tsz_98 : tsz Try.prog 98 = .some 3 := by kernel_rfl
@[go_sem] theorem tby_98 : tby Try.prog 98 = .some 24 := by kernel_rfl
@[go_sem] theorem tz_98 : tz Try.prog 98 = .some [(.v (.int .i64 0)), (.v (.int .i64 0)), (.v (.int .i64 0))] := by kernel_rfl
@[go_sem] theorem tagg_98 : tagg Try.prog 98 = .some true := by kernel_rfl
@[go_sem] theorem tfi_98 : tfi Try.prog 98 = true := by kernel_rfl
@[go_sem] theorem tflat_98 : tflat Try.prog 98 = .some 3 := by kernel_rfl
@[go_sem] theorem ftyp_98_0 : ftyp Try.prog 98 0 = .some 3 := by kernel_rfl
@[go_sem] theorem foff_98_0 : foff Try.prog 98 0 = .some 0 := by kernel_rfl
@[go_sem] theorem ftyp_98_1 : ftyp Try.prog 98 1 = .some 3 := by kernel_rfl
@[go_sem] theorem foff_98_1 : foff Try.prog 98 1 = .some 1 := by kernel_rfl
@[go_sem] theorem ftyp_98_2 : ftyp Try.prog 98 2 = .some 3 := by kernel_rfl
@[go_sem] theorem foff_98_2 : foff Try.prog 98 2 = .some 2 := by kernel_rfl
@[go_sem] theorem tk_99 : tk Try.prog 99 = .str := by kernel_rfl
@[go_sem] theorem tsz_99 : tsz Try.prog 99 = .some 3 := by kernel_rfl
@[go_sem] theorem tby_99 : tby Try.prog 99 = .some 24 := by kernel_rfl
@[go_sem] theorem tz_99 : tz Try.prog 99 = .some [(.v (.int .i64 0)), (.v (.int .i64 0)), (.v (.int .i64 0))] := by kernel_rfl
@[go_sem] theorem tagg_99 : tagg Try.prog 99 = .some true := by kernel_rfl
@[go_sem] theorem tfi_99 : tfi Try.prog 99 = true := by kernel_rfl
@[go_sem] theorem tflat_99 : tflat Try.prog 99 = .some 3 := by kernel_rfl
@[go_sem] theorem ftyp_99_0 : ftyp Try.prog 99 0 = .some 3 := by kernel_rfl
@[go_sem] theorem foff_99_0 : foff Try.prog 99 0 = .some 0 := by kernel_rfl
@[go_sem] theorem ftyp_99_1 : ftyp Try.prog 99 1 = .some 3 := by kernel_rfl
@[go_sem] theorem foff_99_1 : foff Try.prog 99 1 = .some 1 := by kernel_rfl
@[go_sem] theorem ftyp_99_2 : ftyp Try.prog 99 2 = .some 3 := by kernel_rfl
@[go_sem] theorem foff_99_2 : foff Try.prog 99 2 = .some 2 := by kernel_rfl
@[go_sem] theorem tk_100 : tk Try.prog 100 = .other := by kernel_rfl
@[go_sem] theorem tsz_100 : tsz Try.prog 100 = .some 1 := by kernel_rfl
@[go_sem] theorem tby_100 : tby Try.prog 100 = .some 8 := by kernel_rfl
@[go_sem] theorem tz_100 : tz Try.prog 100 = .some [(.v .nilFunc)] := by kernel_rfl
@[go_sem] theorem tagg_100 : tagg Try.prog 100 = .some false := by kernel_rfl
@[go_sem] theorem tk_101 : tk Try.prog 101 = .other := by kernel_rfl
@[go_sem] theorem tsz_101 : tsz Try.prog 101 = .some 1 := by kernel_rfl
@[go_sem] theorem tby_101 : tby Try.prog 101 = .some 8 := by kernel_rfl
@[go_sem] theorem tz_101 : tz Try.prog 101 = .some [(.v .nilFunc)] := by kernel_rfl
@[go_sem] theorem tagg_101 : tagg Try.prog 101 = .some false := by kernel_rfl
@[go_sem] theorem tk_102 : tk Try.prog 102 = .other := by kernel_rfl
@[go_sem] theorem tsz_102 : tsz Try.prog 102 = .some 1 := by kernel_rfl
@[go_sem] theorem tby_102 : tby Try.prog 102 = .some 8 := by kernel_rfl
@[go_sem] theorem tz_102 : tz Try.prog 102 = .some [(.v .nilFunc)] := by kernel_rfl
@[go_sem] theorem tagg_102 : tagg Try.prog 102 = .some false := by kernel_rfl
@[go_sem] theorem tk_103 : tk Try.prog 103 = .other := by kernel_rfl
@[go_sem] theorem tsz_103 : tsz Try.prog 103 = .some 1 := by kernel_rfl
@[go_sem] theorem tby_103 : tby Try.prog 103 = .some 8 := by kernel_rfl
@[go_sem] theorem tz_103 : tz Try.prog 103 = .some [(.v .nilFunc)] := by kernel_rfl
@[go_sem] theorem tagg_103 : tagg Try.prog 103 = .some false := by kernel_rfl
@[go_sem] theorem tk_104 : tk Try.prog 104 = .other := by kernel_rfl
@[go_sem] theorem tsz_104 : tsz Try.prog 104 = .some 1 := by kernel_rfl
@[go_sem] theorem tby_104 : tby Try.prog 104 = .some 8 := by kernel_rfl
@[go_sem] theorem tz_104 : tz Try.prog 104 = .some [(.v .nilFunc)] := by kernel_rfl
@[go_sem] theorem tagg_104 : tagg Try.prog 104 = .some false := by kernel_rfl
@[go_sem] theorem tk_105 : tk Try.prog 105 = .other := by kernel_rfl
@[go_sem] theorem tsz_105 : tsz Try.prog 105 = .some 1 := by kernel_rfl
@[go_sem] theorem tby_105 : tby Try.prog 105 = .some 0 := by kernel_rfl
@[go_sem] theorem tagg_105 : tagg Try.prog 105 = .some false := by kernel_rfl
@[go_sem] theorem tk_106 : tk Try.prog 106 = .other := by kernel_rfl
@[go_sem] theorem tsz_106 : tsz Try.prog 106 = .some 1 := by kernel_rfl
@[go_sem] theorem tby_106 : tby Try.prog 106 = .some 8 := by kernel_rfl
@[go_sem] theorem tz_106 : tz Try.prog 106 = .some [(.v .nilFunc)] := by kernel_rfl
@[go_sem] theorem tagg_106 : tagg Try.prog 106 = .some false := by kernel_rfl
@[go_sem] theorem tk_107 : tk Try.prog 107 = .other := by kernel_rfl
@[go_sem] theorem tsz_107 : tsz Try.prog 107 = .some 1 := by kernel_rfl
@[go_sem] theorem tby_107 : tby Try.prog 107 = .some 8 := by kernel_rfl
@[go_sem] theorem tz_107 : tz Try.prog 107 = .some [(.v .nilFunc)] := by kernel_rfl
@[go_sem] theorem tagg_107 : tagg Try.prog 107 = .some false := by kernel_rfl
@[go_sem] theorem tk_108 : tk Try.prog 108 = .other := by kernel_rfl
@[go_sem] theorem tsz_108 : tsz Try.prog 108 = .some 1 := by kernel_rfl
@[go_sem] theorem tby_108 : tby Try.prog 108 = .some 8 := by kernel_rfl
@[go_sem] theorem tz_108 : tz Try.prog 108 = .some [(.v .nilFunc)] := by kernel_rfl
@[go_sem] theorem tagg_108 : tagg Try.prog 108 = .some false := by kernel_rfl
@[go_sem] theorem tk_109 : tk Try.prog 109 = .other := by kernel_rfl
@[go_sem] theorem tsz_109 : tsz Try.prog 109 = .some 1 := by kernel_rfl
@[go_sem] theorem tby_109 : tby Try.prog 109 = .some 8 := by kernel_rfl
@[go_sem] theorem tz_109 : tz Try.prog 109 = .some [(.v .nilFunc)] := by kernel_rfl
@[go_sem] theorem tagg_109 : tagg Try.prog 109 = .some false := by kernel_rfl
@[go_sem] theorem tk_110 : tk Try.prog 110 = .str := by kernel_rfl
@[go_sem] theorem tsz_110 : tsz Try.prog 110 = .some 9 := by kernel_rfl
@[go_sem] theorem tby_110 : tby Try.prog 110 = .some 136 := by kernel_rfl
@[go_sem] theorem tz_110 : tz Try.prog 110 = .some [(.v (.int .i64 0)), (.v (.slice .none 0 0)), (.v (.slice .none 0 0)), (.v (.slice .none 0 0)), (.v (.int .i64 0)), (.v (.bool false)), (.v (.slice .none 0 0)), (.v (.int .i64 0)), (.v (.int .i64 0))] := by kernel_rfl
@[go_sem] theorem tagg_110 : tagg Try.prog 110 = .some true := by kernel_rfl
@[go_sem] theorem tfi_110 : tfi Try.prog 110 = true := by kernel_rfl
@[go_sem] theorem ftyp_110_0 : ftyp Try.prog 110 0 = .some 41 := by kernel_rfl
@[go_sem] theorem foff_110_0 : foff Try.prog 110 0 = .some 0 := by kernel_rfl
@[go_sem] theorem tk_111 : tk Try.prog 111 = .str := by kernel_rfl
@[go_sem] theorem tsz_111 : tsz Try.prog 111 = .some 9 := by kernel_rfl
@[go_sem] theorem tby_111 : tby Try.prog 111 = .some 136 := by kernel_rfl
@[go_sem] theorem tz_111 : tz Try.prog 111 = .some [(.v (.int .i64 0)), (.v (.slice .none 0 0)), (.v (.slice .none 0 0)), (.v (.slice .none 0 0)), (.v (.int .i64 0)), (.v (.bool false)), (.v (.slice .none 0 0)), (.v (.int .i64 0)), (.v (.int .i64 0))] := by kernel_rfl
@[go_sem] theorem tagg_111 : tagg Try.prog 111 = .some true := by kernel_rfl
@[go_sem] theorem tfi_111 : tfi Try.prog 111 = true := by kernel_rfl
@[go_sem] theorem ftyp_111_0 : ftyp Try.prog 111 0 = .some 41 := by kernel_rfl
@[go_sem] theorem foff_111_0 : foff Try.prog 111 0 = .some 0 := by kernel_rfl
@[go_sem] theorem tk_112 : tk Try.prog 112 = .other := by kernel_rfl
@[go_sem] theorem tsz_112 : tsz Try.prog 112 = .some 1 := by kernel_rfl
@[go_sem] theorem tby_112 : tby Try.prog 112 = .some 8 := by kernel_rfl
@[go_sem] theorem tz_112 : tz Try.prog 112 = .some [(.v .nilFunc)] := by kernel_rfl
@[go_sem] theorem tagg_112 : tagg Try.prog 112 = .some false := by kernel_rfl
@[go_sem] theorem tk_113 : tk Try.prog 113 = .other := by kernel_rfl
@[go_sem] theorem tsz_113 : tsz Try.prog 113 = .some 1 := by kernel_rfl
@[go_sem] theorem tby_113 : tby Try.prog 113 = .some 8 := by kernel_rfl
@[go_sem] theorem tz_113 : tz Try.prog 113 = .some [(.v .nilFunc)] := by kernel_rfl
@[go_sem] theorem tagg_113 : tagg Try.prog 113 = .some false := by kernel_rfl
@[go_sem] theorem tk_114 : tk Try.prog 114 = .other := by kernel_rfl
@[go_sem] theorem tsz_114 : tsz Try.prog 114 = .some 1 := by kernel_rfl
@[go_sem] theorem tby_114 : tby Try.prog 114 = .some 8 := by kernel_rfl
@[go_sem] theorem tz_114 : tz Try.prog 114 = .some [(.v .nilFunc)] := by kernel_rfl
@[go_sem] theorem tagg_114 : tagg Try.prog 114 = .some false := by kernel_rfl
@[go_sem] theorem tk_115 : tk Try.prog 115 = .other := by kernel_rfl
@[go_sem] theorem tsz_115 : tsz Try.prog 115 = .some 1 := by kernel_rfl
@[go_sem] theorem tby_115 : tby Try.prog 115 = .some 8 := by kernel_rfl
@[go_sem] theorem tz_115 : tz Try.prog 115 = .some [(.v .nilFunc)] := by kernel_rfl
@[go_sem] theorem tagg_115 : tagg Try.prog 115 = .some false := by kernel_rfl
@[go_sem] theorem tk_116 : tk Try.prog 116 = .other := by kernel_rfl
@[go_sem] theorem tsz_116 : tsz Try.prog 116 = .some 1 := by kernel_rfl
@[go_sem] theorem tby_116 : tby Try.prog 116 = .some 8 := by kernel_rfl
@[go_sem] theorem tz_116 : tz Try.prog 116 = .some [(.v .nilFunc)] := by kernel_rfl
@[go_sem] theorem tagg_116 : tagg Try.prog 116 = .some false := by kernel_rfl
@[go_sem] theorem tk_117 : tk Try.prog 117 = .other := by kernel_rfl
@[go_sem] theorem tsz_117 : tsz Try.prog 117 = .some 1 := by kernel_rfl
@[go_sem] theorem tby_117 : tby Try.prog 117 = .some 8 := by kernel_rfl
@[go_sem] theorem tz_117 : tz Try.prog 117 = .some [(.v .nilFunc)] := by kernel_rfl
@[go_sem] theorem tagg_117 : tagg Try.prog 117 = .some false := by kernel_rfl
@[go_sem] theorem tk_118 : tk Try.prog 118 = .other := by kernel_rfl
@[go_sem] theorem tsz_118 : tsz Try.prog 118 = .some 1 := by kernel_rfl
@[go_sem] theorem tby_118 : tby Try.prog 118 = .some 8 := by kernel_rfl
@[go_sem] theorem tz_118 : tz Try.prog 118 = .some [(.v .nilFunc)] := by kernel_rfl
@[go_sem] theorem tagg_118 : tagg Try.prog 118 = .some false := by kernel_rfl
@[go_sem] theorem tk_119 : tk Try.prog 119 = .other := by kernel_rfl
@[go_sem] theorem tsz_119 : tsz Try.prog 119 = .some 1 := by kernel_rfl
@[go_sem] theorem tby_119 : tby Try.prog 119 = .some 8 := by kernel_rfl
@[go_sem] theorem tz_119 : tz Try.prog 119 = .some [(.v .nilFunc)] := by kernel_rfl
@[go_sem] theorem tagg_119 : tagg Try.prog 119 = .some false := by kernel_rfl
@[go_sem] theorem tk_120 : tk Try.prog 120 = .ptr 96 := by kernel_rfl
@[go_sem] theorem tsz_120 : tsz Try.prog 120 = .some 1 := by kernel_rfl
@[go_sem] theorem tby_120 : tby Try.prog 120 = .some 8 := by kernel_rfl
@[go_sem] theorem tz_120 : tz Try.prog 120 = .some [(.v (.pointer .none))] := by kernel_rfl
@[go_sem] theorem tagg_120 : tagg Try.prog 120 = .some false := by kernel_rfl
@[go_sem] theorem tk_121 : tk Try.prog 121 = .other := by kernel_rfl
@[go_sem] theorem tsz_121 : tsz Try.prog 121 = .some 1 := by kernel_rfl
@[go_sem] theorem tby_121 : tby Try.prog 121 = .some 8 := by kernel_rfl
@[go_sem] theorem tz_121 : tz Try.prog 121 = .some [(.v .nilFunc)] := by kernel_rfl
@[go_sem] theorem tagg_121 : tagg Try.prog 121 = .some false := by kernel_rfl
@[go_sem] theorem tk_122 : tk Try.prog 122 = .other := by kernel_rfl
@[go_sem] theorem tsz_122 : tsz Try.prog 122 = .some 1 := by kernel_rfl
@[go_sem] theorem tby_122 : tby Try.prog 122 = .some 8 := by kernel_rfl
@[go_sem] theorem tz_122 : tz Try.prog 122 = .some [(.v .nilFunc)] := by kernel_rfl
@[go_sem] theorem tagg_122 : tagg Try.prog 122 = .some false := by kernel_rfl
@[go_sem] theorem tk_123 : tk Try.prog 123 = .other := by kernel_rfl
@[go_sem] theorem tsz_123 : tsz Try.prog 123 = .some 1 := by kernel_rfl
@[go_sem] theorem tby_123 : tby Try.prog 123 = .some 8 := by kernel_rfl
@[go_sem] theorem tz_123 : tz Try.prog 123 = .some [(.v .nilFunc)] := by kernel_rfl
@[go_sem] theorem tagg_123 : tagg Try.prog 123 = .some false := by kernel_rfl
@[go_sem] theorem tk_124 : tk Try.prog 124 = .other := by kernel_rfl
@[go_sem] theorem tsz_124 : tsz Try.prog 124 = .some 1 := by kernel_rfl
@[go_sem] theorem tby_124 : tby Try.prog 124 = .some 8 := by kernel_rfl
@[go_sem] theorem tz_124 : tz Try.prog 124 = .some [(.v .nilFunc)] := by kernel_rfl
@[go_sem] theorem tagg_124 : tagg Try.prog 124 = .some false := by kernel_rfl
@[go_sem] theorem tk_125 : tk Try.prog 125 = .other := by kernel_rfl
@[go_sem] theorem tsz_125 : tsz Try.prog 125 = .some 1 := by kernel_rfl
@[go_sem] theorem tby_125 : tby Try.prog 125 = .some 8 := by kernel_rfl
@[go_sem] theorem tz_125 : tz Try.prog 125 = .some [(.v .nilFunc)] := by kernel_rfl
@[go_sem] theorem tagg_125 : tagg Try.prog 125 = .some false := by kernel_rfl
@[go_sem] theorem tk_126 : tk Try.prog 126 = .other := by kernel_rfl
@[go_sem] theorem tsz_126 : tsz Try.prog 126 = .some 1 := by kernel_rfl
@[go_sem] theorem tby_126 : tby Try.prog 126 = .some 8 := by kernel_rfl
@[go_sem] theorem tz_126 : tz Try.prog 126 = .some [(.v .nilFunc)] := by kernel_rfl
@[go_sem] theorem tagg_126 : tagg Try.prog 126 = .some false := by kernel_rfl
@[go_sem] theorem tk_127 : tk Try.prog 127 = .other := by kernel_rfl
@[go_sem] theorem tsz_127 : tsz Try.prog 127 = .some 1 := by kernel_rfl
@[go_sem] theorem tby_127 : tby Try.prog 127 = .some 8 := by kernel_rfl
@[go_sem] theorem tz_127 : tz Try.prog 127 = .some [(.v .nilFunc)] := by kernel_rfl
@[go_sem] theorem tagg_127 : tagg Try.prog 127 = .some false := by kernel_rfl
@[go_sem] theorem tk_128 : tk Try.prog 128 = .other := by kernel_rfl
@[go_sem] theorem tsz_128 : tsz Try.prog 128 = .some 1 := by kernel_rfl
@[go_sem] theorem tby_128 : tby Try.prog 128 = .some 8 := by kernel_rfl
@[go_sem] theorem tz_128 : tz Try.prog 128 = .some [(.v .nilFunc)] := by kernel_rfl
@[go_sem] theorem tagg_128 : tagg Try.prog 128 = .some false := by kernel_rfl
@[go_sem] theorem tk_129 : tk Try.prog 129 = .other := by kernel_rfl
@[go_sem] theorem tsz_129 : tsz Try.prog 129 = .some 1 := by kernel_rfl
@[go_sem] theorem tby_129 : tby Try.prog 129 = .some 8 := by kernel_rfl
@[go_sem] theorem tz_129 : tz Try.prog 129 = .some [(.v .nilFunc)] := by kernel_rfl
@[go_sem] theorem tagg_129 : tagg Try.prog 129 = .some false := by kernel_rfl
@[go_sem] theorem tk_130 : tk Try.prog 130 = .other := by kernel_rfl
@[go_sem] theorem tsz_130 : tsz Try.prog 130 = .some 1 := by kernel_rfl
@[go_sem] theorem tby_130 : tby Try.prog 130 = .some 8 := by kernel_rfl
@[go_sem] theorem tz_130 : tz Try.prog 130 = .some [(.v .nilFunc)] := by kernel_rfl
@[go_sem] theorem tagg_130 : tagg Try.prog 130 = .some false := by kernel_rfl
@[go_sem] theorem tk_131 : tk Try.prog 131 = .other := by kernel_rfl
@[go_sem] theorem tsz_131 : tsz Try.prog 131 = .some 1 := by kernel_rfl
@[go_sem] theorem tby_131 : tby Try.prog 131 = .some 8 := by kernel_rfl
@[go_sem] theorem tz_131 : tz Try.prog 131 = .some [(.v .nilFunc)] := by kernel_rfl
@[go_sem] theorem tagg_131 : tagg Try.prog 131 = .some false := by kernel_rfl
@[go_sem] theorem tk_132 : tk Try.prog 132 = .other := by kernel_rfl
@[go_sem] theorem tsz_132 : tsz Try.prog 132 = .some 1 := by kernel_rfl
@[go_sem] theorem tby_132 : tby Try.prog 132 = .some 8 := by kernel_rfl
@[go_sem] theorem tz_132 : tz Try.prog 132 = .some [(.v .nilFunc)] := by kernel_rfl
@[go_sem] theorem tagg_132 : tagg Try.prog 132 = .some false := by kernel_rfl
@[go_sem] theorem tk_133 : tk Try.prog 133 = .other := by kernel_rfl
@[go_sem] theorem tsz_133 : tsz Try.prog 133 = .some 1 := by kernel_rfl
@[go_sem] theorem tby_133 : tby Try.prog 133 = .some 8 := by kernel_rfl
@[go_sem] theorem tz_133 : tz Try.prog 133 = .some [(.v .nilFunc)] := by kernel_rfl
@[go_sem] theorem tagg_133 : tagg Try.prog 133 = .some false := by kernel_rfl
@[go_sem] theorem tk_134 : tk Try.prog 134 = .other := by kernel_rfl
@[go_sem] theorem tsz_134 : tsz Try.prog 134 = .some 1 := by kernel_rfl
@[go_sem] theorem tby_134 : tby Try.prog 134 = .some 8 := by kernel_rfl
@[go_sem] theorem tz_134 : tz Try.prog 134 = .some [(.v .nilFunc)] := by kernel_rfl
@[go_sem] theorem tagg_134 : tagg Try.prog 134 = .some false := by kernel_rfl
@[go_sem] theorem tk_135 : tk Try.prog 135 = .other := by kernel_rfl
@[go_sem] theorem tsz_135 : tsz Try.prog 135 = .some 1 := by kernel_rfl
@[go_sem] theorem tby_135 : tby Try.prog 135 = .some 8 := by kernel_rfl
@[go_sem] theorem tz_135 : tz Try.prog 135 = .some [(.v .nilFunc)] := by kernel_rfl
@[go_sem] theorem tagg_135 : tagg Try.prog 135 = .some false := by kernel_rfl
@[go_sem] theorem tk_136 : tk Try.prog 136 = .other := by kernel_rfl
@[go_sem] theorem tsz_136 : tsz Try.prog 136 = .some 1 := by kernel_rfl
@[go_sem] theorem tby_136 : tby Try.prog 136 = .some 8 := by kernel_rfl
@[go_sem] theorem tz_136 : tz Try.prog 136 = .some [(.v .nilFunc)] := by kernel_rfl
@[go_sem] theorem tagg_136 : tagg Try.prog 136 = .some false := by kernel_rfl
@[go_sem] theorem tk_137 : tk Try.prog 137 = .other := by kernel_rfl
@[go_sem] theorem tsz_137 : tsz Try.prog 137 = .some 1 := by kernel_rfl
@[go_sem] theorem tby_137 : tby Try.prog 137 = .some 8 := by kernel_rfl
@[go_sem] theorem tz_137 : tz Try.prog 137 = .some [(.v .nilFunc)] := by kernel_rfl
@[go_sem] theorem tagg_137 : tagg Try.prog 137 = .some false := by kernel_rfl
@[go_sem] theorem tk_138 : tk Try.prog 138 = .other := by kernel_rfl
@[go_sem] theorem tsz_138 : tsz Try.prog 138 = .some 1 := by kernel_rfl
@[go_sem] theorem tby_138 : tby Try.prog 138 = .some 8 := by kernel_rfl
@[go_sem] theorem tz_138 : tz Try.prog 138 = .some [(.v .nilFunc)] := by kernel_rfl
@[go_sem] theorem tagg_138 : tagg Try.prog 138 = .some false := by kernel_rfl
@[go_sem] theorem tk_139 : tk Try.prog 139 = .other := by kernel_rfl
@[go_sem] theorem tsz_139 : tsz Try.prog 139 = .some 1 := by kernel_rfl
@[go_sem] theorem tby_139 : tby Try.prog 139 = .some 8 := by kernel_rfl
@[go_sem] theorem tz_139 : tz Try.prog 139 = .some [(.v .nilFunc)] := by kernel_rfl
@[go_sem] theorem tagg_139 : tagg Try.prog 139 = .some false := by kernel_rfl
@[go_sem] theorem tk_140 : tk Try.prog 140 = .arr 4 3 := by kernel_rfl
@[go_sem] theorem tsz_140 : tsz Try.prog 140 = .some 4 := by kernel_rfl
@[go_sem] theorem tby_140 : tby Try.prog 140 = .some 32 := by kernel_rfl
@[go_sem] theorem tz_140 : tz Try.prog 140 = .some [(.v (.int .i64 0)), (.v (.int .i64 0)), (.v (.int .i64 0)), (.v (.int .i64 0))] := by kernel_rfl
@[go_sem] theorem tagg_140 : tagg Try.prog 140 = .some true := by kernel_rfl
@[go_sem] theorem tk_141 : tk Try.prog 141 = .str := by kernel_rfl
@[go_sem] theorem tsz_141 : tsz Try.prog 141 = .some 2 := by kernel_rfl
@[go_sem] theorem tby_141 : tby Try.prog 141 = .some 24 := by kernel_rfl
@[go_sem] theorem tz_141 : tz Try.prog 141 = .some [(.v (.string ⟨⟨[]⟩⟩)), (.v (.int .i64 0))] := by kernel_rfl
@[go_sem] theorem tagg_141 : tagg Try.prog 141 = .some true := by kernel_rfl
@[go_sem] theorem tfi_141 : tfi Try.prog 141 = true := by kernel_rfl
@[go_sem] theorem ftyp_141_0 : ftyp Try.prog 141 0 = .some 9 := by kernel_rfl
@[go_sem] theorem foff_141_0 : foff Try.prog 141 0 = .some 0 := by kernel_rfl
@[go_sem] theorem ftyp_141_1 : ftyp Try.prog 141 1 = .some 3 := by kernel_rfl
@[go_sem] theorem foff_141_1 : foff Try.prog 141 1 = .some 1 := by kernel_rfl
@[go_sem] theorem tk_142 : tk Try.prog 142 = .str := by kernel_rfl
@[go_sem] theorem tsz_142 : tsz Try.prog 142 = .some 2 := by kernel_rfl
@[go_sem] theorem tby_142 : tby Try.prog 142 = .some 24 := by kernel_rfl
@[go_sem] theorem tz_142 : tz Try.prog 142 = .some [(.v (.string ⟨⟨[]⟩⟩)), (.v (.int .i64 0))] := by kernel_rfl
@[go_sem] theorem tagg_142 : tagg Try.prog 142 = .some true := by kernel_rfl
@[go_sem] theorem tfi_142 : tfi Try.prog 142 = true := by kernel_rfl
@[go_sem] theorem ftyp_142_0 : ftyp Try.prog 142 0 = .some 9 := by kernel_rfl
@[go_sem] theorem foff_142_0 : foff Try.prog 142 0 = .some 0 := by kernel_rfl
@[go_sem] theorem ftyp_142_1 : ftyp Try.prog 142 1 = .some 3 := by kernel_rfl
@[go_sem] theorem foff_142_1 : foff Try.prog 142 1 = .some 1 := by kernel_rfl
@[go_sem] theorem tk_143 : tk Try.prog 143 = .other := by kernel_rfl
@[go_sem] theorem tsz_143 : tsz Try.prog 143 = .some 1 := by kernel_rfl
@[go_sem] theorem tby_143 : tby Try.prog 143 = .some 0 := by kernel_rfl
@[go_sem] theorem tagg_143 : tagg Try.prog 143 = .some false := by kernel_rfl
@[go_sem] theorem tk_144 : tk Try.prog 144 = .other := by kernel_rfl
@[go_sem] theorem tsz_144 : tsz Try.prog 144 = .some 1 := by kernel_rfl
@[go_sem] theorem tby_144 : tby Try.prog 144 = .some 8 := by kernel_rfl
@[go_sem] theorem tz_144 : tz Try.prog 144 = .some [(.v .nilFunc)] := by kernel_rfl
@[go_sem] theorem tagg_144 : tagg Try.prog 144 = .some false := by kernel_rfl
@[go_sem] theorem tk_145 : tk Try.prog 145 = .other := by kernel_rfl
@[go_sem] theorem tsz_145 : tsz Try.prog 145 = .some 1 := by kernel_rfl
@[go_sem] theorem tby_145 : tby Try.prog 145 = .some 8 := by kernel_rfl
@[go_sem] theorem tz_145 : tz Try.prog 145 = .some [(.v .nilFunc)] := by kernel_rfl
@[go_sem] theorem tagg_145 : tagg Try.prog 145 = .some false := by kernel_rfl
@[go_sem] theorem tk_146 : tk Try.prog 146 = .other := by kernel_rfl
@[go_sem] theorem tsz_146 : tsz Try.prog 146 = .some 1 := by kernel_rfl
@[go_sem] theorem tby_146 : tby Try.prog 146 = .some 8 := by kernel_rfl
@[go_sem] theorem tz_146 : tz Try.prog 146 = .some [(.v .nilFunc)] := by kernel_rfl
@[go_sem] theorem tagg_146 : tagg Try.prog 146 = .some false := by kernel_rfl
@[go_sem] theorem tk_147 : tk Try.prog 147 = .other := by kernel_rfl
@[go_sem] theorem tsz_147 : tsz Try.prog 147 = .some 1 := by kernel_rfl
@[go_sem] theorem tby_147 : tby Try.prog 147 = .some 8 := by kernel_rfl
@[go_sem] theorem tz_147 : tz Try.prog 147 = .some [(.v .nilFunc)] := by kernel_rfl
@[go_sem] theorem tagg_147 : tagg Try.prog 147 = .some false := by kernel_rfl
@[go_sem] theorem tk_148 : tk Try.prog 148 = .other := by kernel_rfl
@[go_sem] theorem tsz_148 : tsz Try.prog 148 = .some 1 := by kernel_rfl
@[go_sem] theorem tby_148 : tby Try.prog 148 = .some 8 := by kernel_rfl
@[go_sem] theorem tz_148 : tz Try.prog 148 = .some [(.v .nilFunc)] := by kernel_rfl
@[go_sem] theorem tagg_148 : tagg Try.prog 148 = .some false := by kernel_rfl
@[go_sem] theorem tk_149 : tk Try.prog 149 = .other := by kernel_rfl
@[go_sem] theorem tsz_149 : tsz Try.prog 149 = .some 1 := by kernel_rfl
@[go_sem] theorem tby_149 : tby Try.prog 149 = .some 8 := by kernel_rfl
@[go_sem] theorem tz_149 : tz Try.prog 149 = .some [(.v .nilFunc)] := by kernel_rfl
@[go_sem] theorem tagg_149 : tagg Try.prog 149 = .some false := by kernel_rfl
@[go_sem] theorem tk_150 : tk Try.prog 150 = .other := by kernel_rfl
@[go_sem] theorem tsz_150 : tsz Try.prog 150 = .some 1 := by kernel_rfl
@[go_sem] theorem tby_150 : tby Try.prog 150 = .some 8 := by kernel_rfl
@[go_sem] theorem tz_150 : tz Try.prog 150 = .some [(.v .nilFunc)] := by kernel_rfl
@[go_sem] theorem tagg_150 : tagg Try.prog 150 = .some false := by kernel_rfl
@[go_sem] theorem tk_151 : tk Try.prog 151 = .other := by kernel_rfl
@[go_sem] theorem tsz_151 : tsz Try.prog 151 = .some 1 := by kernel_rfl
@[go_sem] theorem tby_151 : tby Try.prog 151 = .some 8 := by kernel_rfl
@[go_sem] theorem tz_151 : tz Try.prog 151 = .some [(.v .nilFunc)] := by kernel_rfl
@[go_sem] theorem tagg_151 : tagg Try.prog 151 = .some false := by kernel_rfl
@[go_sem] theorem tk_152 : tk Try.prog 152 = .other := by kernel_rfl
@[go_sem] theorem tsz_152 : tsz Try.prog 152 = .some 1 := by kernel_rfl
@[go_sem] theorem tby_152 : tby Try.prog 152 = .some 8 := by kernel_rfl
@[go_sem] theorem tz_152 : tz Try.prog 152 = .some [(.v .nilFunc)] := by kernel_rfl
@[go_sem] theorem tagg_152 : tagg Try.prog 152 = .some false := by kernel_rfl
@[go_sem] theorem tk_153 : tk Try.prog 153 = .other := by kernel_rfl
@[go_sem] theorem tsz_153 : tsz Try.prog 153 = .some 1 := by kernel_rfl
@[go_sem] theorem tby_153 : tby Try.prog 153 = .some 8 := by kernel_rfl
@[go_sem] theorem tz_153 : tz Try.prog 153 = .some [(.v .nilFunc)] := by kernel_rfl
@[go_sem] theorem tagg_153 : tagg Try.prog 153 = .some false := by kernel_rfl
@[go_sem] theorem tk_154 : tk Try.prog 154 = .arr 11 142 := by kernel_rfl
@[go_sem] theorem tsz_154 : tsz Try.prog 154 = .some 22 := by kernel_rfl
@[go_sem] theorem tby_154 : tby Try.prog 154 = .some 264 := by kernel_rfl
@[go_sem] theorem tz_154 : tz Try.prog 154 = .some [(.v (.string ⟨⟨[]⟩⟩)), (.v (.int .i64 0)), (.v (.string ⟨⟨[]⟩⟩)), (.v (.int .i64 0)), (.v (.string ⟨⟨[]⟩⟩)), (.v (.int .i64 0)), (.v (.string ⟨⟨[]⟩⟩)), (.v (.int .i64 0)), (.v (.string ⟨⟨[]⟩⟩)), (.v (.int .i64 0)), (.v (.string ⟨⟨[]⟩⟩)), (.v (.int .i64 0)), (.v (.string ⟨⟨[]⟩⟩)), (.v (.int .i64 0)), (.v (.string ⟨⟨[]⟩⟩)), (.v (.int .i64 0)), (.v (.string ⟨⟨[]⟩⟩)), (.v (.int .i64 0)), (.v (.string ⟨⟨[]⟩⟩)), (.v (.int .i64 0)), (.v (.string ⟨⟨[]⟩⟩)), (.v (.int .i64 0))] := by kernel_rfl
@[go_sem] theorem tagg_154 : tagg Try.prog 154 = .some true := by kernel_rfl
@[go_sem] theorem tk_155 : tk Try.prog 155 = .other := by kernel_rfl
@[go_sem] theorem tsz_155 : tsz Try.prog 155 = .some 1 := by kernel_rfl
@[go_sem] theorem tby_155 : tby Try.prog 155 = .some 8 := by kernel_rfl
@[go_sem] theorem tz_155 : tz Try.prog 155 = .some [(.v .nilFunc)] := by kernel_rfl
@[go_sem] theorem tagg_155 : tagg Try.prog 155 = .some false := by kernel_rfl
@[go_sem] theorem tk_156 : tk Try.prog 156 = .other := by kernel_rfl
@[go_sem] theorem tsz_156 : tsz Try.prog 156 = .some 1 := by kernel_rfl
@[go_sem] theorem tby_156 : tby Try.prog 156 = .some 8 := by kernel_rfl
@[go_sem] theorem tz_156 : tz Try.prog 156 = .some [(.v .nilFunc)] := by kernel_rfl
@[go_sem] theorem tagg_156 : tagg Try.prog 156 = .some false := by kernel_rfl
@[go_sem] theorem tk_157 : tk Try.prog 157 = .other := by kernel_rfl
@[go_sem] theorem tsz_157 : tsz Try.prog 157 = .some 1 := by kernel_rfl
@[go_sem] theorem tby_157 : tby Try.prog 157 = .some 8 := by kernel_rfl
@[go_sem] theorem tz_157 : tz Try.prog 157 = .some [(.v .nilFunc)] := by kernel_rfl
@[go_sem] theorem tagg_157 : tagg Try.prog 157 = .some false := by kernel_rfl
@[go_sem] theorem tk_158 : tk Try.prog 158 = .sl 69 := by kernel_rfl
@[go_sem] theorem tsz_158 : tsz Try.prog 158 = .some 1 := by kernel_rfl
@[go_sem] theorem tby_158 : tby Try.prog 158 = .some 24 := by kernel_rfl
@[go_sem] theorem tz_158 : tz Try.prog 158 = .some [(.v (.slice .none 0 0))] := by kernel_rfl
@[go_sem] theorem tagg_158 : tagg Try.prog 158 = .some false := by kernel_rfl
@[go_sem] theorem tk_159 : tk Try.prog 159 = .other := by kernel_rfl
@[go_sem] theorem tsz_159 : tsz Try.prog 159 = .some 1 := by kernel_rfl
@[go_sem] theorem tby_159 : tby Try.prog 159 = .some 8 := by kernel_rfl
@[go_sem] theorem tz_159 : tz Try.prog 159 = .some [(.v .nilFunc)] := by kernel_rfl
@[go_sem] theorem tagg_159 : tagg Try.prog 159 = .some false := by kernel_rfl
@[go_sem] theorem tk_160 : tk Try.prog 160 = .other := by kernel_rfl
@[go_sem] theorem tsz_160 : tsz Try.prog 160 = .some 1 := by kernel_rfl
@[go_sem] theorem tby_160 : tby Try.prog 160 = .some 8 := by kernel_rfl
@[go_sem] theorem tz_160 : tz Try.prog 160 = .some [(.v .nilFunc)] := by kernel_rfl
@[go_sem] theorem tagg_160 : tagg Try.prog 160 = .some false := by kernel_rfl
@[go_sem] theorem tk_161 : tk Try.prog 161 = .other := by kernel_rfl
@[go_sem] theorem tsz_161 : tsz Try.prog 161 = .some 1 := by kernel_rfl
@[go_sem] theorem tby_161 : tby Try.prog 161 = .some 8 := by kernel_rfl
@[go_sem] theorem tz_161 : tz Try.prog 161 = .some [(.v .nilFunc)] := by kernel_rfl
@[go_sem] theorem tagg_161 : tagg Try.prog 161 = .some false := by kernel_rfl
@[go_sem] theorem tk_162 : tk Try.prog 162 = .other := by kernel_rfl
@[go_sem] theorem tsz_162 : tsz Try.prog 162 = .some 1 := by kernel_rfl
@[go_sem] theorem tby_162 : tby Try.prog 162 = .some 8 := by kernel_rfl
@[go_sem] theorem tz_162 : tz Try.prog 162 = .some [(.v .nilFunc)] := by kernel_rfl
@[go_sem] theorem tagg_162 : tagg Try.prog 162 = .some false := by kernel_rfl
@[go_sem] theorem tk_163 : tk Try.prog 163 = .other := by kernel_rfl
@[go_sem] theorem tsz_163 : tsz Try.prog 163 = .some 1 := by kernel_rfl
@[go_sem] theorem tby_163 : tby Try.prog 163 = .some 8 := by kernel_rfl
@[go_sem] theorem tz_163 : tz Try.prog 163 = .some [(.v .nilFunc)] := by kernel_rfl
@[go_sem] theorem tagg_163 : tagg Try.prog 163 = .some false := by kernel_rfl
@[go_sem] theorem tk_164 : tk Try.prog 164 = .other := by kernel_rfl
@[go_sem] theorem tsz_164 : tsz Try.prog 164 = .some 1 := by kernel_rfl
@[go_sem] theorem tby_164 : tby Try.prog 164 = .some 8 := by kernel_rfl
@[go_sem] theorem tz_164 : tz Try.prog 164 = .some [(.v .nilFunc)] := by kernel_rfl
@[go_sem] theorem tagg_164 : tagg Try.prog 164 = .some false := by kernel_rfl
@[go_sem] theorem tk_165 : tk Try.prog 165 = .str := by kernel_rfl
@[go_sem] theorem tsz_165 : tsz Try.prog 165 = .some 4 := by kernel_rfl
@[go_sem] theorem tby_165 : tby Try.prog 165 = .some 40 := by kernel_rfl
@[go_sem] theorem tz_165 : tz Try.prog 165 = .some [(.v (.pointer .none)), (.v (.pointer .none)), (.v (.pointer .none)), (.v (.string ⟨⟨[]⟩⟩))] := by kernel_rfl
@[go_sem] theorem tagg_165 : tagg Try.prog 165 = .some true := by kernel_rfl
@[go_sem] theorem tfi_165 : tfi Try.prog 165 = true := by kernel_rfl
@[go_sem] theorem ftyp_165_0 : ftyp Try.prog 165 0 = .some 17 := by kernel_rfl
@[go_sem] theorem foff_165_0 : foff Try.prog 165 0 = .some 0 := by kernel_rfl
@[go_sem] theorem ftyp_165_1 : ftyp Try.prog 165 1 = .some 17 := by kernel_rfl
@[go_sem] theorem foff_165_1 : foff Try.prog 165 1 = .some 1 := by kernel_rfl
@[go_sem] theorem ftyp_165_2 : ftyp Try.prog 165 2 = .some 17 := by kernel_rfl
@[go_sem] theorem foff_165_2 : foff Try.prog 165 2 = .some 2 := by kernel_rfl
@[go_sem] theorem ftyp_165_3 : ftyp Try.prog 165 3 = .some 9 := by kernel_rfl
@[go_sem] theorem foff_165_3 : foff Try.prog 165 3 = .some 3 := by kernel_rfl
@[go_sem] theorem tk_166 : tk Try.prog 166 = .str := by kernel_rfl
@[go_sem] theorem tsz_166 : tsz Try.prog 166 = .some 4 := by kernel_rfl
@[go_sem] theorem tby_166 : tby Try.prog 166 = .some 40 := by kernel_rfl
@[go_sem] theorem tz_166 : tz Try.prog 166 = .some [(.v (.pointer .none)), (.v (.pointer .none)), (.v (.pointer .none)), (.v (.string ⟨⟨[]⟩⟩))] := by kernel_rfl
@[go_sem] theorem tagg_166 : tagg Try.prog 166 = .some true := by kernel_rfl
@[go_sem] theorem tfi_166 : tfi Try.prog 166 = true := by kernel_rfl
@[go_sem] theorem ftyp_166_0 : ftyp Try.prog 166 0 = .some 17 := by kernel_rfl
@[go_sem] theorem foff_166_0 : foff Try.prog 166 0 = .some 0 := by kernel_rfl
@[go_sem] theorem ftyp_166_1 : ftyp Try.prog 166 1 = .some 17 := by kernel_rfl
@[go_sem] theorem foff_166_1 : foff Try.prog 166 1 = .some 1 := by kernel_rfl
@[go_sem] theorem ftyp_166_2 : ftyp Try.prog 166 2 = .some 17 := by kernel_rfl
@[go_sem] theorem foff_166_2 : foff Try.prog 166 2 = .some 2 := by kernel_rfl
@[go_sem] theorem ftyp_166_3 : ftyp Try.prog 166 3 = .some 9 := by kernel_rfl
@[go_sem] theorem foff_166_3 : foff Try.prog 166 3 = .some 3 := by kernel_rfl
@[go_sem] theorem tk_167 : tk Try.prog 167 = .arr 0 16 := by kernel_rfl
@[go_sem] theorem tsz_167 : tsz Try.prog 167 = .some 0 := by kernel_rfl
@[go_sem] theorem tby_167 : tby Try.prog 167 = .some 0 := by kernel_rfl
@[go_sem] theorem tz_167 : tz Try.prog 167 = .some [] := by kernel_rfl
@[go_sem] theorem tagg_167 : tagg Try.prog 167 = .some true := by kernel_rfl
@[go_sem] theorem tk_168 : tk Try.prog 168 = .str := by kernel_rfl
@[go_sem] theorem tsz_168 : tsz Try.prog 168 = .some 0 := by kernel_rfl
@[go_sem] theorem tby_168 : tby Try.prog 168 = .some 0 := by kernel_rfl
@[go_sem] theorem tz_168 : tz Try.prog 168 = .some [] := by kernel_rfl
@[go_sem] theorem tagg_168 : tagg Try.prog 168 = .some true := by kernel_rfl
@[go_sem] theorem tfi_168 : tfi Try.prog 168 = true := by kernel_rfl
@[go_sem] theorem ftyp_168_0 : ftyp Try.prog 168 0 = .some 167 := by kernel_rfl
@[go_sem] theorem foff_168_0 : foff Try.prog 168 0 = .none := by kernel_rfl
@[go_sem] theorem tk_169 : tk Try.prog 169 = .str := by kernel_rfl
@[go_sem] theorem tsz_169 : tsz Try.prog 169 = .some 0 := by kernel_rfl
@[go_sem] theorem tby_169 : tby Try.prog 169 = .some 0 := by kernel_rfl
@[go_sem] theorem tz_169 : tz Try.prog 169 = .some [] := by kernel_rfl
@[go_sem] theorem tagg_169 : tagg Try.prog 169 = .some true := by kernel_rfl
@[go_sem] theorem tfi_169 : tfi Try.prog 169 = true := by kernel_rfl
@[go_sem] theorem ftyp_169_0 : ftyp Try.prog 169 0 = .some 167 := by kernel_rfl
@[go_sem] theorem foff_169_0 : foff Try.prog 169 0 = .none := by kernel_rfl
@[go_sem] theorem tk_170 : tk Try.prog 170 = .other := by kernel_rfl
@[go_sem] theorem tsz_170 : tsz Try.prog 170 = .some 1 := by kernel_rfl
@[go_sem] theorem tby_170 : tby Try.prog 170 = .some 8 := by kernel_rfl
@[go_sem] theorem tz_170 : tz Try.prog 170 = .some [(.v .nilFunc)] := by kernel_rfl
@[go_sem] theorem tagg_170 : tagg Try.prog 170 = .some false := by kernel_rfl
@[go_sem] theorem tk_171 : tk Try.prog 171 = .int .u32 := by kernel_rfl
@[go_sem] theorem tsz_171 : tsz Try.prog 171 = .some 1 := by kernel_rfl
@[go_sem] theorem tby_171 : tby Try.prog 171 = .some 4 := by kernel_rfl
@[go_sem] theorem tz_171 : tz Try.prog 171 = .some [(.v (.int .u32 0))] := by kernel_rfl
@[go_sem] theorem tagg_171 : tagg Try.prog 171 = .some false := by kernel_rfl
@[go_sem] theorem tk_172 : tk Try.prog 172 = .int .u8 := by kernel_rfl
@[go_sem] theorem tsz_172 : tsz Try.prog 172 = .some 1 := by kernel_rfl
@[go_sem] theorem tby_172 : tby Try.prog 172 = .some 1 := by kernel_rfl
@[go_sem] theorem tz_172 : tz Try.prog 172 = .some [(.v (.int .u8 0))] := by kernel_rfl
@[go_sem] theorem tagg_172 : tagg Try.prog 172 = .some false := by kernel_rfl
@[go_sem] theorem tk_173 : tk Try.prog 173 = .int .u8 := by kernel_rfl
@[go_sem] theorem tsz_173 : tsz Try.prog 173 = .some 1 := by kernel_rfl
@[go_sem] theorem tby_173 : tby Try.prog 173 = .some 1 := by kernel_rfl
@[go_sem] theorem tz_173 : tz Try.prog 173 = .some [(.v (.int .u8 0))] := by kernel_rfl
@[go_sem] theorem tagg_173 : tagg Try.prog 173 = .some false := by kernel_rfl
@[go_sem] theorem tk_174 : tk Try.prog 174 = .other := by kernel_rfl
@[go_sem] theorem tsz_174 : tsz Try.prog 174 = .some 1 := by kernel_rfl
@[go_sem] theorem tby_174 : tby Try.prog 174 = .some 8 := by kernel_rfl
@[go_sem] theorem tz_174 : tz Try.prog 174 = .some [(.v .nilFunc)] := by kernel_rfl
@[go_sem] theorem tagg_174 : tagg Try.prog 174 = .some false := by kernel_rfl
@[go_sem] theorem tk_175 : tk Try.prog 175 = .ptr 5 := by kernel_rfl
@[go_sem] theorem tsz_175 : tsz Try.prog 175 = .some 1 := by kernel_rfl
@[go_sem] theorem tby_175 : tby Try.prog 175 = .some 8 := by kernel_rfl
@[go_sem] theorem tz_175 : tz Try.prog 175 = .some [(.v (.pointer .none))] := by kernel_rfl
@[go_sem] theorem tagg_175 : tagg Try.prog 175 = .some false := by kernel_rfl
@[go_sem] theorem tk_176 : tk Try.prog 176 = .int .i32 := by kernel_rfl
@[go_sem] theorem tsz_176 : tsz Try.prog 176 = .some 1 := by kernel_rfl
@[go_sem] theorem tby_176 : tby Try.prog 176 = .some 4 := by kernel_rfl
@[go_sem] theorem tz_176 : tz Try.prog 176 = .some [(.v (.int .i32 0))] := by kernel_rfl
@[go_sem] theorem tagg_176 : tagg Try.prog 176 = .some false := by kernel_rfl
@[go_sem] theorem tk_177 : tk Try.prog 177 = .int .i32 := by kernel_rfl
@[go_sem] theorem tsz_177 : tsz Try.prog 177 = .some 1 := by kernel_rfl
@[go_sem] theorem tby_177 : tby Try.prog 177 = .some 4 := by kernel_rfl
@[go_sem] theorem tz_177 : tz Try.prog 177 = .some [(.v (.int .i32 0))] := by kernel_rfl
@[go_sem] theorem tagg_177 : tagg Try.prog 177 = .some false := by kernel_rfl
@[go_sem] theorem tk_178 : tk Try.prog 178 = .str := by kernel_rfl
@[go_sem] theorem tsz_178 : tsz Try.prog 178 = .some 11 := by kernel_rfl
@[go_sem] theorem tby_178 : tby Try.prog 178 = .some 48 := by kernel_rfl
@[go_sem] theorem tz_178 : tz Try.prog 178 = .some [(.v (.int .u64 0)), (.v (.int .u64 0)), (.v (.int .u32 0)), (.v (.int .u8 0)), (.v (.int .u8 0)), (.v (.int .u8 0)), (.v (.int .u8 0)), (.v .nilFunc), (.v (.pointer .none)), (.v (.int .i32 0)), (.v (.int .i32 0))] := by kernel_rfl
@[go_sem] theorem tagg_178 : tagg Try.prog 178 = .some true := by kernel_rfl
@[go_sem] theorem tfi_178 : tfi Try.prog 178 = true := by kernel_rfl
@[go_sem] theorem ftyp_178_0 : ftyp Try.prog 178 0 = .some 12 := by kernel_rfl
@[go_sem] theorem foff_178_0 : foff Try.prog 178 0 = .some 0 := by kernel_rfl
@[go_sem] theorem ftyp_178_1 : ftyp Try.prog 178 1 = .some 12 := by kernel_rfl
@[go_sem] theorem foff_178_1 : foff Try.prog 178 1 = .some 1 := by kernel_rfl
@[go_sem] theorem ftyp_178_2 : ftyp Try.prog 178 2 = .some 171 := by kernel_rfl
@[go_sem] theorem foff_178_2 : foff Try.prog 178 2 = .some 2 := by kernel_rfl
@[go_sem] theorem ftyp_178_3 : ftyp Try.prog 178 3 = .some 172 := by kernel_rfl
@[go_sem] theorem foff_178_3 : foff Try.prog 178 3 = .some 3 := by kernel_rfl
@[go_sem] theorem ftyp_178_4 : ftyp Try.prog 178 4 = .some 5 := by kernel_rfl
@[go_sem] theorem foff_178_4 : foff Try.prog 178 4 = .some 4 := by kernel_rfl
@[go_sem] theorem ftyp_178_5 : ftyp Try.prog 178 5 = .some 5 := by kernel_rfl
@[go_sem] theorem foff_178_5 : foff Try.prog 178 5 = .some 5 := by kernel_rfl
@[go_sem] theorem ftyp_178_6 : ftyp Try.prog 178 6 = .some 173 := by kernel_rfl
@[go_sem] theorem foff_178_6 : foff Try.prog 178 6 = .some 6 := by kernel_rfl
@[go_sem] theorem ftyp_178_7 : ftyp Try.prog 178 7 = .some 174 := by kernel_rfl
@[go_sem] theorem foff_178_7 : foff Try.prog 178 7 = .some 7 := by kernel_rfl
@[go_sem] theorem ftyp_178_8 : ftyp Try.prog 178 8 = .some 175 := by kernel_rfl
@[go_sem] theorem foff_178_8 : foff Try.prog 178 8 = .some 8 := by kernel_rfl
@[go_sem] theorem ftyp_178_9 : ftyp Try.prog 178 9 = .some 176 := by kernel_rfl
@[go_sem] theorem foff_178_9 : foff Try.prog 178 9 = .some 9 := by kernel_rfl
@[go_sem] theorem ftyp_178_10 : ftyp Try.prog 178 10 = .some 177 := by kernel_rfl
@[go_sem] theorem foff_178_10 : foff Try.prog 178 10 = .some 10 := by kernel_rfl
@[go_sem] theorem tk_179 : tk Try.prog 179 = .str := by kernel_rfl
@[go_sem] theorem tsz_179 : tsz Try.prog 179 = .some 11 := by kernel_rfl
@[go_sem] theorem tby_179 : tby Try.prog 179 = .some 48 := by kernel_rfl
@[go_sem] theorem tz_179 : tz Try.prog 179 = .some [(.v (.int .u64 0)), (.v (.int .u64 0)), (.v (.int .u32 0)), (.v (.int .u8 0)), (.v (.int .u8 0)), (.v (.int .u8 0)), (.v (.int .u8 0)), (.v .nilFunc), (.v (.pointer .none)), (.v (.int .i32 0)), (.v (.int .i32 0))] := by kernel_rfl
@[go_sem] theorem tagg_179 : tagg Try.prog 179 = .some true := by kernel_rfl
@[go_sem] theorem tfi_179 : tfi Try.prog 179 = true := by kernel_rfl
@[go_sem] theorem ftyp_179_0 : ftyp Try.prog 179 0 = .some 12 := by kernel_rfl
@[go_sem] theorem foff_179_0 : foff Try.prog 179 0 = .some 0 := by kernel_rfl
@[go_sem] theorem ftyp_179_1 : ftyp Try.prog 179 1 = .some 12 := by kernel_rfl
@[go_sem] theorem foff_179_1 : foff Try.prog 179 1 = .some 1 := by kernel_rfl
@[go_sem] theorem ftyp_179_2 : ftyp Try.prog 179 2 = .some 171 := by kernel_rfl
@[go_sem] theorem foff_179_2 : foff Try.prog 179 2 = .some 2 := by kernel_rfl
@[go_sem] theorem ftyp_179_3 : ftyp Try.prog 179 3 = .some 172 := by kernel_rfl
@[go_sem] theorem foff_179_3 : foff Try.prog 179 3 = .some 3 := by kernel_rfl
@[go_sem] theorem ftyp_179_4 : ftyp Try.prog 179 4 = .some 5 := by kernel_rfl
@[go_sem] theorem foff_179_4 : foff Try.prog 179 4 = .some 4 := by kernel_rfl
@[go_sem] theorem ftyp_179_5 : ftyp Try.prog 179 5 = .some 5 := by kernel_rfl
@[go_sem] theorem foff_179_5 : foff Try.prog 179 5 = .some 5 := by kernel_rfl
@[go_sem] theorem ftyp_179_6 : ftyp Try.prog 179 6 = .some 173 := by kernel_rfl
@[go_sem] theorem foff_179_6 : foff Try.prog 179 6 = .some 6 := by kernel_rfl
@[go_sem] theorem ftyp_179_7 : ftyp Try.prog 179 7 = .some 174 := by kernel_rfl
@[go_sem] theorem foff_179_7 : foff Try.prog 179 7 = .some 7 := by kernel_rfl
@[go_sem] theorem ftyp_179_8 : ftyp Try.prog 179 8 = .some 175 := by kernel_rfl
@[go_sem] theorem foff_179_8 : foff Try.prog 179 8 = .some 8 := by kernel_rfl
@[go_sem] theorem ftyp_179_9 : ftyp Try.prog 179 9 = .some 176 := by kernel_rfl
@[go_sem] theorem foff_179_9 : foff Try.prog 179 9 = .some 9 := by kernel_rfl
@[go_sem] theorem ftyp_179_10 : ftyp Try.prog 179 10 = .some 177 := by kernel_rfl
@[go_sem] theorem foff_179_10 : foff Try.prog 179 10 = .some 10 := by kernel_rfl
@[go_sem] theorem tk_180 : tk Try.prog 180 = .other := by kernel_rfl
@[go_sem] theorem tsz_180 : tsz Try.prog 180 = .some 1 := by kernel_rfl
@[go_sem] theorem tby_180 : tby Try.prog 180 = .some 8 := by kernel_rfl
@[go_sem] theorem tz_180 : tz Try.prog 180 = .some [(.v (.pointer .none))] := by kernel_rfl
@[go_sem] theorem tagg_180 : tagg Try.prog 180 = .some false := by kernel_rfl
@[go_sem] theorem tk_181 : tk Try.prog 181 = .other := by kernel_rfl
@[go_sem] theorem tk_182 : tk Try.prog 182 = .other := by kernel_rfl
@[go_sem] theorem tk_183 : tk Try.prog 183 = .other := by kernel_rfl
@[go_sem] theorem tk_184 : tk Try.prog 184 = .other := by kernel_rfl
@[go_sem] theorem tk_185 : tk Try.prog 185 = .other := by kernel_rfl
@[go_sem] theorem tk_186 : tk Try.prog 186 = .other := by kernel_rfl
@[go_sem] theorem tk_187 : tk Try.prog 187 = .other := by kernel_rfl
@[go_sem] theorem tk_188 : tk Try.prog 188 = .other := by kernel_rfl
@[go_sem] theorem tk_189 : tk Try.prog 189 = .other := by kernel_rfl
@[go_sem] theorem tk_190 : tk Try.prog 190 = .other := by kernel_rfl
@[go_sem] theorem tk_191 : tk Try.prog 191 = .other := by kernel_rfl
@[go_sem] theorem tk_192 : tk Try.prog 192 = .other := by kernel_rfl
@[go_sem] theorem tk_193 : tk Try.prog 193 = .other := by kernel_rfl
@[go_sem] theorem tk_198 : tk Try.prog 198 = .other := by kernel_rfl
@[go_sem] theorem tk_200 : tk Try.prog 200 = .other := by kernel_rfl
@[go_sem] theorem tk_203 : tk Try.prog 203 = .other := by kernel_rfl
@[go_sem] theorem tk_216 : tk Try.prog 216 = .other := by kernel_rfl
@[go_sem] theorem tk_220 : tk Try.prog 220 = .other := by kernel_rfl
end Go.Av
end
