import Derived.Test.YtmkbjcjlnidjiaaCaHs
/- The code of further functions of device and cache, and of the library, made ready for the abstract machine (printed by pp2.lean and named.py). -/
namespace Go.Proofs.Ytmkbjcjlnidjiaa
open Go Go.Am

abbrev fn_l8_CacheReads : FuncId := 5
abbrev fn_Ca_Out : FuncId := 12
abbrev fn_Ca_Dirty : FuncId := 15
abbrev fn_Ca_All : FuncId := 23
abbrev fn_Dev_Flush : FuncId := 24
abbrev fn_Dev_Crash : FuncId := 25
abbrev fn_Values : FuncId := 32
abbrev fn_Ca_Dirty_1 : FuncId := 37
abbrev fn_Dev_burn : FuncId := 40
abbrev fn_Cell_settle : FuncId := 41
abbrev fn_Collect : FuncId := 46
abbrev fn_Sort : FuncId := 47
abbrev fn_Values_1 : FuncId := 48
abbrev fn_AppSeq : FuncId := 54
abbrev fn_Dev_fits : FuncId := 57
abbrev fn_Delete : FuncId := 58
abbrev ty_8_uint8 : TypeId := 49
/-! 12:   skerry/cache.Cache .Out -/
noncomputable def r_Ca_Out_0 : List CO := [
  .op (some (pth 4)) none (.mv (.cst (iv 0)))]
noncomputable def r_Ca_Out_1 : List CO := [
  .op (some (pth 11)) none (.mv (tm 0)),
  .op (some (pth 12)) none (.eqp false (binS Try.prog .eql ty_pcache_Cache) (tm 11) (.cst nilp))]
noncomputable def r_Ca_Out_2 : List CO := [
  .op (some (pth 4)) none (.mv (.cst (iv 1)))]
noncomputable def r_Ca_Out_3 : List CO := [
  .op (some (pth 13)) none (.mv (tm 1)),
  .call (some (pth 14)) none (.cst (.func fn_Values [])) [(tm 13)],
  .call (some (pth 15)) none (.cst (.func fn_Sorted [])) [(tm 14)],
  .op (some (pth 1)) none (.mv (tm 15))]
noncomputable def r_Ca_Out_4 : List CO := [
  .op (some (pth 16)) none (.mv (tm 1)),
  .op (some (pth 17)) none (.len false (tm 16)),
  .op (some (pth 18)) none (.mv (.cst (iv 0)))]
noncomputable def r_Ca_Out_5 : List CO := [
  .op (some (pth 19)) none (.lt (binS Try.prog .lss ty_int) (tm 18) (tm 17))]
noncomputable def r_Ca_Out_6 : List CO := [
  .op (some (pth 20)) none (.iaS 1 (tm 16) (tm 18)),
  .op (some (pth 21)) none (.load (tm 20)),
  .op (some (pth 6)) none (.mv (tm 21))]
noncomputable def r_Ca_Out_7 : List CO := [
  .op (some (pth 22)) none (.mv (tm 0)),
  .op (some (pth 23)) none (.mv (tm 6)),
  .call (some (pth 24)) none (.cst (.func fn_Ca_known [])) [(tm 22), (tm 23)],
  .op (some (pth 7)) none (.mv (tm 24))]
noncomputable def r_Ca_Out_8 : List CO := [
  .op (some (pth 25)) none (.mv (tm 7)),
  .op (some (pth 26)) none (.ne (binS Try.prog .neq ty_api_Errno) (tm 25) (.cst (iv 0)))]
noncomputable def r_Ca_Out_9 : List CO := [
  .op (some (pth 27)) none (.mv (tm 7)),
  .op (some (pth 4)) none (.mv (tm 27))]
noncomputable def r_Ca_Out_10 : List CO := [
  .op (some (pth 28)) none (.add (binS Try.prog .add ty_int) (tm 18) (.cst (iv 1))),
  .op (some (pth 18)) none (.mv (tm 28))]
noncomputable def r_Ca_Out_11 : List CO := [
  .op (some (pth 29)) none (.mv (tm 1)),
  .op (some (pth 30)) none (.len false (tm 29)),
  .op (some (pth 31)) none (.mv (.cst (iv 0)))]
noncomputable def r_Ca_Out_12 : List CO := [
  .op (some (pth 32)) none (.lt (binS Try.prog .lss ty_int) (tm 31) (tm 30))]
noncomputable def r_Ca_Out_13 : List CO := [
  .op (some (pth 33)) none (.iaS 1 (tm 29) (tm 31)),
  .op (some (pth 34)) none (.load (tm 33)),
  .op (some (pth 9)) none (.mv (tm 34))]
noncomputable def r_Ca_Out_14 : List CO := [
  .op (some (pth 35)) none (.mv (tm 0)),
  .op (some (pth 36)) none (.mv (tm 9)),
  .call (some (pth 37)) none (.cst (.func fn_Ca_write [])) [(tm 35), (tm 36)],
  .op (some (pth 10)) none (.mv (tm 37))]
noncomputable def r_Ca_Out_15 : List CO := [
  .op (some (pth 38)) none (.mv (tm 10)),
  .op (some (pth 39)) none (.ne (binS Try.prog .neq ty_api_Errno) (tm 38) (.cst (iv 0)))]
noncomputable def r_Ca_Out_16 : List CO := [
  .op (some (pth 40)) none (.mv (tm 10)),
  .op (some (pth 4)) none (.mv (tm 40))]
noncomputable def r_Ca_Out_17 : List CO := [
  .op (some (pth 41)) none (.add (binS Try.prog .add ty_int) (tm 31) (.cst (iv 1))),
  .op (some (pth 31)) none (.mv (tm 41))]
noncomputable def r_Ca_Out_18 : List CO := [
  .op (some (pth 4)) none (.mv (.cst (iv 0)))]
noncomputable def c_Ca_Out : CC := (.seq (.reg r_Ca_Out_0) (.seq (.seq (.reg r_Ca_Out_1) (.cond (tm 12) (.seq (.reg r_Ca_Out_2) .ret) .skip)) (.seq (.reg r_Ca_Out_3) (.seq (.seq (.reg r_Ca_Out_4) (.block 0 (.loop (.seq (.reg r_Ca_Out_5) (.seq (.cond (tm 19) .skip (.exit 0)) (.seq (.block 1 (.seq (.reg r_Ca_Out_6) (.seq (.reg r_Ca_Out_7) (.seq (.reg r_Ca_Out_8) (.cond (tm 26) (.seq (.reg r_Ca_Out_9) .ret) .skip))))) (.reg r_Ca_Out_10))))))) (.seq (.seq (.reg r_Ca_Out_11) (.block 2 (.loop (.seq (.reg r_Ca_Out_12) (.seq (.cond (tm 32) .skip (.exit 2)) (.seq (.block 3 (.seq (.reg r_Ca_Out_13) (.seq (.reg r_Ca_Out_14) (.seq (.reg r_Ca_Out_15) (.cond (tm 39) (.seq (.reg r_Ca_Out_16) .ret) .skip))))) (.reg r_Ca_Out_17))))))) (.seq (.reg r_Ca_Out_18) .ret))))))
theorem at_Ca_Out : FnAt Try.prog tb fn_Ca_Out c_Ca_Out 42 [.tmp 4] := fnAt_of tb_fs Try.func12 rfl (by kernel_rfl) (by kernel_rfl) rfl rfl
/-! 15:   skerry/cache.Cache .Dirty -/
noncomputable def r_Ca_Dirty_0 : List CO := [
  .op (some (pth 1)) none (.box ty_pcache_Cache (tm 0)),
  .op (some (pth 2)) none (.mv (.cst nils))]
noncomputable def r_Ca_Dirty_1 : List CO := [
  .op (some (pth 3)) none (.load (tm 1)),
  .call (some (pth 4)) none (.cst (.func fn_Ca_Held [])) [(tm 3)],
  .op (some (pth 5)) none (.fn fn_Ca_Dirty_1 [(tm 1)]),
  .call (some (pth 6)) none (.cst (.func fn_DelFunc [])) [(tm 4), (tm 5)],
  .op (some (pth 2)) none (.mv (tm 6))]
noncomputable def c_Ca_Dirty : CC := (.seq (.reg r_Ca_Dirty_0) (.seq (.reg r_Ca_Dirty_1) .ret))
theorem at_Ca_Dirty : FnAt Try.prog tb fn_Ca_Dirty c_Ca_Dirty 7 [.tmp 2] := fnAt_of tb_fs Try.func15 rfl (by kernel_rfl) (by kernel_rfl) rfl rfl
/-! 37:   skerry/cache.Cache .Dirty 1 -/
noncomputable def r_Ca_Dirty_1_0 : List CO := [
  .op (some (pth 3)) none (.mv (.cst (.b false)))]
noncomputable def r_Ca_Dirty_1_1 : List CO := [
  .op (some (pth 4)) none (.load (tm 1)),
  .op (some (pth 5)) none (.nil (tm 4)),
  .op (some (pth 6)) none (.fa 3 (tm 5)),
  .op (some (pth 7)) none (.load (tm 6)),
  .op (some (pth 8)) none (.mv (tm 0)),
  .op (some (pth 9)) none (.look (some .i64) nilp false (tm 7) (tm 8)),
  .op (some (pth 10)) none (.nil (tm 9)),
  .op (some (pth 11)) none (.fa 1 (tm 10)),
  .op (some (pth 12)) none (.load (tm 11)),
  .op (some (pth 13)) none (.un .not (tm 12)),
  .op (some (pth 3)) none (.mv (tm 13))]
noncomputable def c_Ca_Dirty_1 : CC := (.seq (.reg r_Ca_Dirty_1_0) (.seq (.reg r_Ca_Dirty_1_1) .ret))
theorem at_Ca_Dirty_1 : FnAt Try.prog tb fn_Ca_Dirty_1 c_Ca_Dirty_1 14 [.tmp 3] := fnAt_of tb_fs Try.func37 rfl (by kernel_rfl) (by kernel_rfl) rfl rfl
/-! 23:   skerry/cache.Cache .All -/
noncomputable def r_Ca_All_0 : List CO := [
  .op (some (pth 2)) none (.mv (.cst (iv 0)))]
noncomputable def r_Ca_All_1 : List CO := [
  .op (some (pth 3)) none (.mv (tm 0)),
  .op (some (pth 4)) none (.mv (tm 0)),
  .call (some (pth 5)) none (.cst (.func fn_Ca_Dirty [])) [(tm 4)],
  .call (some (pth 6)) none (.cst (.func fn_Ca_Out [])) [(tm 3), (tm 5)],
  .op (some (pth 2)) none (.mv (tm 6))]
noncomputable def c_Ca_All : CC := (.seq (.reg r_Ca_All_0) (.seq (.reg r_Ca_All_1) .ret))
theorem at_Ca_All : FnAt Try.prog tb fn_Ca_All c_Ca_All 7 [.tmp 2] := fnAt_of tb_fs Try.func23 rfl (by kernel_rfl) (by kernel_rfl) rfl rfl
/-! 24:   skerry/device.Device .Flush -/
noncomputable def r_Dev_Flush_0 : List CO := [
  .op (some (pth 2)) none (.mv (.cst (iv 0)))]
noncomputable def r_Dev_Flush_1 : List CO := [
  .op (some (pth 5)) none (.mv (tm 0)),
  .op (some (pth 6)) none (.eqp false (binS Try.prog .eql ty_pdevice_Device) (tm 5) (.cst nilp))]
noncomputable def r_Dev_Flush_2 : List CO := [
  .op (some (pth 2)) none (.mv (.cst (iv 1)))]
noncomputable def r_Dev_Flush_3 : List CO := [
  .op (some (pth 7)) none (.mv (tm 0)),
  .call (some (pth 8)) none (.cst (.func fn_Dev_burn [])) [(tm 7)],
  .op (some (pth 3)) none (.mv (tm 8))]
noncomputable def r_Dev_Flush_4 : List CO := [
  .op (some (pth 9)) none (.mv (tm 3)),
  .op (some (pth 10)) none (.ne (binS Try.prog .neq ty_api_Errno) (tm 9) (.cst (iv 0)))]
noncomputable def r_Dev_Flush_5 : List CO := [
  .op (some (pth 11)) none (.mv (tm 3)),
  .op (some (pth 2)) none (.mv (tm 11))]
noncomputable def r_Dev_Flush_6 : List CO := [
  .op (some (pth 12)) none (.mv (tm 0)),
  .op (some (pth 13)) none (.nil (tm 12)),
  .op (some (pth 14)) none (.fa 1 (tm 13)),
  .op (some (pth 15)) none (.load (tm 14)),
  .op (some (pth 16)) none (.len false (tm 15)),
  .op (some (pth 17)) none (.mv (.cst (iv 0)))]
noncomputable def r_Dev_Flush_7 : List CO := [
  .op (some (pth 18)) none (.lt (binS Try.prog .lss ty_int) (tm 17) (tm 16))]
noncomputable def r_Dev_Flush_8 : List CO := [
  .op (some (pth 19)) none (.mv (tm 17)),
  .op (some (pth 4)) none (.mv (tm 19))]
noncomputable def r_Dev_Flush_9 : List CO := [
  .op (some (pth 20)) none (.mv (tm 0)),
  .op (some (pth 21)) none (.nil (tm 20)),
  .op (some (pth 22)) none (.fa 1 (tm 21)),
  .op (some (pth 23)) none (.load (tm 22)),
  .op (some (pth 24)) none (.mv (tm 4)),
  .op (some (pth 25)) none (.iaS 2 (tm 23) (tm 24)),
  .op (some (pth 26)) none (.mv (tm 0)),
  .op (some (pth 27)) none (.nil (tm 26)),
  .op (some (pth 28)) none (.fa 1 (tm 27)),
  .op (some (pth 29)) none (.load (tm 28)),
  .op (some (pth 30)) none (.mv (tm 4)),
  .op (some (pth 31)) none (.iaS 2 (tm 29) (tm 30)),
  .op (some (pth 32)) none (.fa 1 (tm 31)),
  .op (some (pth 33)) none (.load (tm 32)),
  .op (some (pth 34)) none (.len false (tm 33)),
  .call (some (pth 35)) none (.cst (.func fn_Cell_settle [])) [(tm 25), (tm 34)]]
noncomputable def r_Dev_Flush_10 : List CO := [
  .op (some (pth 36)) none (.add (binS Try.prog .add ty_int) (tm 17) (.cst (iv 1))),
  .op (some (pth 17)) none (.mv (tm 36))]
noncomputable def r_Dev_Flush_11 : List CO := [
  .op (some (pth 2)) none (.mv (.cst (iv 0)))]
noncomputable def c_Dev_Flush : CC := (.seq (.reg r_Dev_Flush_0) (.seq (.seq (.reg r_Dev_Flush_1) (.cond (tm 6) (.seq (.reg r_Dev_Flush_2) .ret) .skip)) (.seq (.seq (.reg r_Dev_Flush_3) (.seq (.reg r_Dev_Flush_4) (.cond (tm 10) (.seq (.reg r_Dev_Flush_5) .ret) .skip))) (.seq (.seq (.reg r_Dev_Flush_6) (.block 0 (.loop (.seq (.reg r_Dev_Flush_7) (.seq (.cond (tm 18) .skip (.exit 0)) (.seq (.block 1 (.seq (.reg r_Dev_Flush_8) (.drawn r_Dev_Flush_9 [(3, 0), (9, 0), (13, 0)]))) (.reg r_Dev_Flush_10))))))) (.seq (.reg r_Dev_Flush_11) .ret)))))
theorem at_Dev_Flush : FnAt Try.prog tb fn_Dev_Flush c_Dev_Flush 37 [.tmp 2] := fnAt_of tb_fs Try.func24 rfl (by kernel_rfl) (by kernel_rfl) rfl rfl
/-! 25:   skerry/device.Device .Crash -/
noncomputable def r_Dev_Crash_0 : List CO := [
  .op (some (pth 4)) none (.mv (.cst (iv 0)))]
noncomputable def r_Dev_Crash_1 : List CO := [
  .op (some (pth 8)) none (.mv (tm 0)),
  .op (some (pth 9)) none (.eqp false (binS Try.prog .eql ty_pdevice_Device) (tm 8) (.cst nilp))]
noncomputable def r_Dev_Crash_2 : List CO := [
  .op (some (pth 4)) none (.mv (.cst (iv 1)))]
noncomputable def r_Dev_Crash_3 : List CO := [
  .op (some (pth 10)) none (.mv (tm 0)),
  .op (some (pth 11)) none (.nil (tm 10)),
  .op (some (pth 12)) none (.fa 1 (tm 11)),
  .op (some (pth 13)) none (.load (tm 12)),
  .op (some (pth 14)) none (.len false (tm 13)),
  .op (some (pth 15)) none (.mv (.cst (iv 0)))]
noncomputable def r_Dev_Crash_4 : List CO := [
  .op (some (pth 16)) none (.lt (binS Try.prog .lss ty_int) (tm 15) (tm 14))]
noncomputable def r_Dev_Crash_5 : List CO := [
  .op (some (pth 17)) none (.mv (tm 15)),
  .op (some (pth 5)) none (.mv (tm 17))]
noncomputable def r_Dev_Crash_6 : List CO := [
  .op (some (pth 18)) none (.mv (tm 0)),
  .op (some (pth 19)) none (.nil (tm 18)),
  .op (some (pth 20)) none (.fa 1 (tm 19)),
  .op (some (pth 21)) none (.load (tm 20)),
  .op (some (pth 22)) none (.mv (tm 5)),
  .op (some (pth 23)) none (.iaS 2 (tm 21) (tm 22)),
  .op (some (pth 6)) none (.mv (tm 23))]
noncomputable def r_Dev_Crash_7 : List CO := [
  .op (some (pth 24)) none (.mv (tm 6)),
  .op (some (pth 25)) none (.nil (tm 24)),
  .op (some (pth 26)) none (.fa 1 (tm 25)),
  .op (some (pth 27)) none (.load (tm 26)),
  .op (some (pth 28)) none (.len false (tm 27)),
  .op (some (pth 29)) none (.eq (binS Try.prog .eql ty_int) (tm 28) (.cst (iv 0)))]
noncomputable def r_Dev_Crash_8 : List CO := [
  .op (some (pth 7)) none (.mv (.cst (iv 0)))]
noncomputable def r_Dev_Crash_9 : List CO := [
  .op (some (pth 30)) none (.mv (tm 1)),
  .op (some (pth 31)) none (.len false (tm 30)),
  .op (some (pth 32)) none (.gt (binS Try.prog .gtr ty_int) (tm 31) (.cst (iv 0)))]
noncomputable def r_Dev_Crash_10 : List CO := [
  .op (some (pth 33)) none (.mv (tm 1)),
  .op (some (pth 34)) none (.iaS 1 (tm 33) (.cst (iv 0))),
  .op (some (pth 35)) none (.load (tm 34)),
  .op (some (pth 36)) none (.mv (tm 6)),
  .op (some (pth 37)) none (.nil (tm 36)),
  .op (some (pth 38)) none (.fa 1 (tm 37)),
  .op (some (pth 39)) none (.load (tm 38)),
  .op (some (pth 40)) none (.len false (tm 39)),
  .op (some (pth 41)) none (.min (tm 35) (tm 40)),
  .op (some (pth 42)) none (.max (.cst (iv 0)) (tm 41)),
  .op (some (pth 7)) none (.mv (tm 42))]
noncomputable def r_Dev_Crash_11 : List CO := [
  .op (some (pth 43)) none (.mv (tm 1)),
  .op (some (pth 44)) none (.sl 1 false (tm 43) (some (.cst (iv 1))) none none),
  .op (some (pth 1)) none (.mv (tm 44))]
noncomputable def r_Dev_Crash_12 : List CO := [
  .op (some (pth 45)) none (.mv (tm 6)),
  .op (some (pth 46)) none (.mv (tm 7)),
  .call (some (pth 47)) none (.cst (.func fn_Cell_settle [])) [(tm 45), (tm 46)]]
noncomputable def r_Dev_Crash_13 : List CO := [
  .op (some (pth 48)) none (.add (binS Try.prog .add ty_int) (tm 15) (.cst (iv 1))),
  .op (some (pth 15)) none (.mv (tm 48))]
noncomputable def r_Dev_Crash_14 : List CO := [
  .op (some (pth 49)) none (.mv (tm 0)),
  .op (some (pth 50)) none (.mv (tm 0)),
  .op (some (pth 51)) none (.nil (tm 49)),
  .op (some (pth 52)) none (.fa 4 (tm 51)),
  .op none none (.store 1 (tm 52) (.cst (.b false))),
  .op (some (pth 53)) none (.nil (tm 50)),
  .op (some (pth 54)) none (.fa 2 (tm 53)),
  .op none none (.store 1 (tm 54) (.cst (.b false)))]
noncomputable def r_Dev_Crash_15 : List CO := [
  .op (some (pth 4)) none (.mv (.cst (iv 0)))]
noncomputable def c_Dev_Crash : CC := (.seq (.reg r_Dev_Crash_0) (.seq (.seq (.reg r_Dev_Crash_1) (.cond (tm 9) (.seq (.reg r_Dev_Crash_2) .ret) .skip)) (.seq (.seq (.reg r_Dev_Crash_3) (.block 0 (.loop (.seq (.reg r_Dev_Crash_4) (.seq (.cond (tm 16) .skip (.exit 0)) (.seq (.block 1 (.seq (.reg r_Dev_Crash_5) (.seq (.reg r_Dev_Crash_6) (.seq (.seq (.reg r_Dev_Crash_7) (.cond (tm 29) (.exit 1) .skip)) (.seq (.reg r_Dev_Crash_8) (.seq (.seq (.reg r_Dev_Crash_9) (.cond (tm 32) (.seq (.drawn r_Dev_Crash_10 [(2, 0), (6, 0)]) (.reg r_Dev_Crash_11)) .skip)) (.reg r_Dev_Crash_12))))))) (.reg r_Dev_Crash_13))))))) (.seq (.reg r_Dev_Crash_14) (.seq (.reg r_Dev_Crash_15) .ret)))))
theorem at_Dev_Crash : FnAt Try.prog tb fn_Dev_Crash c_Dev_Crash 55 [.tmp 4] := fnAt_of tb_fs Try.func25 rfl (by kernel_rfl) (by kernel_rfl) rfl rfl
/-! 31: slices.Sorted int  -/
noncomputable def r_Sorted_0 : List CO := [
  .op (some (pth 2)) none (.mv (.cst nils))]
noncomputable def r_Sorted_1 : List CO := [
  .op (some (pth 4)) none (.mv (tm 0)),
  .call (some (pth 5)) none (.cst (.func fn_Collect [])) [(tm 4)],
  .op (some (pth 3)) none (.mv (tm 5))]
noncomputable def r_Sorted_2 : List CO := [
  .op (some (pth 6)) none (.mv (tm 3)),
  .call (some (pth 7)) none (.cst (.func fn_Sort [])) [(tm 6)]]
noncomputable def r_Sorted_3 : List CO := [
  .op (some (pth 8)) none (.mv (tm 3)),
  .op (some (pth 2)) none (.mv (tm 8))]
noncomputable def c_Sorted : CC := (.seq (.reg r_Sorted_0) (.seq (.reg r_Sorted_1) (.seq (.reg r_Sorted_2) (.seq (.reg r_Sorted_3) .ret))))
theorem at_Sorted : FnAt Try.prog tb fn_Sorted c_Sorted 9 [.tmp 2] := fnAt_of tb_fs Try.func31 rfl (by kernel_rfl) (by kernel_rfl) rfl rfl
/-! 32: slices.Values   int int  -/
noncomputable def r_Values_0 : List CO := [
  .op (some (pth 1)) none (.box ty_sint (tm 0)),
  .op (some (pth 2)) none (.mv (.cst nilf))]
noncomputable def r_Values_1 : List CO := [
  .op (some (pth 3)) none (.fn fn_Values_1 [(tm 1)]),
  .op (some (pth 2)) none (.mv (tm 3))]
noncomputable def c_Values : CC := (.seq (.reg r_Values_0) (.seq (.reg r_Values_1) .ret))
theorem at_Values : FnAt Try.prog tb fn_Values c_Values 4 [.tmp 2] := fnAt_of tb_fs Try.func32 rfl (by kernel_rfl) (by kernel_rfl) rfl rfl
/-! 48: slices.Values   int int  1 -/
noncomputable def r_Values_1_0 : List CO := [
  .op (some (pth 5)) none (.load (tm 1)),
  .op (some (pth 6)) none (.len false (tm 5)),
  .op (some (pth 7)) none (.mv (.cst (iv 0)))]
noncomputable def r_Values_1_1 : List CO := [
  .op (some (pth 8)) none (.lt (binS Try.prog .lss ty_int) (tm 7) (tm 6))]
noncomputable def r_Values_1_2 : List CO := [
  .op (some (pth 9)) none (.iaS 1 (tm 5) (tm 7)),
  .op (some (pth 10)) none (.load (tm 9)),
  .op (some (pth 4)) none (.mv (tm 10))]
noncomputable def r_Values_1_3 : List CO := [
  .op (some (pth 11)) none (.mv (tm 0)),
  .op (some (pth 12)) none (.mv (tm 4)),
  .call (some (pth 13)) none (tm 11) [(tm 12)],
  .op (some (pth 14)) none (.un .not (tm 13))]
noncomputable def r_Values_1_4 : List CO := [
  .op (some (pth 15)) none (.add (binS Try.prog .add ty_int) (tm 7) (.cst (iv 1))),
  .op (some (pth 7)) none (.mv (tm 15))]
noncomputable def c_Values_1 : CC := (.seq (.reg r_Values_1_0) (.block 0 (.loop (.seq (.reg r_Values_1_1) (.seq (.cond (tm 8) .skip (.exit 0)) (.seq (.block 1 (.seq (.reg r_Values_1_2) (.seq (.reg r_Values_1_3) (.cond (tm 14) .ret .skip)))) (.reg r_Values_1_4)))))))
theorem at_Values_1 : FnAt Try.prog tb fn_Values_1 c_Values_1 16 [] := fnAt_of tb_fs Try.func48 rfl (by kernel_rfl) (by kernel_rfl) rfl rfl
/-! 46: slices.Collect int  -/
noncomputable def r_Collect_0 : List CO := [
  .op (some (pth 2)) none (.mv (.cst nils))]
noncomputable def r_Collect_1 : List CO := [
  .op (some (pth 3)) none (.mv (tm 0)),
  .call (some (pth 4)) none (.cst (.func fn_AppSeq [])) [(.cst nils), (tm 3)],
  .op (some (pth 2)) none (.mv (tm 4))]
noncomputable def c_Collect : CC := (.seq (.reg r_Collect_0) (.seq (.reg r_Collect_1) .ret))
theorem at_Collect : FnAt Try.prog tb fn_Collect c_Collect 5 [.tmp 2] := fnAt_of tb_fs Try.func46 rfl (by kernel_rfl) (by kernel_rfl) rfl rfl
/-! 54: slices.AppendSeq   int int  -/
noncomputable def r_AppSeq_0 : List CO := [
  .op (some (pth 2)) none (.box ty_sint (tm 0)),
  .op (some (pth 4)) none (.mv (.cst nils))]
noncomputable def r_AppSeq_1 : List CO := [
  .op (some (pth 6)) none (.mv (tm 1))]
noncomputable def r_AppSeq_2 : List CO := [
  .op (some (pth 5)) none (.mv (tm 7))]
noncomputable def r_AppSeq_3 : List CO := [
  .op (some (pth 8)) none (.load (tm 2)),
  .op (some (pth 9)) none (.mv (tm 5)),
  .op (some (pth 10)) none (.bslice ty_int 1 1 [(iv 0)] [(0, 1, (tm 9))]),
  .op (some (pth 11)) none (.app ty_int 1 8 [(iv 0)] (tm 8) (tm 10)),
  .op none none (.store 1 (tm 2) (tm 11))]
noncomputable def r_AppSeq_4 : List CO := [
  .op (some (pth 12)) none (.load (tm 2)),
  .op (some (pth 4)) none (.mv (tm 12))]
noncomputable def c_AppSeq : CC := (.seq (.reg r_AppSeq_0) (.seq (.seq (.reg r_AppSeq_1) (.block 0 .bad)) (.seq (.reg r_AppSeq_4) .ret)))
theorem at_AppSeq : FnAt Try.prog tb fn_AppSeq c_AppSeq 13 [.tmp 4] := fnAt_of tb_fs Try.func54 rfl (by kernel_rfl) (by kernel_rfl) rfl rfl
/-! 40:   skerry/device.Device .burn -/
noncomputable def r_Dev_burn_0 : List CO := [
  .op (some (pth 2)) none (.mv (.cst (iv 0)))]
noncomputable def r_Dev_burn_1 : List CO := [
  .op (some (pth 3)) none (.mv (tm 0)),
  .op (some (pth 4)) none (.mv (tm 0)),
  .op (some (pth 5)) none (.nil (tm 4)),
  .op (some (pth 6)) none (.fa 4 (tm 5)),
  .op (some (pth 7)) none (.load (tm 6)),
  .op (some (pth 8)) none (.mv (tm 7)),
  .op (some (pth 9)) (some (pth 8, false)) (.mv (tm 0)),
  .op (some (pth 10)) (some (pth 8, false)) (.nil (tm 9)),
  .op (some (pth 11)) (some (pth 8, false)) (.fa 2 (tm 10)),
  .op (some (pth 12)) (some (pth 8, false)) (.load (tm 11)),
  .op (some (pth 13)) (some (pth 8, false)) (.mv (tm 12)),
  .op (some (pth 14)) (some (pth 13, true)) (.mv (tm 0)),
  .op (some (pth 15)) (some (pth 13, true)) (.nil (tm 14)),
  .op (some (pth 16)) (some (pth 13, true)) (.fa 3 (tm 15)),
  .op (some (pth 17)) (some (pth 13, true)) (.load (tm 16)),
  .op (some (pth 18)) (some (pth 13, true)) (.eq (binS Try.prog .eql ty_int) (tm 17) (.cst (iv 0))),
  .op (some (pth 19)) (some (pth 8, false)) (.pick (tm 13) (tm 18) (.cst (.b false))),
  .op (some (pth 20)) none (.pick (tm 8) (.cst (.b true)) (tm 19)),
  .op (some (pth 21)) none (.nil (tm 3)),
  .op (some (pth 22)) none (.fa 4 (tm 21)),
  .op none none (.store 1 (tm 22) (tm 20))]
noncomputable def r_Dev_burn_2 : List CO := [
  .op (some (pth 23)) none (.mv (tm 0)),
  .op (some (pth 24)) none (.nil (tm 23)),
  .op (some (pth 25)) none (.fa 4 (tm 24)),
  .op (some (pth 26)) none (.load (tm 25))]
noncomputable def r_Dev_burn_3 : List CO := [
  .op (some (pth 2)) none (.mv (.cst (iv 7)))]
noncomputable def r_Dev_burn_4 : List CO := [
  .op (some (pth 27)) none (.mv (tm 0)),
  .op (some (pth 28)) none (.nil (tm 27)),
  .op (some (pth 29)) none (.fa 3 (tm 28)),
  .op (some (pth 30)) none (.load (tm 29)),
  .op (some (pth 31)) none (.sub (binS Try.prog .sub ty_int) (tm 30) (.cst (iv 1))),
  .op (some (pth 32)) none (.nil (tm 27)),
  .op (some (pth 33)) none (.fa 3 (tm 32)),
  .op none none (.store 1 (tm 33) (tm 31))]
noncomputable def r_Dev_burn_5 : List CO := [
  .op (some (pth 34)) none (.mv (tm 0)),
  .op (some (pth 35)) none (.nil (tm 34)),
  .op (some (pth 36)) none (.fa 5 (tm 35)),
  .op (some (pth 37)) none (.load (tm 36)),
  .op (some (pth 38)) none (.add (binS Try.prog .add ty_int) (tm 37) (.cst (iv 1))),
  .op (some (pth 39)) none (.nil (tm 34)),
  .op (some (pth 40)) none (.fa 5 (tm 39)),
  .op none none (.store 1 (tm 40) (tm 38))]
noncomputable def r_Dev_burn_6 : List CO := [
  .op (some (pth 2)) none (.mv (.cst (iv 0)))]
noncomputable def c_Dev_burn : CC := (.seq (.reg r_Dev_burn_0) (.seq (.reg r_Dev_burn_1) (.seq (.seq (.reg r_Dev_burn_2) (.cond (tm 26) (.seq (.reg r_Dev_burn_3) .ret) .skip)) (.seq (.reg r_Dev_burn_4) (.seq (.reg r_Dev_burn_5) (.seq (.reg r_Dev_burn_6) .ret))))))
theorem at_Dev_burn : FnAt Try.prog tb fn_Dev_burn c_Dev_burn 41 [.tmp 2] := fnAt_of tb_fs Try.func40 rfl (by kernel_rfl) (by kernel_rfl) rfl rfl
/-! 41:   skerry/device.cell .settle -/
noncomputable def r_Cell_settle_0 : List CO := [
  .op (some (pth 4)) none (.mv (tm 1)),
  .op (some (pth 5)) none (.gt (binS Try.prog .gtr ty_int) (tm 4) (.cst (iv 0)))]
noncomputable def r_Cell_settle_1 : List CO := [
  .op (some (pth 6)) none (.mv (tm 0)),
  .op (some (pth 7)) none (.mv (tm 0)),
  .op (some (pth 8)) none (.nil (tm 7)),
  .op (some (pth 9)) none (.fa 1 (tm 8)),
  .op (some (pth 10)) none (.load (tm 9)),
  .op (some (pth 11)) none (.mv (tm 1)),
  .op (some (pth 12)) none (.sub (binS Try.prog .sub ty_int) (tm 11) (.cst (iv 1))),
  .op (some (pth 13)) none (.iaS 1 (tm 10) (tm 12)),
  .op (some (pth 14)) none (.load (tm 13)),
  .op (some (pth 15)) none (.nil (tm 6)),
  .op (some (pth 16)) none (.fa 0 (tm 15)),
  .op none none (.store 1 (tm 16) (tm 14))]
noncomputable def r_Cell_settle_2 : List CO := [
  .op (some (pth 17)) none (.mv (tm 0)),
  .op (some (pth 18)) none (.nil (tm 17)),
  .op (some (pth 19)) none (.fa 1 (tm 18)),
  .op none none (.store 1 (tm 19) (.cst nils))]
noncomputable def c_Cell_settle : CC := (.seq (.seq (.reg r_Cell_settle_0) (.cond (tm 5) (.reg r_Cell_settle_1) .skip)) (.reg r_Cell_settle_2))
theorem at_Cell_settle : FnAt Try.prog tb fn_Cell_settle c_Cell_settle 20 [] := fnAt_of tb_fs Try.func41 rfl (by kernel_rfl) (by kernel_rfl) rfl rfl
/-! 50:   skerry/device.Device .Write -/
noncomputable def r_Dev_Write_0 : List CO := [
  .op (some (pth 6)) none (.mv (.cst (iv 0)))]
noncomputable def r_Dev_Write_1 : List CO := [
  .op (some (pth 10)) none (.mv (tm 0)),
  .op (some (pth 11)) none (.mv (tm 1)),
  .op (some (pth 12)) none (.mv (tm 2)),
  .call (some (pth 13)) none (.cst (.func fn_Dev_fits [])) [(tm 10), (tm 11), (tm 12)],
  .op (some (pth 7)) none (.mv (tm 13))]
noncomputable def r_Dev_Write_2 : List CO := [
  .op (some (pth 14)) none (.mv (tm 7)),
  .op (some (pth 15)) none (.ne (binS Try.prog .neq ty_api_Errno) (tm 14) (.cst (iv 0)))]
noncomputable def r_Dev_Write_3 : List CO := [
  .op (some (pth 16)) none (.mv (tm 7)),
  .op (some (pth 6)) none (.mv (tm 16))]
noncomputable def r_Dev_Write_4 : List CO := [
  .op (some (pth 17)) none (.mv (tm 0)),
  .call (some (pth 18)) none (.cst (.func fn_Dev_burn [])) [(tm 17)],
  .op (some (pth 8)) none (.mv (tm 18))]
noncomputable def r_Dev_Write_5 : List CO := [
  .op (some (pth 19)) none (.mv (tm 8)),
  .op (some (pth 20)) none (.ne (binS Try.prog .neq ty_api_Errno) (tm 19) (.cst (iv 0)))]
noncomputable def r_Dev_Write_6 : List CO := [
  .op (some (pth 21)) none (.mv (tm 8)),
  .op (some (pth 6)) none (.mv (tm 21))]
noncomputable def r_Dev_Write_7 : List CO := [
  .op (some (pth 22)) none (.mv (tm 0)),
  .op (some (pth 23)) none (.mv (tm 1)),
  .call (some (pth 24)) none (.cst (.func fn_Dev_at [])) [(tm 22), (tm 23)],
  .op (some (pth 9)) none (.mv (tm 24))]
noncomputable def r_Dev_Write_8 : List CO := [
  .op (some (pth 25)) none (.mv (tm 9)),
  .op (some (pth 26)) none (.nil (tm 25)),
  .op (some (pth 27)) none (.fa 1 (tm 26)),
  .op (some (pth 28)) none (.load (tm 27)),
  .op (some (pth 29)) none (.len false (tm 28)),
  .op (some (pth 30)) none (.eq (binS Try.prog .eql ty_int) (tm 29) (.cst (iv 400)))]
noncomputable def r_Dev_Write_9 : List CO := [
  .op (some (pth 31)) none (.mv (tm 9)),
  .op (some (pth 32)) none (.mv (tm 9)),
  .op (some (pth 33)) none (.nil (tm 32)),
  .op (some (pth 34)) none (.fa 1 (tm 33)),
  .op (some (pth 35)) none (.load (tm 34)),
  .op (some (pth 36)) none (.iaS 1 (tm 35) (.cst (iv 0))),
  .op (some (pth 37)) none (.load (tm 36)),
  .op (some (pth 38)) none (.nil (tm 31)),
  .op (some (pth 39)) none (.fa 0 (tm 38)),
  .op none none (.store 1 (tm 39) (tm 37))]
noncomputable def r_Dev_Write_10 : List CO := [
  .op (some (pth 40)) none (.mv (tm 9)),
  .op (some (pth 41)) none (.mv (tm 9)),
  .op (some (pth 42)) none (.nil (tm 41)),
  .op (some (pth 43)) none (.fa 1 (tm 42)),
  .op (some (pth 44)) none (.load (tm 43)),
  .call (some (pth 45)) none (.cst (.func fn_Delete [])) [(tm 44), (.cst (iv 0)), (.cst (iv 1))],
  .op (some (pth 46)) none (.nil (tm 40)),
  .op (some (pth 47)) none (.fa 1 (tm 46)),
  .op none none (.store 1 (tm 47) (tm 45))]
noncomputable def r_Dev_Write_11 : List CO := [
  .op (some (pth 48)) none (.mv (tm 9)),
  .op (some (pth 49)) none (.mv (tm 9)),
  .op (some (pth 50)) none (.nil (tm 49)),
  .op (some (pth 51)) none (.fa 1 (tm 50)),
  .op (some (pth 52)) none (.load (tm 51)),
  .op (some (pth 53)) none (.mv (tm 2)),
  .call (some (pth 54)) none (.cst (.func fn_CloneB [])) [(tm 53)],
  .op (some (pth 55)) none (.bslice ty_suint8 1 1 [nils] [(0, 1, (tm 54))]),
  .op (some (pth 56)) none (.app ty_suint8 1 24 [nils] (tm 52) (tm 55)),
  .op (some (pth 57)) none (.nil (tm 48)),
  .op (some (pth 58)) none (.fa 1 (tm 57)),
  .op none none (.store 1 (tm 58) (tm 56))]
noncomputable def r_Dev_Write_12 : List CO := [
  .op (some (pth 6)) none (.mv (.cst (iv 0)))]
noncomputable def c_Dev_Write : CC := (.seq (.reg r_Dev_Write_0) (.seq (.seq (.reg r_Dev_Write_1) (.seq (.reg r_Dev_Write_2) (.cond (tm 15) (.seq (.reg r_Dev_Write_3) .ret) .skip))) (.seq (.seq (.reg r_Dev_Write_4) (.seq (.reg r_Dev_Write_5) (.cond (tm 20) (.seq (.reg r_Dev_Write_6) .ret) .skip))) (.seq (.reg r_Dev_Write_7) (.seq (.seq (.reg r_Dev_Write_8) (.cond (tm 30) (.seq (.reg r_Dev_Write_9) (.reg r_Dev_Write_10)) .skip)) (.seq (.drawn r_Dev_Write_11 [(4, 0), (4, 7), (4, 8)]) (.seq (.reg r_Dev_Write_12) .ret)))))))
theorem at_Dev_Write : FnAt Try.prog tb fn_Dev_Write c_Dev_Write 59 [.tmp 6] := fnAt_of tb_fs Try.func50 rfl (by kernel_rfl) (by kernel_rfl) rfl rfl
/-! 57:   skerry/device.Device .fits -/
noncomputable def r_Dev_fits_0 : List CO := [
  .op (some (pth 6)) none (.mv (.cst (iv 0)))]
noncomputable def r_Dev_fits_1 : List CO := [
  .op (some (pth 8)) none (.mv (tm 0)),
  .op (some (pth 9)) none (.eqp false (binS Try.prog .eql ty_pdevice_Device) (tm 8) (.cst nilp)),
  .op (some (pth 7)) none (.mv (tm 9))]
noncomputable def r_Dev_fits_2 : List CO := [
  .op (some (pth 6)) none (.mv (.cst (iv 1)))]
noncomputable def r_Dev_fits_3 : List CO := [
  .op (some (pth 11)) none (.mv (tm 0)),
  .op (some (pth 12)) none (.mv (tm 1)),
  .call (some (pth 13)) none (.cst (.func fn_Dev_at [])) [(tm 11), (tm 12)],
  .op (some (pth 14)) none (.eqp false (binS Try.prog .eql ty_pdevice_cell) (tm 13) (.cst nilp)),
  .op (some (pth 10)) none (.mv (tm 14))]
noncomputable def r_Dev_fits_4 : List CO := [
  .op (some (pth 6)) none (.mv (.cst (iv 2)))]
noncomputable def r_Dev_fits_5 : List CO := [
  .op (some (pth 16)) none (.mv (tm 2)),
  .op (some (pth 17)) none (.len false (tm 16)),
  .op (some (pth 18)) none (.mv (tm 0)),
  .op (some (pth 19)) none (.nil (tm 18)),
  .op (some (pth 20)) none (.fa 0 (tm 19)),
  .op (some (pth 21)) none (.load (tm 20)),
  .op (some (pth 22)) none (.ne (binS Try.prog .neq ty_int) (tm 17) (tm 21)),
  .op (some (pth 15)) none (.mv (tm 22))]
noncomputable def r_Dev_fits_6 : List CO := [
  .op (some (pth 6)) none (.mv (.cst (iv 1)))]
noncomputable def r_Dev_fits_7 : List CO := [
  .op (some (pth 6)) none (.mv (.cst (iv 0)))]
noncomputable def c_Dev_fits : CC := (.seq (.reg r_Dev_fits_0) (.seq (.block 0 (.seq (.reg r_Dev_fits_1) (.cond (tm 7) (.seq (.reg r_Dev_fits_2) .ret) (.seq (.reg r_Dev_fits_3) (.cond (tm 10) (.seq (.reg r_Dev_fits_4) .ret) (.seq (.reg r_Dev_fits_5) (.cond (tm 15) (.seq (.reg r_Dev_fits_6) .ret) .skip))))))) (.seq (.reg r_Dev_fits_7) .ret)))
theorem at_Dev_fits : FnAt Try.prog tb fn_Dev_fits c_Dev_fits 23 [.tmp 6] := fnAt_of tb_fs Try.func57 rfl (by kernel_rfl) (by kernel_rfl) rfl rfl
end Go.Proofs.Ytmkbjcjlnidjiaa
