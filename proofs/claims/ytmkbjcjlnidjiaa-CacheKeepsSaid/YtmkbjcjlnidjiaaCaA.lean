import Derived.Test.YtmkbjcjlnidjiaaAmZf
import Derived.Test.YtmkbjcjlnidjiaaAmZh
import Derived.Test.YtmkbjcjlnidjiaaRows
/- The code of the packages device and cache, made ready for the abstract machine (printed by pp2.lean and named.py). -/
namespace Go.Proofs.Ytmkbjcjlnidjiaa
open Go.Am

noncomputable def tb : Tb := withSort (withTrue (sortedTb Try.prog 31 3 [51]) [6]) 47
theorem tb_fs : tb.fs = tabOf Try.prog := rfl
abbrev fn_l8_CachePins : FuncId := 4
abbrev fn_l8_wakes : FuncId := 6
abbrev fn_device_New : FuncId := 7
abbrev fn_cache_New : FuncId := 8
abbrev fn_l8_full : FuncId := 9
abbrev fn_Ca_Put : FuncId := 11
abbrev fn_Ca_Get : FuncId := 13
abbrev fn_Ca_Held : FuncId := 14
abbrev fn_k1_SameBytes : FuncId := 16
abbrev fn_Ca_Pin : FuncId := 20
abbrev fn_Ca_Drop : FuncId := 21
abbrev fn_Ca_Unpin : FuncId := 22
abbrev fn_Dev_Read : FuncId := 26
abbrev fn_CloneI : FuncId := 27
abbrev fn_Ca_fits : FuncId := 28
abbrev fn_Ca_room : FuncId := 29
abbrev fn_CloneB : FuncId := 30
abbrev fn_Sorted : FuncId := 31
abbrev fn_Ca_known : FuncId := 33
abbrev fn_Ca_write : FuncId := 34
abbrev fn_Keys_line : FuncId := 35
abbrev fn_DelFunc : FuncId := 36
abbrev fn_Ca_held : FuncId := 39
abbrev fn_Dev_at : FuncId := 42
abbrev fn_Cell_last : FuncId := 43
abbrev fn_Dev_Block : FuncId := 44
abbrev fn_Ca_victim : FuncId := 45
abbrev fn_Dev_Blocks : FuncId := 49
abbrev fn_Dev_Write : FuncId := 50
abbrev fn_Keys_line_1 : FuncId := 51
abbrev fn_IdxFunc : FuncId := 52
abbrev fn_Ca_victim_1 : FuncId := 53
abbrev ty_int : TypeId := 3
abbrev ty_uint8 : TypeId := 5
abbrev ty_string : TypeId := 9
abbrev ty_sint : TypeId := 22
abbrev ty_pdevice_Device : TypeId := 24
abbrev ty_api_Errno : TypeId := 25
abbrev ty_pcache_Cache : TypeId := 28
abbrev ty_suint8 : TypeId := 31
abbrev ty_device_Device : TypeId := 56
abbrev ty_device_cell : TypeId := 58
abbrev ty_map_int_pcache_line : TypeId := 60
abbrev ty_cache_Cache : TypeId := 62
abbrev ty_pcache_line : TypeId := 63
abbrev ty_cache_line : TypeId := 65
abbrev ty_pdevice_cell : TypeId := 77
/-! 42:   skerry/device.Device .at -/
noncomputable def r_Dev_at_0 : List CO := [
  .op (some (pth 4)) none (.mv (.cst nilp))]
noncomputable def r_Dev_at_1 : List CO := [
  .op (some (pth 5)) none (.mv (tm 1)),
  .op (some (pth 6)) none (.lt (binS Try.prog .lss ty_int) (tm 5) (.cst (iv 0))),
  .op (some (pth 7)) none (.mv (tm 6)),
  .op (some (pth 8)) (some (pth 7, false)) (.mv (tm 1)),
  .op (some (pth 9)) (some (pth 7, false)) (.mv (tm 0)),
  .op (some (pth 10)) (some (pth 7, false)) (.nil (tm 9)),
  .op (some (pth 11)) (some (pth 7, false)) (.fa 1 (tm 10)),
  .op (some (pth 12)) (some (pth 7, false)) (.load (tm 11)),
  .op (some (pth 13)) (some (pth 7, false)) (.len false (tm 12)),
  .op (some (pth 14)) (some (pth 7, false)) (.ge (binS Try.prog .geq ty_int) (tm 8) (tm 13)),
  .op (some (pth 15)) none (.pick (tm 7) (.cst (.b true)) (tm 14))]
noncomputable def r_Dev_at_2 : List CO := [
  .op (some (pth 4)) none (.mv (.cst nilp))]
noncomputable def r_Dev_at_3 : List CO := [
  .op (some (pth 16)) none (.mv (tm 0)),
  .op (some (pth 17)) none (.nil (tm 16)),
  .op (some (pth 18)) none (.fa 1 (tm 17)),
  .op (some (pth 19)) none (.load (tm 18)),
  .op (some (pth 20)) none (.mv (tm 1)),
  .op (some (pth 21)) none (.iaS 2 (tm 19) (tm 20)),
  .op (some (pth 4)) none (.mv (tm 21))]
noncomputable def c_Dev_at : CC := (.seq (.reg r_Dev_at_0) (.seq (.seq (.reg r_Dev_at_1) (.cond (tm 15) (.seq (.reg r_Dev_at_2) .ret) .skip)) (.seq (.reg r_Dev_at_3) .ret)))
theorem at_Dev_at : FnAt Try.prog tb fn_Dev_at c_Dev_at 22 [.tmp 4] := fnAt_of tb_fs Try.func42 rfl (by kernel_rfl) (by kernel_rfl) rfl rfl
/-! 43:   skerry/device.cell .last -/
noncomputable def r_Cell_last_0 : List CO := [
  .op (some (pth 2)) none (.mv (.cst nils))]
noncomputable def r_Cell_last_1 : List CO := [
  .op (some (pth 4)) none (.mv (tm 0)),
  .op (some (pth 5)) none (.nil (tm 4)),
  .op (some (pth 6)) none (.fa 1 (tm 5)),
  .op (some (pth 7)) none (.load (tm 6)),
  .op (some (pth 8)) none (.len false (tm 7)),
  .op (some (pth 3)) none (.mv (tm 8))]
noncomputable def r_Cell_last_2 : List CO := [
  .op (some (pth 9)) none (.mv (tm 3)),
  .op (some (pth 10)) none (.gt (binS Try.prog .gtr ty_int) (tm 9) (.cst (iv 0)))]
noncomputable def r_Cell_last_3 : List CO := [
  .op (some (pth 11)) none (.mv (tm 0)),
  .op (some (pth 12)) none (.nil (tm 11)),
  .op (some (pth 13)) none (.fa 1 (tm 12)),
  .op (some (pth 14)) none (.load (tm 13)),
  .op (some (pth 15)) none (.mv (tm 3)),
  .op (some (pth 16)) none (.sub (binS Try.prog .sub ty_int) (tm 15) (.cst (iv 1))),
  .op (some (pth 17)) none (.iaS 1 (tm 14) (tm 16)),
  .op (some (pth 18)) none (.load (tm 17)),
  .op (some (pth 2)) none (.mv (tm 18))]
noncomputable def r_Cell_last_4 : List CO := [
  .op (some (pth 19)) none (.mv (tm 0)),
  .op (some (pth 20)) none (.nil (tm 19)),
  .op (some (pth 21)) none (.fa 0 (tm 20)),
  .op (some (pth 22)) none (.load (tm 21)),
  .op (some (pth 2)) none (.mv (tm 22))]
noncomputable def c_Cell_last : CC := (.seq (.reg r_Cell_last_0) (.seq (.seq (.reg r_Cell_last_1) (.seq (.reg r_Cell_last_2) (.cond (tm 10) (.seq (.reg r_Cell_last_3) .ret) .skip))) (.seq (.reg r_Cell_last_4) .ret)))
theorem at_Cell_last : FnAt Try.prog tb fn_Cell_last c_Cell_last 23 [.tmp 2] := fnAt_of tb_fs Try.func43 rfl (by kernel_rfl) (by kernel_rfl) rfl rfl
/-! 44:   skerry/device.Device .Block -/
noncomputable def r_Dev_Block_0 : List CO := [
  .op (some (pth 2)) none (.mv (.cst (iv 0)))]
noncomputable def r_Dev_Block_1 : List CO := [
  .op (some (pth 3)) none (.mv (tm 0)),
  .op (some (pth 4)) none (.eqp false (binS Try.prog .eql ty_pdevice_Device) (tm 3) (.cst nilp))]
noncomputable def r_Dev_Block_2 : List CO := [
  .op (some (pth 2)) none (.mv (.cst (iv 0)))]
noncomputable def r_Dev_Block_3 : List CO := [
  .op (some (pth 5)) none (.mv (tm 0)),
  .op (some (pth 6)) none (.nil (tm 5)),
  .op (some (pth 7)) none (.fa 0 (tm 6)),
  .op (some (pth 8)) none (.load (tm 7)),
  .op (some (pth 2)) none (.mv (tm 8))]
noncomputable def c_Dev_Block : CC := (.seq (.reg r_Dev_Block_0) (.seq (.seq (.reg r_Dev_Block_1) (.cond (tm 4) (.seq (.reg r_Dev_Block_2) .ret) .skip)) (.seq (.reg r_Dev_Block_3) .ret)))
theorem at_Dev_Block : FnAt Try.prog tb fn_Dev_Block c_Dev_Block 9 [.tmp 2] := fnAt_of tb_fs Try.func44 rfl (by kernel_rfl) (by kernel_rfl) rfl rfl
/-! 49:   skerry/device.Device .Blocks -/
noncomputable def r_Dev_Blocks_0 : List CO := [
  .op (some (pth 2)) none (.mv (.cst (iv 0)))]
noncomputable def r_Dev_Blocks_1 : List CO := [
  .op (some (pth 3)) none (.mv (tm 0)),
  .op (some (pth 4)) none (.eqp false (binS Try.prog .eql ty_pdevice_Device) (tm 3) (.cst nilp))]
noncomputable def r_Dev_Blocks_2 : List CO := [
  .op (some (pth 2)) none (.mv (.cst (iv 0)))]
noncomputable def r_Dev_Blocks_3 : List CO := [
  .op (some (pth 5)) none (.mv (tm 0)),
  .op (some (pth 6)) none (.nil (tm 5)),
  .op (some (pth 7)) none (.fa 1 (tm 6)),
  .op (some (pth 8)) none (.load (tm 7)),
  .op (some (pth 9)) none (.len false (tm 8)),
  .op (some (pth 2)) none (.mv (tm 9))]
noncomputable def c_Dev_Blocks : CC := (.seq (.reg r_Dev_Blocks_0) (.seq (.seq (.reg r_Dev_Blocks_1) (.cond (tm 4) (.seq (.reg r_Dev_Blocks_2) .ret) .skip)) (.seq (.reg r_Dev_Blocks_3) .ret)))
theorem at_Dev_Blocks : FnAt Try.prog tb fn_Dev_Blocks c_Dev_Blocks 10 [.tmp 2] := fnAt_of tb_fs Try.func49 rfl (by kernel_rfl) (by kernel_rfl) rfl rfl
/-! 26:   skerry/device.Device .Read -/
noncomputable def r_Dev_Read_0 : List CO := [
  .op (some (pth 4)) none (.mv (.cst nils)),
  .op (some (pth 5)) none (.mv (.cst (iv 0)))]
noncomputable def r_Dev_Read_1 : List CO := [
  .op (some (pth 8)) none (.mv (tm 0)),
  .op (some (pth 9)) none (.eqp false (binS Try.prog .eql ty_pdevice_Device) (tm 8) (.cst nilp)),
  .op (some (pth 7)) none (.mv (tm 9))]
noncomputable def r_Dev_Read_2 : List CO := [
  .op (some (pth 4)) none (.mv (.cst nils)),
  .op (some (pth 5)) none (.mv (.cst (iv 1)))]
noncomputable def r_Dev_Read_3 : List CO := [
  .op (some (pth 11)) none (.mv (tm 0)),
  .op (some (pth 12)) none (.nil (tm 11)),
  .op (some (pth 13)) none (.fa 4 (tm 12)),
  .op (some (pth 14)) none (.load (tm 13)),
  .op (some (pth 10)) none (.mv (tm 14))]
noncomputable def r_Dev_Read_4 : List CO := [
  .op (some (pth 4)) none (.mv (.cst nils)),
  .op (some (pth 5)) none (.mv (.cst (iv 7)))]
noncomputable def r_Dev_Read_5 : List CO := [
  .op (some (pth 15)) none (.mv (tm 0)),
  .op (some (pth 16)) none (.mv (tm 1)),
  .call (some (pth 17)) none (.cst (.func fn_Dev_at [])) [(tm 15), (tm 16)],
  .op (some (pth 6)) none (.mv (tm 17))]
noncomputable def r_Dev_Read_6 : List CO := [
  .op (some (pth 18)) none (.mv (tm 6)),
  .op (some (pth 19)) none (.eqp false (binS Try.prog .eql ty_pdevice_cell) (tm 18) (.cst nilp))]
noncomputable def r_Dev_Read_7 : List CO := [
  .op (some (pth 4)) none (.mv (.cst nils)),
  .op (some (pth 5)) none (.mv (.cst (iv 2)))]
noncomputable def r_Dev_Read_8 : List CO := [
  .op (some (pth 20)) none (.mv (tm 6)),
  .call (some (pth 21)) none (.cst (.func fn_Cell_last [])) [(tm 20)],
  .call (some (pth 22)) none (.cst (.func fn_CloneB [])) [(tm 21)],
  .op (some (pth 4)) none (.mv (tm 22)),
  .op (some (pth 5)) none (.mv (.cst (iv 0)))]
noncomputable def c_Dev_Read : CC := (.seq (.reg r_Dev_Read_0) (.seq (.block 0 (.seq (.reg r_Dev_Read_1) (.cond (tm 7) (.seq (.reg r_Dev_Read_2) .ret) (.seq (.reg r_Dev_Read_3) (.cond (tm 10) (.seq (.reg r_Dev_Read_4) .ret) .skip))))) (.seq (.reg r_Dev_Read_5) (.seq (.seq (.reg r_Dev_Read_6) (.cond (tm 19) (.seq (.reg r_Dev_Read_7) .ret) .skip)) (.seq (.reg r_Dev_Read_8) .ret)))))
theorem at_Dev_Read : FnAt Try.prog tb fn_Dev_Read c_Dev_Read 23 [.tmp 4, .tmp 5] := fnAt_of tb_fs Try.func26 rfl (by kernel_rfl) (by kernel_rfl) rfl rfl
/-! 30: slices.Clone   byte byte  -/
noncomputable def r_CloneB_0 : List CO := [
  .op (some (pth 2)) none (.mv (.cst nils))]
noncomputable def r_CloneB_1 : List CO := [
  .op (some (pth 3)) none (.mv (tm 0)),
  .op (some (pth 4)) none (.eq (binS Try.prog .eql ty_suint8) (tm 3) (.cst nils))]
noncomputable def r_CloneB_2 : List CO := [
  .op (some (pth 2)) none (.mv (.cst nils))]
noncomputable def r_CloneB_3 : List CO := [
  .op (some (pth 5)) none (.bslice ty_uint8 0 0 [(.y 0)] []),
  .op (some (pth 6)) none (.mv (tm 0)),
  .op (some (pth 7)) none (.app ty_uint8 1 1 [(.y 0)] (tm 5) (tm 6)),
  .op (some (pth 2)) none (.mv (tm 7))]
noncomputable def c_CloneB : CC := (.seq (.reg r_CloneB_0) (.seq (.seq (.reg r_CloneB_1) (.cond (tm 4) (.seq (.reg r_CloneB_2) .ret) .skip)) (.seq (.reg r_CloneB_3) .ret)))
theorem at_CloneB : FnAt Try.prog tb fn_CloneB c_CloneB 8 [.tmp 2] := fnAt_of tb_fs Try.func30 rfl (by kernel_rfl) (by kernel_rfl) rfl rfl
/-! 27: slices.Clone   int int  -/
noncomputable def r_CloneI_0 : List CO := [
  .op (some (pth 2)) none (.mv (.cst nils))]
noncomputable def r_CloneI_1 : List CO := [
  .op (some (pth 3)) none (.mv (tm 0)),
  .op (some (pth 4)) none (.eq (binS Try.prog .eql ty_sint) (tm 3) (.cst nils))]
noncomputable def r_CloneI_2 : List CO := [
  .op (some (pth 2)) none (.mv (.cst nils))]
noncomputable def r_CloneI_3 : List CO := [
  .op (some (pth 5)) none (.bslice ty_int 0 0 [(iv 0)] []),
  .op (some (pth 6)) none (.mv (tm 0)),
  .op (some (pth 7)) none (.app ty_int 1 8 [(iv 0)] (tm 5) (tm 6)),
  .op (some (pth 2)) none (.mv (tm 7))]
noncomputable def c_CloneI : CC := (.seq (.reg r_CloneI_0) (.seq (.seq (.reg r_CloneI_1) (.cond (tm 4) (.seq (.reg r_CloneI_2) .ret) .skip)) (.seq (.reg r_CloneI_3) .ret)))
theorem at_CloneI : FnAt Try.prog tb fn_CloneI c_CloneI 8 [.tmp 2] := fnAt_of tb_fs Try.func27 rfl (by kernel_rfl) (by kernel_rfl) rfl rfl
/-! 33:   skerry/cache.Cache .known -/
noncomputable def r_Ca_known_0 : List CO := [
  .op (some (pth 4)) none (.mv (.cst (iv 0)))]
noncomputable def r_Ca_known_1 : List CO := [
  .op (some (pth 6)) none (.mv (tm 0)),
  .op (some (pth 7)) none (.eqp false (binS Try.prog .eql ty_pcache_Cache) (tm 6) (.cst nilp)),
  .op (some (pth 5)) none (.mv (tm 7))]
noncomputable def r_Ca_known_2 : List CO := [
  .op (some (pth 4)) none (.mv (.cst (iv 1)))]
noncomputable def r_Ca_known_3 : List CO := [
  .op (some (pth 9)) none (.mv (tm 1)),
  .op (some (pth 10)) none (.lt (binS Try.prog .lss ty_int) (tm 9) (.cst (iv 0))),
  .op (some (pth 11)) none (.mv (tm 10)),
  .op (some (pth 12)) (some (pth 11, false)) (.mv (tm 1)),
  .op (some (pth 13)) (some (pth 11, false)) (.mv (tm 0)),
  .op (some (pth 14)) (some (pth 11, false)) (.nil (tm 13)),
  .op (some (pth 15)) (some (pth 11, false)) (.fa 0 (tm 14)),
  .op (some (pth 16)) (some (pth 11, false)) (.load (tm 15)),
  .call (some (pth 17)) (some (pth 11, false)) (.cst (.func fn_Dev_Blocks [])) [(tm 16)],
  .op (some (pth 18)) (some (pth 11, false)) (.ge (binS Try.prog .geq ty_int) (tm 12) (tm 17)),
  .op (some (pth 19)) none (.pick (tm 11) (.cst (.b true)) (tm 18)),
  .op (some (pth 8)) none (.mv (tm 19))]
noncomputable def r_Ca_known_4 : List CO := [
  .op (some (pth 4)) none (.mv (.cst (iv 2)))]
noncomputable def r_Ca_known_5 : List CO := [
  .op (some (pth 4)) none (.mv (.cst (iv 0)))]
noncomputable def c_Ca_known : CC := (.seq (.reg r_Ca_known_0) (.seq (.block 0 (.seq (.reg r_Ca_known_1) (.cond (tm 5) (.seq (.reg r_Ca_known_2) .ret) (.seq (.reg r_Ca_known_3) (.cond (tm 8) (.seq (.reg r_Ca_known_4) .ret) .skip))))) (.seq (.reg r_Ca_known_5) .ret)))
theorem at_Ca_known : FnAt Try.prog tb fn_Ca_known c_Ca_known 20 [.tmp 4] := fnAt_of tb_fs Try.func33 rfl (by kernel_rfl) (by kernel_rfl) rfl rfl
/-! 39:   skerry/cache.Cache .held -/
noncomputable def r_Ca_held_0 : List CO := [
  .op (some (pth 4)) none (.mv (.cst nilp)),
  .op (some (pth 5)) none (.mv (.cst (iv 0)))]
noncomputable def r_Ca_held_1 : List CO := [
  .op (some (pth 8)) none (.mv (tm 0)),
  .op (some (pth 9)) none (.mv (tm 1)),
  .call (some (pth 10)) none (.cst (.func fn_Ca_known [])) [(tm 8), (tm 9)],
  .op (some (pth 6)) none (.mv (tm 10))]
noncomputable def r_Ca_held_2 : List CO := [
  .op (some (pth 11)) none (.mv (tm 6)),
  .op (some (pth 12)) none (.ne (binS Try.prog .neq ty_api_Errno) (tm 11) (.cst (iv 0)))]
noncomputable def r_Ca_held_3 : List CO := [
  .op (some (pth 13)) none (.mv (tm 6)),
  .op (some (pth 4)) none (.mv (.cst nilp)),
  .op (some (pth 5)) none (.mv (tm 13))]
noncomputable def r_Ca_held_4 : List CO := [
  .op (some (pth 14)) none (.mv (tm 0)),
  .op (some (pth 15)) none (.nil (tm 14)),
  .op (some (pth 16)) none (.fa 3 (tm 15)),
  .op (some (pth 17)) none (.load (tm 16)),
  .op (some (pth 18)) none (.mv (tm 1)),
  .op (some (pth 19)) none (.look (some .i64) nilp false (tm 17) (tm 18)),
  .op (some (pth 7)) none (.mv (tm 19))]
noncomputable def r_Ca_held_5 : List CO := [
  .op (some (pth 20)) none (.mv (tm 7)),
  .op (some (pth 21)) none (.eqp false (binS Try.prog .eql ty_pcache_line) (tm 20) (.cst nilp))]
noncomputable def r_Ca_held_6 : List CO := [
  .op (some (pth 4)) none (.mv (.cst nilp)),
  .op (some (pth 5)) none (.mv (.cst (iv 11)))]
noncomputable def r_Ca_held_7 : List CO := [
  .op (some (pth 22)) none (.mv (tm 7)),
  .op (some (pth 4)) none (.mv (tm 22)),
  .op (some (pth 5)) none (.mv (.cst (iv 0)))]
noncomputable def c_Ca_held : CC := (.seq (.reg r_Ca_held_0) (.seq (.seq (.reg r_Ca_held_1) (.seq (.reg r_Ca_held_2) (.cond (tm 12) (.seq (.reg r_Ca_held_3) .ret) .skip))) (.seq (.reg r_Ca_held_4) (.seq (.seq (.reg r_Ca_held_5) (.cond (tm 21) (.seq (.reg r_Ca_held_6) .ret) .skip)) (.seq (.reg r_Ca_held_7) .ret)))))
theorem at_Ca_held : FnAt Try.prog tb fn_Ca_held c_Ca_held 23 [.tmp 4, .tmp 5] := fnAt_of tb_fs Try.func39 rfl (by kernel_rfl) (by kernel_rfl) rfl rfl
/-! 14:   skerry/cache.Cache .Held -/
noncomputable def r_Ca_Held_0 : List CO := [
  .op (some (pth 2)) none (.mv (.cst nils))]
noncomputable def r_Ca_Held_1 : List CO := [
  .op (some (pth 3)) none (.mv (tm 0)),
  .op (some (pth 4)) none (.eqp false (binS Try.prog .eql ty_pcache_Cache) (tm 3) (.cst nilp))]
noncomputable def r_Ca_Held_2 : List CO := [
  .op (some (pth 2)) none (.mv (.cst nils))]
noncomputable def r_Ca_Held_3 : List CO := [
  .op (some (pth 5)) none (.mv (tm 0)),
  .op (some (pth 6)) none (.nil (tm 5)),
  .op (some (pth 7)) none (.fa 3 (tm 6)),
  .op (some (pth 8)) none (.load (tm 7)),
  .call (some (pth 9)) none (.cst (.func fn_Keys_line [])) [(tm 8)],
  .call (some (pth 10)) none (.cst (.func fn_Sorted [])) [(tm 9)],
  .op (some (pth 2)) none (.mv (tm 10))]
noncomputable def c_Ca_Held : CC := (.seq (.reg r_Ca_Held_0) (.seq (.seq (.reg r_Ca_Held_1) (.cond (tm 4) (.seq (.reg r_Ca_Held_2) .ret) .skip)) (.seq (.reg r_Ca_Held_3) .ret)))
theorem at_Ca_Held : FnAt Try.prog tb fn_Ca_Held c_Ca_Held 11 [.tmp 2] := fnAt_of tb_fs Try.func14 rfl (by kernel_rfl) (by kernel_rfl) rfl rfl
/-! 35: maps.Keys map int  skerry/cache.line int  skerry/cache.line  -/
noncomputable def r_Keys_line_0 : List CO := [
  .op (some (pth 1)) none (.box ty_map_int_pcache_line (tm 0)),
  .op (some (pth 2)) none (.mv (.cst nilf))]
noncomputable def r_Keys_line_1 : List CO := [
  .op (some (pth 3)) none (.fn fn_Keys_line_1 [(tm 1)]),
  .op (some (pth 2)) none (.mv (tm 3))]
noncomputable def c_Keys_line : CC := (.seq (.reg r_Keys_line_0) (.seq (.reg r_Keys_line_1) .ret))
theorem at_Keys_line : FnAt Try.prog tb fn_Keys_line c_Keys_line 4 [.tmp 2] := fnAt_of tb_fs Try.func35 rfl (by kernel_rfl) (by kernel_rfl) rfl rfl
/-! 52: slices.IndexFunc   int int  -/
noncomputable def r_IdxFunc_0 : List CO := [
  .op (some (pth 4)) none (.mv (.cst (iv 0)))]
noncomputable def r_IdxFunc_1 : List CO := [
  .op (some (pth 6)) none (.mv (tm 0)),
  .op (some (pth 7)) none (.len false (tm 6)),
  .op (some (pth 8)) none (.mv (.cst (iv 0)))]
noncomputable def r_IdxFunc_2 : List CO := [
  .op (some (pth 9)) none (.lt (binS Try.prog .lss ty_int) (tm 8) (tm 7))]
noncomputable def r_IdxFunc_3 : List CO := [
  .op (some (pth 10)) none (.mv (tm 8)),
  .op (some (pth 5)) none (.mv (tm 10))]
noncomputable def r_IdxFunc_4 : List CO := [
  .op (some (pth 11)) none (.mv (tm 1)),
  .op (some (pth 12)) none (.mv (tm 0)),
  .op (some (pth 13)) none (.mv (tm 5)),
  .op (some (pth 14)) none (.iaS 1 (tm 12) (tm 13)),
  .op (some (pth 15)) none (.load (tm 14)),
  .call (some (pth 16)) none (tm 11) [(tm 15)]]
noncomputable def r_IdxFunc_5 : List CO := [
  .op (some (pth 17)) none (.mv (tm 5)),
  .op (some (pth 4)) none (.mv (tm 17))]
noncomputable def r_IdxFunc_6 : List CO := [
  .op (some (pth 18)) none (.add (binS Try.prog .add ty_int) (tm 8) (.cst (iv 1))),
  .op (some (pth 8)) none (.mv (tm 18))]
noncomputable def r_IdxFunc_7 : List CO := [
  .op (some (pth 4)) none (.mv (.cst (iv (-1))))]
noncomputable def c_IdxFunc : CC := (.seq (.reg r_IdxFunc_0) (.seq (.seq (.reg r_IdxFunc_1) (.block 0 (.loop (.seq (.reg r_IdxFunc_2) (.seq (.cond (tm 9) .skip (.exit 0)) (.seq (.block 1 (.seq (.reg r_IdxFunc_3) (.seq (.reg r_IdxFunc_4) (.cond (tm 16) (.seq (.reg r_IdxFunc_5) .ret) .skip)))) (.reg r_IdxFunc_6))))))) (.seq (.reg r_IdxFunc_7) .ret)))
theorem at_IdxFunc : FnAt Try.prog tb fn_IdxFunc c_IdxFunc 19 [.tmp 4] := fnAt_of tb_fs Try.func52 rfl (by kernel_rfl) (by kernel_rfl) rfl rfl
/-! 36: slices.DeleteFunc   int int  -/
noncomputable def r_DelFunc_0 : List CO := [
  .op (some (pth 4)) none (.mv (.cst nils))]
noncomputable def r_DelFunc_1 : List CO := [
  .op (some (pth 8)) none (.mv (tm 0)),
  .op (some (pth 9)) none (.mv (tm 1)),
  .call (some (pth 10)) none (.cst (.func fn_IdxFunc [])) [(tm 8), (tm 9)],
  .op (some (pth 5)) none (.mv (tm 10))]
noncomputable def r_DelFunc_2 : List CO := [
  .op (some (pth 11)) none (.mv (tm 5)),
  .op (some (pth 12)) none (.eq (binS Try.prog .eql ty_int) (tm 11) (.cst (iv (-1))))]
noncomputable def r_DelFunc_3 : List CO := [
  .op (some (pth 13)) none (.mv (tm 0)),
  .op (some (pth 4)) none (.mv (tm 13))]
noncomputable def r_DelFunc_4 : List CO := [
  .op (some (pth 14)) none (.mv (tm 5)),
  .op (some (pth 15)) none (.add (binS Try.prog .add ty_int) (tm 14) (.cst (iv 1))),
  .op (some (pth 6)) none (.mv (tm 15))]
noncomputable def r_DelFunc_5 : List CO := [
  .op (some (pth 16)) none (.mv (tm 6)),
  .op (some (pth 17)) none (.mv (tm 0)),
  .op (some (pth 18)) none (.len false (tm 17)),
  .op (some (pth 19)) none (.lt (binS Try.prog .lss ty_int) (tm 16) (tm 18))]
noncomputable def r_DelFunc_7 : List CO := [
  .op (some (pth 22)) none (.mv (tm 0)),
  .op (some (pth 23)) none (.mv (tm 6)),
  .op (some (pth 24)) none (.iaS 1 (tm 22) (tm 23)),
  .op (some (pth 25)) none (.load (tm 24)),
  .op (some (pth 7)) none (.mv (tm 25))]
noncomputable def r_DelFunc_8 : List CO := [
  .op (some (pth 26)) none (.mv (tm 1)),
  .op (some (pth 27)) none (.mv (tm 7)),
  .call (some (pth 28)) none (tm 26) [(tm 27)],
  .op (some (pth 29)) none (.un .not (tm 28))]
noncomputable def r_DelFunc_9 : List CO := [
  .op (some (pth 30)) none (.mv (tm 0)),
  .op (some (pth 31)) none (.mv (tm 5)),
  .op (some (pth 32)) none (.mv (tm 7)),
  .op (some (pth 33)) none (.iaS 1 (tm 30) (tm 31)),
  .op none none (.store 1 (tm 33) (tm 32))]
noncomputable def r_DelFunc_10 : List CO := [
  .op (some (pth 34)) none (.mv (tm 5)),
  .op (some (pth 35)) none (.add (binS Try.prog .add ty_int) (tm 34) (.cst (iv 1))),
  .op (some (pth 5)) none (.mv (tm 35))]
noncomputable def r_DelFunc_6 : List CO := [
  .op (some (pth 20)) none (.mv (tm 6)),
  .op (some (pth 21)) none (.add (binS Try.prog .add ty_int) (tm 20) (.cst (iv 1))),
  .op (some (pth 6)) none (.mv (tm 21))]
noncomputable def r_DelFunc_11 : List CO := [
  .op (some (pth 36)) none (.mv (tm 0)),
  .op (some (pth 37)) none (.mv (tm 5)),
  .op (some (pth 38)) none (.sl 1 false (tm 36) (some (tm 37)) none none),
  .op none none (.clrs [(iv 0)] (tm 38))]
noncomputable def r_DelFunc_12 : List CO := [
  .op (some (pth 39)) none (.mv (tm 0)),
  .op (some (pth 40)) none (.mv (tm 5)),
  .op (some (pth 41)) none (.sl 1 false (tm 39) none (some (tm 40)) none),
  .op (some (pth 4)) none (.mv (tm 41))]
noncomputable def c_DelFunc : CC := (.seq (.reg r_DelFunc_0) (.seq (.reg r_DelFunc_1) (.seq (.seq (.reg r_DelFunc_2) (.cond (tm 12) (.seq (.reg r_DelFunc_3) .ret) .skip)) (.seq (.seq (.reg r_DelFunc_4) (.block 0 (.loop (.seq (.seq (.reg r_DelFunc_5) (.cond (tm 19) .skip (.exit 0))) (.seq (.block 1 (.seq (.reg r_DelFunc_7) (.seq (.reg r_DelFunc_8) (.cond (tm 29) (.seq (.reg r_DelFunc_9) (.reg r_DelFunc_10)) .skip)))) (.reg r_DelFunc_6)))))) (.seq (.reg r_DelFunc_11) (.seq (.reg r_DelFunc_12) .ret))))))
theorem at_DelFunc : FnAt Try.prog tb fn_DelFunc c_DelFunc 42 [.tmp 4] := fnAt_of tb_fs Try.func36 rfl (by kernel_rfl) (by kernel_rfl) rfl rfl
/-! 53:   skerry/cache.Cache .victim 1 -/
noncomputable def r_Ca_victim_1_0 : List CO := [
  .op (some (pth 3)) none (.mv (.cst (.b false)))]
noncomputable def r_Ca_victim_1_1 : List CO := [
  .op (some (pth 4)) none (.load (tm 1)),
  .op (some (pth 5)) none (.nil (tm 4)),
  .op (some (pth 6)) none (.fa 3 (tm 5)),
  .op (some (pth 7)) none (.load (tm 6)),
  .op (some (pth 8)) none (.mv (tm 0)),
  .op (some (pth 9)) none (.look (some .i64) nilp false (tm 7) (tm 8)),
  .op (some (pth 10)) none (.nil (tm 9)),
  .op (some (pth 11)) none (.fa 2 (tm 10)),
  .op (some (pth 12)) none (.load (tm 11)),
  .op (some (pth 13)) none (.gt (binS Try.prog .gtr ty_int) (tm 12) (.cst (iv 0))),
  .op (some (pth 3)) none (.mv (tm 13))]
noncomputable def c_Ca_victim_1 : CC := (.seq (.reg r_Ca_victim_1_0) (.seq (.reg r_Ca_victim_1_1) .ret))
theorem at_Ca_victim_1 : FnAt Try.prog tb fn_Ca_victim_1 c_Ca_victim_1 14 [.tmp 3] := fnAt_of tb_fs Try.func53 rfl (by kernel_rfl) (by kernel_rfl) rfl rfl
/-! 34:   skerry/cache.Cache .write -/
noncomputable def r_Ca_write_0 : List CO := [
  .op (some (pth 4)) none (.mv (.cst (iv 0)))]
noncomputable def r_Ca_write_1 : List CO := [
  .op (some (pth 7)) none (.mv (tm 0)),
  .op (some (pth 8)) none (.nil (tm 7)),
  .op (some (pth 9)) none (.fa 3 (tm 8)),
  .op (some (pth 10)) none (.load (tm 9)),
  .op (some (pth 11)) none (.mv (tm 1)),
  .op (some (pth 12)) none (.look (some .i64) nilp false (tm 10) (tm 11)),
  .op (some (pth 5)) none (.mv (tm 12))]
noncomputable def r_Ca_write_2 : List CO := [
  .op (some (pth 13)) none (.mv (tm 5)),
  .op (some (pth 14)) none (.eqp false (binS Try.prog .eql ty_pcache_line) (tm 13) (.cst nilp)),
  .op (some (pth 15)) none (.mv (tm 14)),
  .op (some (pth 16)) (some (pth 15, false)) (.mv (tm 5)),
  .op (some (pth 17)) (some (pth 15, false)) (.nil (tm 16)),
  .op (some (pth 18)) (some (pth 15, false)) (.fa 1 (tm 17)),
  .op (some (pth 19)) (some (pth 15, false)) (.load (tm 18)),
  .op (some (pth 20)) (some (pth 15, false)) (.un .not (tm 19)),
  .op (some (pth 21)) none (.pick (tm 15) (.cst (.b true)) (tm 20))]
noncomputable def r_Ca_write_3 : List CO := [
  .op (some (pth 4)) none (.mv (.cst (iv 0)))]
noncomputable def r_Ca_write_4 : List CO := [
  .op (some (pth 22)) none (.mv (tm 0)),
  .op (some (pth 23)) none (.nil (tm 22)),
  .op (some (pth 24)) none (.fa 0 (tm 23)),
  .op (some (pth 25)) none (.load (tm 24)),
  .op (some (pth 26)) none (.mv (tm 1)),
  .op (some (pth 27)) none (.mv (tm 5)),
  .op (some (pth 28)) none (.nil (tm 27)),
  .op (some (pth 29)) none (.fa 0 (tm 28)),
  .op (some (pth 30)) none (.load (tm 29)),
  .call (some (pth 31)) none (.cst (.func fn_Dev_Write [])) [(tm 25), (tm 26), (tm 30)],
  .op (some (pth 6)) none (.mv (tm 31))]
noncomputable def r_Ca_write_5 : List CO := [
  .op (some (pth 32)) none (.mv (tm 5)),
  .op (some (pth 33)) none (.mv (tm 6)),
  .op (some (pth 34)) none (.ne (binS Try.prog .neq ty_api_Errno) (tm 33) (.cst (iv 0))),
  .op (some (pth 35)) none (.nil (tm 32)),
  .op (some (pth 36)) none (.fa 1 (tm 35)),
  .op none none (.store 1 (tm 36) (tm 34))]
noncomputable def r_Ca_write_6 : List CO := [
  .op (some (pth 37)) none (.mv (tm 6)),
  .op (some (pth 4)) none (.mv (tm 37))]
noncomputable def c_Ca_write : CC := (.seq (.reg r_Ca_write_0) (.seq (.reg r_Ca_write_1) (.seq (.seq (.reg r_Ca_write_2) (.cond (tm 21) (.seq (.reg r_Ca_write_3) .ret) .skip)) (.seq (.drawn r_Ca_write_4 [(3, 0), (8, 0)]) (.seq (.reg r_Ca_write_5) (.seq (.reg r_Ca_write_6) .ret))))))
theorem at_Ca_write : FnAt Try.prog tb fn_Ca_write c_Ca_write 38 [.tmp 4] := fnAt_of tb_fs Try.func34 rfl (by kernel_rfl) (by kernel_rfl) rfl rfl
/-! 45:   skerry/cache.Cache .victim -/
noncomputable def r_Ca_victim_0 : List CO := [
  .op (some (pth 1)) none (.box ty_pcache_Cache (tm 0)),
  .op (some (pth 2)) none (.mv (.cst (iv 0))),
  .op (some (pth 3)) none (.mv (.cst (.b false)))]
noncomputable def r_Ca_victim_1 : List CO := [
  .op (some (pth 6)) none (.load (tm 1)),
  .call (some (pth 7)) none (.cst (.func fn_Ca_Held [])) [(tm 6)],
  .op (some (pth 8)) none (.fn fn_Ca_victim_1 [(tm 1)]),
  .call (some (pth 9)) none (.cst (.func fn_DelFunc [])) [(tm 7), (tm 8)],
  .op (some (pth 4)) none (.mv (tm 9))]
noncomputable def r_Ca_victim_2 : List CO := [
  .op (some (pth 10)) none (.mv (tm 4)),
  .op (some (pth 11)) none (.len false (tm 10)),
  .op (some (pth 12)) none (.eq (binS Try.prog .eql ty_int) (tm 11) (.cst (iv 0)))]
noncomputable def r_Ca_victim_3 : List CO := [
  .op (some (pth 2)) none (.mv (.cst (iv 0))),
  .op (some (pth 3)) none (.mv (.cst (.b false)))]
noncomputable def r_Ca_victim_4 : List CO := [
  .op (some (pth 5)) none (.mv (.cst (iv 0)))]
noncomputable def r_Ca_victim_5 : List CO := [
  .op (some (pth 13)) none (.load (tm 1)),
  .op (some (pth 14)) none (.nil (tm 13)),
  .op (some (pth 15)) none (.fa 2 (tm 14)),
  .op (some (pth 16)) none (.load (tm 15)),
  .op (some (pth 17)) none (.len false (tm 16)),
  .op (some (pth 18)) none (.gt (binS Try.prog .gtr ty_int) (tm 17) (.cst (iv 0)))]
noncomputable def r_Ca_victim_6 : List CO := [
  .op (some (pth 19)) none (.load (tm 1)),
  .op (some (pth 20)) none (.load (tm 1)),
  .op (some (pth 21)) none (.nil (tm 20)),
  .op (some (pth 22)) none (.fa 2 (tm 21)),
  .op (some (pth 23)) none (.load (tm 22)),
  .op (some (pth 24)) none (.iaS 1 (tm 23) (.cst (iv 0))),
  .op (some (pth 25)) none (.load (tm 24)),
  .op (some (pth 26)) none (.load (tm 1)),
  .op (some (pth 27)) none (.nil (tm 26)),
  .op (some (pth 28)) none (.fa 2 (tm 27)),
  .op (some (pth 29)) none (.load (tm 28)),
  .op (some (pth 30)) none (.sl 1 false (tm 29) (some (.cst (iv 1))) none none),
  .op (some (pth 5)) none (.mv (tm 25)),
  .op (some (pth 31)) none (.nil (tm 19)),
  .op (some (pth 32)) none (.fa 2 (tm 31)),
  .op none none (.store 1 (tm 32) (tm 30))]
noncomputable def r_Ca_victim_7 : List CO := [
  .op (some (pth 33)) none (.mv (tm 4)),
  .op (some (pth 34)) none (.mv (tm 5)),
  .op (some (pth 35)) none (.mv (tm 4)),
  .op (some (pth 36)) none (.len false (tm 35)),
  .op (some (pth 37)) none (.sub (binS Try.prog .sub ty_int) (tm 36) (.cst (iv 1))),
  .op (some (pth 38)) none (.min (tm 34) (tm 37)),
  .op (some (pth 39)) none (.max (.cst (iv 0)) (tm 38)),
  .op (some (pth 40)) none (.iaS 1 (tm 33) (tm 39)),
  .op (some (pth 41)) none (.load (tm 40)),
  .op (some (pth 2)) none (.mv (tm 41)),
  .op (some (pth 3)) none (.mv (.cst (.b true)))]
noncomputable def c_Ca_victim : CC := (.seq (.reg r_Ca_victim_0) (.seq (.reg r_Ca_victim_1) (.seq (.seq (.reg r_Ca_victim_2) (.cond (tm 12) (.seq (.reg r_Ca_victim_3) .ret) .skip)) (.seq (.reg r_Ca_victim_4) (.seq (.seq (.reg r_Ca_victim_5) (.cond (tm 18) (.drawn r_Ca_victim_6 [(0, 0), (1, 0), (4, 0), (6, 0), (7, 0), (10, 0), (11, 0)]) .skip)) (.seq (.reg r_Ca_victim_7) .ret))))))
theorem at_Ca_victim : FnAt Try.prog tb fn_Ca_victim c_Ca_victim 42 [.tmp 2, .tmp 3] := fnAt_of tb_fs Try.func45 rfl (by kernel_rfl) (by kernel_rfl) rfl rfl
/-! 29:   skerry/cache.Cache .room -/
noncomputable def r_Ca_room_0 : List CO := [
  .op (some (pth 2)) none (.mv (.cst (iv 0)))]
noncomputable def r_Ca_room_1 : List CO := [
  .op (some (pth 6)) none (.mv (tm 0)),
  .op (some (pth 7)) none (.nil (tm 6)),
  .op (some (pth 8)) none (.fa 3 (tm 7)),
  .op (some (pth 9)) none (.load (tm 8)),
  .op (some (pth 10)) none (.mlen (tm 9)),
  .op (some (pth 11)) none (.mv (tm 0)),
  .op (some (pth 12)) none (.nil (tm 11)),
  .op (some (pth 13)) none (.fa 1 (tm 12)),
  .op (some (pth 14)) none (.load (tm 13)),
  .op (some (pth 15)) none (.lt (binS Try.prog .lss ty_int) (tm 10) (tm 14))]
noncomputable def r_Ca_room_2 : List CO := [
  .op (some (pth 2)) none (.mv (.cst (iv 0)))]
noncomputable def r_Ca_room_3 : List CO := [
  .op (some (pth 17)) none (.mv (tm 0)),
  .call (some (pth 18)) none (.cst (.func fn_Ca_victim [])) [(tm 17)],
  .op (some (pth 16)) none (.mv (tm 18)),
  .op (some (pth 19)) none (.ext 0 (tm 16)),
  .op (some (pth 20)) none (.ext 1 (tm 16)),
  .op (some (pth 3)) none (.mv (tm 19)),
  .op (some (pth 4)) none (.mv (tm 20))]
noncomputable def r_Ca_room_4 : List CO := [
  .op (some (pth 21)) none (.mv (tm 4)),
  .op (some (pth 22)) none (.un .not (tm 21))]
noncomputable def r_Ca_room_5 : List CO := [
  .op (some (pth 2)) none (.mv (.cst (iv 8)))]
noncomputable def r_Ca_room_6 : List CO := [
  .op (some (pth 23)) none (.mv (tm 0)),
  .op (some (pth 24)) none (.mv (tm 3)),
  .call (some (pth 25)) none (.cst (.func fn_Ca_write [])) [(tm 23), (tm 24)],
  .op (some (pth 5)) none (.mv (tm 25))]
noncomputable def r_Ca_room_7 : List CO := [
  .op (some (pth 26)) none (.mv (tm 5)),
  .op (some (pth 27)) none (.ne (binS Try.prog .neq ty_api_Errno) (tm 26) (.cst (iv 0)))]
noncomputable def r_Ca_room_8 : List CO := [
  .op (some (pth 28)) none (.mv (tm 5)),
  .op (some (pth 2)) none (.mv (tm 28))]
noncomputable def r_Ca_room_9 : List CO := [
  .op (some (pth 29)) none (.mv (tm 0)),
  .op (some (pth 30)) none (.nil (tm 29)),
  .op (some (pth 31)) none (.fa 3 (tm 30)),
  .op (some (pth 32)) none (.load (tm 31)),
  .op (some (pth 33)) none (.mv (tm 3)),
  .op none none (.mdel (some .i64) (tm 32) (tm 33))]
noncomputable def r_Ca_room_10 : List CO := [
  .op (some (pth 2)) none (.mv (.cst (iv 0)))]
noncomputable def c_Ca_room : CC := (.seq (.reg r_Ca_room_0) (.seq (.seq (.drawn r_Ca_room_1 [(3, 0), (4, 0), (8, 0)]) (.cond (tm 15) (.seq (.reg r_Ca_room_2) .ret) .skip)) (.seq (.reg r_Ca_room_3) (.seq (.seq (.reg r_Ca_room_4) (.cond (tm 22) (.seq (.reg r_Ca_room_5) .ret) .skip)) (.seq (.seq (.reg r_Ca_room_6) (.seq (.reg r_Ca_room_7) (.cond (tm 27) (.seq (.reg r_Ca_room_8) .ret) .skip))) (.seq (.reg r_Ca_room_9) (.seq (.reg r_Ca_room_10) .ret)))))))
theorem at_Ca_room : FnAt Try.prog tb fn_Ca_room c_Ca_room 34 [.tmp 2] := fnAt_of tb_fs Try.func29 rfl (by kernel_rfl) (by kernel_rfl) rfl rfl
/-! 28:   skerry/cache.Cache .fits -/
noncomputable def r_Ca_fits_0 : List CO := [
  .op (some (pth 6)) none (.mv (.cst (iv 0)))]
noncomputable def r_Ca_fits_1 : List CO := [
  .op (some (pth 8)) none (.mv (tm 0)),
  .op (some (pth 9)) none (.mv (tm 1)),
  .call (some (pth 10)) none (.cst (.func fn_Ca_known [])) [(tm 8), (tm 9)],
  .op (some (pth 7)) none (.mv (tm 10))]
noncomputable def r_Ca_fits_2 : List CO := [
  .op (some (pth 11)) none (.mv (tm 7)),
  .op (some (pth 12)) none (.eq (binS Try.prog .eql ty_api_Errno) (tm 11) (.cst (iv 0))),
  .op (some (pth 13)) none (.mv (tm 12)),
  .op (some (pth 14)) (some (pth 13, true)) (.mv (tm 2)),
  .op (some (pth 15)) (some (pth 13, true)) (.len false (tm 14)),
  .op (some (pth 16)) (some (pth 13, true)) (.mv (tm 0)),
  .op (some (pth 17)) (some (pth 13, true)) (.nil (tm 16)),
  .op (some (pth 18)) (some (pth 13, true)) (.fa 0 (tm 17)),
  .op (some (pth 19)) (some (pth 13, true)) (.load (tm 18)),
  .call (some (pth 20)) (some (pth 13, true)) (.cst (.func fn_Dev_Block [])) [(tm 19)],
  .op (some (pth 21)) (some (pth 13, true)) (.ne (binS Try.prog .neq ty_int) (tm 15) (tm 20)),
  .op (some (pth 22)) none (.pick (tm 13) (tm 21) (.cst (.b false)))]
noncomputable def r_Ca_fits_3 : List CO := [
  .op (some (pth 6)) none (.mv (.cst (iv 1)))]
noncomputable def r_Ca_fits_4 : List CO := [
  .op (some (pth 23)) none (.mv (tm 7)),
  .op (some (pth 6)) none (.mv (tm 23))]
noncomputable def c_Ca_fits : CC := (.seq (.reg r_Ca_fits_0) (.seq (.reg r_Ca_fits_1) (.seq (.seq (.reg r_Ca_fits_2) (.cond (tm 22) (.seq (.reg r_Ca_fits_3) .ret) .skip)) (.seq (.reg r_Ca_fits_4) .ret))))
theorem at_Ca_fits : FnAt Try.prog tb fn_Ca_fits c_Ca_fits 24 [.tmp 6] := fnAt_of tb_fs Try.func28 rfl (by kernel_rfl) (by kernel_rfl) rfl rfl
/-! 7: skerry/device.New -/
noncomputable def r_device_New_0 : List CO := [
  .op (some (pth 4)) none (.mv (.cst nilp)),
  .op (some (pth 5)) none (.mv (.cst (iv 0)))]
noncomputable def r_device_New_1 : List CO := [
  .op (some (pth 9)) none (.mv (tm 0)),
  .op (some (pth 10)) none (.lt (binS Try.prog .lss ty_int) (tm 9) (.cst (iv 64))),
  .op (some (pth 11)) none (.mv (tm 10)),
  .op (some (pth 12)) (some (pth 11, false)) (.mv (tm 0)),
  .op (some (pth 13)) (some (pth 11, false)) (.gt (binS Try.prog .gtr ty_int) (tm 12) (.cst (iv 4096))),
  .op (some (pth 14)) none (.pick (tm 11) (.cst (.b true)) (tm 13)),
  .op (some (pth 15)) none (.mv (tm 14)),
  .op (some (pth 16)) (some (pth 15, false)) (.mv (tm 0)),
  .op (some (pth 17)) (some (pth 15, false)) (.mv (tm 0)),
  .op (some (pth 18)) (some (pth 15, false)) (.sub (binS Try.prog .sub ty_int) (tm 17) (.cst (iv 1))),
  .op (some (pth 19)) (some (pth 15, false)) (.and (binS Try.prog .and ty_int) (tm 16) (tm 18)),
  .op (some (pth 20)) (some (pth 15, false)) (.ne (binS Try.prog .neq ty_int) (tm 19) (.cst (iv 0))),
  .op (some (pth 21)) none (.pick (tm 15) (.cst (.b true)) (tm 20)),
  .op (some (pth 22)) none (.mv (tm 21)),
  .op (some (pth 23)) (some (pth 22, false)) (.mv (tm 1)),
  .op (some (pth 24)) (some (pth 22, false)) (.lt (binS Try.prog .lss ty_int) (tm 23) (.cst (iv 1))),
  .op (some (pth 25)) none (.pick (tm 22) (.cst (.b true)) (tm 24)),
  .op (some (pth 26)) none (.mv (tm 25)),
  .op (some (pth 27)) (some (pth 26, false)) (.mv (tm 1)),
  .op (some (pth 28)) (some (pth 26, false)) (.gt (binS Try.prog .gtr ty_int) (tm 27) (.cst (iv 4096))),
  .op (some (pth 29)) none (.pick (tm 26) (.cst (.b true)) (tm 28)),
  .op (some (pth 8)) none (.mv (tm 29))]
noncomputable def r_device_New_2 : List CO := [
  .op (some (pth 4)) none (.mv (.cst nilp)),
  .op (some (pth 5)) none (.mv (.cst (iv 1)))]
noncomputable def r_device_New_3 : List CO := [
  .op (some (pth 31)) none (.mv (tm 0)),
  .op (some (pth 32)) none (.mv (tm 1)),
  .op (some (pth 33)) none (.mul (binS Try.prog .mul ty_int) (tm 31) (tm 32)),
  .op (some (pth 34)) none (.gt (binS Try.prog .gtr ty_int) (tm 33) (.cst (iv 1048576))),
  .op (some (pth 30)) none (.mv (tm 34))]
noncomputable def r_device_New_4 : List CO := [
  .op (some (pth 4)) none (.mv (.cst nilp)),
  .op (some (pth 5)) none (.mv (.cst (iv 5)))]
noncomputable def r_device_New_5 : List CO := [
  .op (some (pth 35)) none (.mv (tm 0)),
  .op (some (pth 36)) none (.mv (tm 1)),
  .op (some (pth 37)) none (.mksl ty_device_cell 2 48 [nils, nils] (tm 36) (tm 36)),
  .op (some (pth 38)) none (.build [(iv 0), nils, (.b false), (iv 0), (.b false), (iv 0)] [(0, 1, (tm 35)), (1, 1, (tm 37))]),
  .op (some (pth 39)) none (.box ty_device_Device (tm 38)),
  .op (some (pth 6)) none (.mv (tm 39))]
noncomputable def r_device_New_6 : List CO := [
  .op (some (pth 40)) none (.mv (tm 6)),
  .op (some (pth 41)) none (.nil (tm 40)),
  .op (some (pth 42)) none (.fa 1 (tm 41)),
  .op (some (pth 43)) none (.load (tm 42)),
  .op (some (pth 44)) none (.len false (tm 43)),
  .op (some (pth 45)) none (.mv (.cst (iv 0)))]
noncomputable def r_device_New_7 : List CO := [
  .op (some (pth 46)) none (.lt (binS Try.prog .lss ty_int) (tm 45) (tm 44))]
noncomputable def r_device_New_8 : List CO := [
  .op (some (pth 47)) none (.mv (tm 45)),
  .op (some (pth 7)) none (.mv (tm 47))]
noncomputable def r_device_New_9 : List CO := [
  .op (some (pth 48)) none (.mv (tm 6)),
  .op (some (pth 49)) none (.nil (tm 48)),
  .op (some (pth 50)) none (.fa 1 (tm 49)),
  .op (some (pth 51)) none (.load (tm 50)),
  .op (some (pth 52)) none (.mv (tm 7)),
  .op (some (pth 53)) none (.mv (tm 0)),
  .op (some (pth 54)) none (.mksl ty_uint8 1 1 [(.y 0)] (tm 53) (tm 53)),
  .op (some (pth 55)) none (.iaS 2 (tm 51) (tm 52)),
  .op (some (pth 56)) none (.fa 0 (tm 55)),
  .op none none (.store 1 (tm 56) (tm 54))]
noncomputable def r_device_New_10 : List CO := [
  .op (some (pth 57)) none (.add (binS Try.prog .add ty_int) (tm 45) (.cst (iv 1))),
  .op (some (pth 45)) none (.mv (tm 57))]
noncomputable def r_device_New_11 : List CO := [
  .op (some (pth 58)) none (.mv (tm 6)),
  .op (some (pth 4)) none (.mv (tm 58)),
  .op (some (pth 5)) none (.mv (.cst (iv 0)))]
noncomputable def c_device_New : CC := (.seq (.reg r_device_New_0) (.seq (.block 0 (.seq (.reg r_device_New_1) (.cond (tm 8) (.seq (.reg r_device_New_2) .ret) (.seq (.reg r_device_New_3) (.cond (tm 30) (.seq (.reg r_device_New_4) .ret) .skip))))) (.seq (.reg r_device_New_5) (.seq (.seq (.reg r_device_New_6) (.block 1 (.loop (.seq (.reg r_device_New_7) (.seq (.cond (tm 46) .skip (.exit 1)) (.seq (.block 2 (.seq (.reg r_device_New_8) (.drawn r_device_New_9 [(3, 0), (3, 7)]))) (.reg r_device_New_10))))))) (.seq (.reg r_device_New_11) .ret)))))
theorem at_device_New : FnAt Try.prog tb fn_device_New c_device_New 59 [.tmp 4, .tmp 5] := fnAt_of tb_fs Try.func7 rfl (by kernel_rfl) (by kernel_rfl) rfl rfl
/-! 8: skerry/cache.New -/
noncomputable def r_cache_New_0 : List CO := [
  .op (some (pth 6)) none (.mv (.cst nilp)),
  .op (some (pth 7)) none (.mv (.cst (iv 0)))]
noncomputable def r_cache_New_1 : List CO := [
  .op (some (pth 8)) none (.mv (tm 0)),
  .op (some (pth 9)) none (.eqp false (binS Try.prog .eql ty_pdevice_Device) (tm 8) (.cst nilp)),
  .op (some (pth 10)) none (.mv (tm 9)),
  .op (some (pth 11)) (some (pth 10, false)) (.mv (tm 1)),
  .op (some (pth 12)) (some (pth 10, false)) (.lt (binS Try.prog .lss ty_int) (tm 11) (.cst (iv 1))),
  .op (some (pth 13)) none (.pick (tm 10) (.cst (.b true)) (tm 12)),
  .op (some (pth 14)) none (.mv (tm 13)),
  .op (some (pth 15)) (some (pth 14, false)) (.mv (tm 1)),
  .op (some (pth 16)) (some (pth 14, false)) (.gt (binS Try.prog .gtr ty_int) (tm 15) (.cst (iv 512))),
  .op (some (pth 17)) none (.pick (tm 14) (.cst (.b true)) (tm 16))]
noncomputable def r_cache_New_2 : List CO := [
  .op (some (pth 6)) none (.mv (.cst nilp)),
  .op (some (pth 7)) none (.mv (.cst (iv 1)))]
noncomputable def r_cache_New_3 : List CO := [
  .op (some (pth 18)) none (.mv (tm 0)),
  .op (some (pth 19)) none (.mv (tm 1)),
  .op (some (pth 20)) none (.mv (tm 2)),
  .call (some (pth 21)) none (.cst (.func fn_CloneI [])) [(tm 20)],
  .op (some (pth 22)) none (.mkmap none),
  .op (some (pth 23)) none (.build [nilp, (iv 0), nils, nilm] [(0, 1, (tm 18)), (1, 1, (tm 19)), (2, 1, (tm 21)), (3, 1, (tm 22))]),
  .op (some (pth 24)) none (.box ty_cache_Cache (tm 23)),
  .op (some (pth 6)) none (.mv (tm 24)),
  .op (some (pth 7)) none (.mv (.cst (iv 0)))]
noncomputable def c_cache_New : CC := (.seq (.reg r_cache_New_0) (.seq (.seq (.reg r_cache_New_1) (.cond (tm 17) (.seq (.reg r_cache_New_2) .ret) .skip)) (.seq (.reg r_cache_New_3) .ret)))
theorem at_cache_New : FnAt Try.prog tb fn_cache_New c_cache_New 25 [.tmp 6, .tmp 7] := fnAt_of tb_fs Try.func8 rfl (by kernel_rfl) (by kernel_rfl) rfl rfl
/-! 9: skerry/skerrylaw08.full -/
noncomputable def r_l8_full_0 : List CO := [
  .op (some (pth 2)) none (.mv (.cst nils))]
noncomputable def r_l8_full_1 : List CO := [
  .op (some (pth 5)) none (.mksl ty_uint8 1 1 [(.y 0)] (.cst (iv 64)) (.cst (iv 64))),
  .op (some (pth 3)) none (.mv (tm 5))]
noncomputable def r_l8_full_2 : List CO := [
  .op (some (pth 4)) none (.mv (.cst (iv 0)))]
noncomputable def r_l8_full_3 : List CO := [
  .op (some (pth 6)) none (.mv (tm 4)),
  .op (some (pth 7)) none (.lt (binS Try.prog .lss ty_int) (tm 6) (.cst (iv 64)))]
noncomputable def r_l8_full_5 : List CO := [
  .op (some (pth 10)) none (.mv (tm 3)),
  .op (some (pth 11)) none (.mv (tm 4)),
  .op (some (pth 12)) none (.mv (tm 0)),
  .op (some (pth 13)) none (.iaS 1 (tm 10) (tm 11)),
  .op none none (.store 1 (tm 13) (tm 12))]
noncomputable def r_l8_full_4 : List CO := [
  .op (some (pth 8)) none (.mv (tm 4)),
  .op (some (pth 9)) none (.add (binS Try.prog .add ty_int) (tm 8) (.cst (iv 1))),
  .op (some (pth 4)) none (.mv (tm 9))]
noncomputable def r_l8_full_6 : List CO := [
  .op (some (pth 14)) none (.mv (tm 3)),
  .op (some (pth 2)) none (.mv (tm 14))]
noncomputable def c_l8_full : CC := (.seq (.reg r_l8_full_0) (.seq (.reg r_l8_full_1) (.seq (.seq (.reg r_l8_full_2) (.block 0 (.loop (.seq (.seq (.reg r_l8_full_3) (.cond (tm 7) .skip (.exit 0))) (.seq (.block 1 (.reg r_l8_full_5)) (.reg r_l8_full_4)))))) (.seq (.reg r_l8_full_6) .ret))))
theorem at_l8_full : FnAt Try.prog tb fn_l8_full c_l8_full 15 [.tmp 2] := fnAt_of tb_fs Try.func9 rfl (by kernel_rfl) (by kernel_rfl) rfl rfl
/-! 11:   skerry/cache.Cache .Put -/
noncomputable def r_Ca_Put_0 : List CO := [
  .op (some (pth 6)) none (.mv (.cst (iv 0)))]
noncomputable def r_Ca_Put_1 : List CO := [
  .op (some (pth 9)) none (.mv (tm 0)),
  .op (some (pth 10)) none (.mv (tm 1)),
  .op (some (pth 11)) none (.mv (tm 2)),
  .call (some (pth 12)) none (.cst (.func fn_Ca_fits [])) [(tm 9), (tm 10), (tm 11)],
  .op (some (pth 7)) none (.mv (tm 12))]
noncomputable def r_Ca_Put_2 : List CO := [
  .op (some (pth 13)) none (.mv (tm 7)),
  .op (some (pth 14)) none (.ne (binS Try.prog .neq ty_api_Errno) (tm 13) (.cst (iv 0)))]
noncomputable def r_Ca_Put_3 : List CO := [
  .op (some (pth 15)) none (.mv (tm 7)),
  .op (some (pth 6)) none (.mv (tm 15))]
noncomputable def r_Ca_Put_4 : List CO := [
  .op (some (pth 16)) none (.mv (tm 0)),
  .op (some (pth 17)) none (.nil (tm 16)),
  .op (some (pth 18)) none (.fa 3 (tm 17)),
  .op (some (pth 19)) none (.load (tm 18)),
  .op (some (pth 20)) none (.mv (tm 1)),
  .op (some (pth 21)) none (.look (some .i64) nilp false (tm 19) (tm 20)),
  .op (some (pth 22)) none (.eqp false (binS Try.prog .eql ty_pcache_line) (tm 21) (.cst nilp))]
noncomputable def r_Ca_Put_5 : List CO := [
  .op (some (pth 23)) none (.mv (tm 0)),
  .call (some (pth 24)) none (.cst (.func fn_Ca_room [])) [(tm 23)],
  .op (some (pth 8)) none (.mv (tm 24))]
noncomputable def r_Ca_Put_6 : List CO := [
  .op (some (pth 25)) none (.mv (tm 8)),
  .op (some (pth 26)) none (.ne (binS Try.prog .neq ty_api_Errno) (tm 25) (.cst (iv 0)))]
noncomputable def r_Ca_Put_7 : List CO := [
  .op (some (pth 27)) none (.mv (tm 8)),
  .op (some (pth 6)) none (.mv (tm 27))]
noncomputable def r_Ca_Put_8 : List CO := [
  .op (some (pth 28)) none (.mv (tm 0)),
  .op (some (pth 29)) none (.nil (tm 28)),
  .op (some (pth 30)) none (.fa 3 (tm 29)),
  .op (some (pth 31)) none (.load (tm 30)),
  .op (some (pth 32)) none (.mv (tm 1)),
  .op (some (pth 33)) none (.build [nils, (.b false), (iv 0)] []),
  .op (some (pth 34)) none (.box ty_cache_line (tm 33)),
  .op none none (.mupd (some .i64) (tm 31) (tm 32) (tm 34))]
noncomputable def r_Ca_Put_9 : List CO := [
  .op (some (pth 35)) none (.mv (tm 0)),
  .op (some (pth 36)) none (.nil (tm 35)),
  .op (some (pth 37)) none (.fa 3 (tm 36)),
  .op (some (pth 38)) none (.load (tm 37)),
  .op (some (pth 39)) none (.mv (tm 1)),
  .op (some (pth 40)) none (.look (some .i64) nilp false (tm 38) (tm 39)),
  .op (some (pth 41)) none (.mv (tm 0)),
  .op (some (pth 42)) none (.nil (tm 41)),
  .op (some (pth 43)) none (.fa 3 (tm 42)),
  .op (some (pth 44)) none (.load (tm 43)),
  .op (some (pth 45)) none (.mv (tm 1)),
  .op (some (pth 46)) none (.look (some .i64) nilp false (tm 44) (tm 45)),
  .op (some (pth 47)) none (.mv (tm 2)),
  .call (some (pth 48)) none (.cst (.func fn_CloneB [])) [(tm 47)],
  .op (some (pth 49)) none (.nil (tm 40)),
  .op (some (pth 50)) none (.fa 0 (tm 49)),
  .op none none (.store 1 (tm 50) (tm 48)),
  .op (some (pth 51)) none (.nil (tm 46)),
  .op (some (pth 52)) none (.fa 1 (tm 51)),
  .op none none (.store 1 (tm 52) (.cst (.b true)))]
noncomputable def r_Ca_Put_10 : List CO := [
  .op (some (pth 6)) none (.mv (.cst (iv 0)))]
noncomputable def c_Ca_Put : CC := (.seq (.reg r_Ca_Put_0) (.seq (.seq (.reg r_Ca_Put_1) (.seq (.reg r_Ca_Put_2) (.cond (tm 14) (.seq (.reg r_Ca_Put_3) .ret) .skip))) (.seq (.seq (.reg r_Ca_Put_4) (.cond (tm 22) (.seq (.seq (.reg r_Ca_Put_5) (.seq (.reg r_Ca_Put_6) (.cond (tm 26) (.seq (.reg r_Ca_Put_7) .ret) .skip))) (.reg r_Ca_Put_8)) .skip)) (.seq (.drawn r_Ca_Put_9 [(3, 0), (3, 14), (5, 0), (5, 14), (9, 0), (9, 14), (11, 0), (11, 14)]) (.seq (.reg r_Ca_Put_10) .ret)))))
theorem at_Ca_Put : FnAt Try.prog tb fn_Ca_Put c_Ca_Put 53 [.tmp 6] := fnAt_of tb_fs Try.func11 rfl (by kernel_rfl) (by kernel_rfl) rfl rfl
/-! 13:   skerry/cache.Cache .Get -/
noncomputable def r_Ca_Get_0 : List CO := [
  .op (some (pth 4)) none (.mv (.cst nils)),
  .op (some (pth 5)) none (.mv (.cst (iv 0)))]
noncomputable def r_Ca_Get_1 : List CO := [
  .op (some (pth 8)) none (.mv (tm 0)),
  .op (some (pth 9)) none (.mv (tm 1)),
  .call (some (pth 10)) none (.cst (.func fn_Ca_known [])) [(tm 8), (tm 9)],
  .op (some (pth 6)) none (.mv (tm 10))]
noncomputable def r_Ca_Get_2 : List CO := [
  .op (some (pth 11)) none (.mv (tm 6)),
  .op (some (pth 12)) none (.ne (binS Try.prog .neq ty_api_Errno) (tm 11) (.cst (iv 0)))]
noncomputable def r_Ca_Get_3 : List CO := [
  .op (some (pth 13)) none (.mv (tm 6)),
  .op (some (pth 4)) none (.mv (.cst nils)),
  .op (some (pth 5)) none (.mv (tm 13))]
noncomputable def r_Ca_Get_4 : List CO := [
  .op (some (pth 14)) none (.mv (tm 0)),
  .op (some (pth 15)) none (.nil (tm 14)),
  .op (some (pth 16)) none (.fa 3 (tm 15)),
  .op (some (pth 17)) none (.load (tm 16)),
  .op (some (pth 18)) none (.mv (tm 1)),
  .op (some (pth 19)) none (.look (some .i64) nilp false (tm 17) (tm 18)),
  .op (some (pth 7)) none (.mv (tm 19))]
noncomputable def r_Ca_Get_5 : List CO := [
  .op (some (pth 20)) none (.mv (tm 7)),
  .op (some (pth 21)) none (.eqp true (binS Try.prog .neq ty_pcache_line) (tm 20) (.cst nilp))]
noncomputable def r_Ca_Get_6 : List CO := [
  .op (some (pth 22)) none (.mv (tm 0)),
  .call (some (pth 23)) none (.cst (.func fn_Ca_room [])) [(tm 22)],
  .op (some (pth 6)) none (.mv (tm 23))]
noncomputable def r_Ca_Get_7 : List CO := [
  .op (some (pth 24)) none (.mv (tm 6)),
  .op (some (pth 25)) none (.ne (binS Try.prog .neq ty_api_Errno) (tm 24) (.cst (iv 0)))]
noncomputable def r_Ca_Get_8 : List CO := [
  .op (some (pth 26)) none (.mv (tm 6)),
  .op (some (pth 4)) none (.mv (.cst nils)),
  .op (some (pth 5)) none (.mv (tm 26))]
noncomputable def r_Ca_Get_9 : List CO := [
  .op (some (pth 27)) none (.build [nils, (.b false), (iv 0)] []),
  .op (some (pth 28)) none (.box ty_cache_line (tm 27)),
  .op (some (pth 7)) none (.mv (tm 28))]
noncomputable def r_Ca_Get_10 : List CO := [
  .op (some (pth 30)) none (.mv (tm 7)),
  .op (some (pth 31)) none (.mv (tm 0)),
  .op (some (pth 32)) none (.nil (tm 31)),
  .op (some (pth 33)) none (.fa 0 (tm 32)),
  .op (some (pth 34)) none (.load (tm 33)),
  .op (some (pth 35)) none (.mv (tm 1)),
  .call (some (pth 36)) none (.cst (.func fn_Dev_Read [])) [(tm 34), (tm 35)],
  .op (some (pth 29)) none (.mv (tm 36)),
  .op (some (pth 37)) none (.ext 0 (tm 29)),
  .op (some (pth 38)) none (.ext 1 (tm 29)),
  .op (some (pth 39)) none (.nil (tm 30)),
  .op (some (pth 40)) none (.fa 0 (tm 39)),
  .op none none (.store 1 (tm 40) (tm 37)),
  .op (some (pth 6)) none (.mv (tm 38))]
noncomputable def r_Ca_Get_11 : List CO := [
  .op (some (pth 41)) none (.mv (tm 6)),
  .op (some (pth 42)) none (.ne (binS Try.prog .neq ty_api_Errno) (tm 41) (.cst (iv 0)))]
noncomputable def r_Ca_Get_12 : List CO := [
  .op (some (pth 43)) none (.mv (tm 6)),
  .op (some (pth 4)) none (.mv (.cst nils)),
  .op (some (pth 5)) none (.mv (tm 43))]
noncomputable def r_Ca_Get_13 : List CO := [
  .op (some (pth 44)) none (.mv (tm 0)),
  .op (some (pth 45)) none (.nil (tm 44)),
  .op (some (pth 46)) none (.fa 3 (tm 45)),
  .op (some (pth 47)) none (.load (tm 46)),
  .op (some (pth 48)) none (.mv (tm 1)),
  .op (some (pth 49)) none (.mv (tm 7)),
  .op none none (.mupd (some .i64) (tm 47) (tm 48) (tm 49))]
noncomputable def r_Ca_Get_14 : List CO := [
  .op (some (pth 50)) none (.mv (tm 7)),
  .op (some (pth 51)) none (.nil (tm 50)),
  .op (some (pth 52)) none (.fa 0 (tm 51)),
  .op (some (pth 53)) none (.load (tm 52)),
  .call (some (pth 54)) none (.cst (.func fn_CloneB [])) [(tm 53)],
  .op (some (pth 4)) none (.mv (tm 54)),
  .op (some (pth 5)) none (.mv (.cst (iv 0)))]
noncomputable def b_Ca_Get : Code := scopeOf (Try.prog.funcs[13]?)
noncomputable def cb_Ca_Get : CC := (.seq (.reg r_Ca_Get_1) (.seq (.seq (.reg r_Ca_Get_2) (.cond (tm 12) (.seq (.reg r_Ca_Get_3) .ret) .skip)) (.seq (.reg r_Ca_Get_4) (.seq (.seq (.reg r_Ca_Get_5) (.cond (tm 21) (.goto 0) .skip)) (.seq (.seq (.reg r_Ca_Get_6) (.seq (.reg r_Ca_Get_7) (.cond (tm 25) (.seq (.reg r_Ca_Get_8) .ret) .skip))) (.seq (.reg r_Ca_Get_9) (.seq (.seq (.reg r_Ca_Get_10) (.seq (.reg r_Ca_Get_11) (.cond (tm 42) (.seq (.reg r_Ca_Get_12) .ret) .skip))) (.seq (.reg r_Ca_Get_13) (.seq .skip (.seq (.reg r_Ca_Get_14) .ret))))))))))
theorem hb_Ca_Get : comp Try.prog b_Ca_Get = cb_Ca_Get := by kernel_rfl
noncomputable def cr_Ca_Get_0 : CC := (.seq .skip (.seq (.reg r_Ca_Get_14) .ret))
theorem hl_Ca_Get_0 : findLabel b_Ca_Get 0 = some (restOf b_Ca_Get 0) := by kernel_rfl
theorem hc_Ca_Get_0 : comp Try.prog (restOf b_Ca_Get 0) = cr_Ca_Get_0 := by kernel_rfl
noncomputable def c_Ca_Get : CC := (.seq (.reg r_Ca_Get_0) (.scope b_Ca_Get))
theorem at_Ca_Get : FnAt Try.prog tb fn_Ca_Get c_Ca_Get 55 [.tmp 4, .tmp 5] := fnAt_of tb_fs Try.func13 rfl (by kernel_rfl) (by kernel_rfl) rfl rfl
/-! 16: skerry/skerryref01.SameBytes -/
noncomputable def r_k1_SameBytes_0 : List CO := [
  .op (some (pth 4)) none (.mv (.cst (.b false)))]
noncomputable def r_k1_SameBytes_1 : List CO := [
  .op (some (pth 5)) none (.mv (tm 0)),
  .op (some (pth 6)) none (.b2s (tm 5)),
  .op (some (pth 7)) none (.mv (tm 1)),
  .op (some (pth 8)) none (.b2s (tm 7)),
  .op (some (pth 9)) none (.eq (binS Try.prog .eql ty_string) (tm 6) (tm 8)),
  .op (some (pth 4)) none (.mv (tm 9))]
noncomputable def c_k1_SameBytes : CC := (.seq (.reg r_k1_SameBytes_0) (.seq (.reg r_k1_SameBytes_1) .ret))
theorem at_k1_SameBytes : FnAt Try.prog tb fn_k1_SameBytes c_k1_SameBytes 10 [.tmp 4] := fnAt_of tb_fs Try.func16 rfl (by kernel_rfl) (by kernel_rfl) rfl rfl
end Go.Proofs.Ytmkbjcjlnidjiaa
