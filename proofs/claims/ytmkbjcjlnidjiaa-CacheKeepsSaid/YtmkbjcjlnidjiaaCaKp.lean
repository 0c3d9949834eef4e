import Derived.Test.YtmkbjcjlnidjiaaCaKk
/- Code of functions, made ready for the abstract machine (printed by pp2.lean, named.py, mkk.py). -/
namespace Go.Proofs.Ytmkbjcjlnidjiaa
open Go Go.Am
abbrev fn_l8_CacheKeeps : FuncId := 3
abbrev fn_k1_Roomy : FuncId := 10
abbrev fn_k1_SameInts : FuncId := 17
abbrev fn_k1_BytesApart : FuncId := 18
abbrev fn_k1_IntsApart : FuncId := 19
abbrev fn_k1_mark : FuncId := 38
/-! 3: skerry/skerrylaw08.CacheKeeps -/
noncomputable def r_l8_CacheKeeps_0 : List CO := [
  .op (some (pth 8)) none (.mv (.cst (.b false)))]
noncomputable def r_l8_CacheKeeps_1 : List CO := [
  .call (some (pth 28)) none (.cst (.func fn_l8_wakes [])) [],
  .op (some (pth 29)) none (.un .not (tm 28))]
noncomputable def r_l8_CacheKeeps_2 : List CO := [
  .op (some (pth 8)) none (.mv (.cst (.b false)))]
noncomputable def r_l8_CacheKeeps_3 : List CO := [
  .call (some (pth 31)) none (.cst (.func fn_device_New [])) [(.cst (iv 64)), (.cst (iv 8))],
  .op (some (pth 30)) none (.mv (tm 31)),
  .op (some (pth 32)) none (.ext 0 (tm 30)),
  .op (some (pth 33)) none (.ext 1 (tm 30)),
  .op (some (pth 9)) none (.mv (tm 32)),
  .op (some (pth 10)) none (.mv (tm 33))]
noncomputable def r_l8_CacheKeeps_4 : List CO := [
  .op (some (pth 34)) none (.bslice ty_int 0 0 [(iv 0)] []),
  .op (some (pth 35)) none (.mv (tm 2)),
  .op (some (pth 36)) none (.app ty_int 1 8 [(iv 0)] (tm 34) (tm 35)),
  .op (some (pth 11)) none (.mv (tm 36))]
noncomputable def r_l8_CacheKeeps_5 : List CO := [
  .op (some (pth 38)) none (.mv (tm 9)),
  .op (some (pth 39)) none (.mv (tm 11)),
  .call (some (pth 40)) none (.cst (.func fn_cache_New [])) [(tm 38), (.cst (iv 4)), (tm 39)],
  .op (some (pth 37)) none (.mv (tm 40)),
  .op (some (pth 41)) none (.ext 0 (tm 37)),
  .op (some (pth 42)) none (.ext 1 (tm 37)),
  .op (some (pth 12)) none (.mv (tm 41)),
  .op (some (pth 13)) none (.mv (tm 42))]
noncomputable def r_l8_CacheKeeps_6 : List CO := [
  .op (some (pth 43)) none (.mv (tm 12)),
  .op (some (pth 44)) none (.eqp false (binS Try.prog .eql ty_pcache_Cache) (tm 43) (.cst nilp)),
  .op (some (pth 45)) none (.mv (tm 44)),
  .op (some (pth 46)) (some (pth 45, false)) (.mv (tm 13)),
  .op (some (pth 47)) (some (pth 45, false)) (.ne (binS Try.prog .neq ty_api_Errno) (tm 46) (.cst (iv 0))),
  .op (some (pth 48)) none (.pick (tm 45) (.cst (.b true)) (tm 47))]
noncomputable def r_l8_CacheKeeps_7 : List CO := [
  .op (some (pth 8)) none (.mv (.cst (.b false)))]
noncomputable def r_l8_CacheKeeps_8 : List CO := [
  .op (some (pth 14)) none (.mv (.cst (iv 0)))]
noncomputable def r_l8_CacheKeeps_9 : List CO := [
  .op (some (pth 49)) none (.mv (tm 14)),
  .op (some (pth 50)) none (.mv (tm 11)),
  .op (some (pth 51)) none (.len false (tm 50)),
  .op (some (pth 52)) none (.lt (binS Try.prog .lss ty_int) (tm 49) (tm 51))]
noncomputable def r_l8_CacheKeeps_11 : List CO := [
  .op (some (pth 55)) none (.mv (tm 11)),
  .op (some (pth 56)) none (.mv (tm 14)),
  .op (some (pth 57)) none (.iaS 1 (tm 55) (tm 56)),
  .op none none (.store 1 (tm 57) (.cst (iv (-5))))]
noncomputable def r_l8_CacheKeeps_10 : List CO := [
  .op (some (pth 53)) none (.mv (tm 14)),
  .op (some (pth 54)) none (.add (binS Try.prog .add ty_int) (tm 53) (.cst (iv 1))),
  .op (some (pth 14)) none (.mv (tm 54))]
noncomputable def r_l8_CacheKeeps_12 : List CO := [
  .op (some (pth 58)) none (.mv (tm 0)),
  .call (some (pth 59)) none (.cst (.func fn_l8_full [])) [(tm 58)],
  .op (some (pth 15)) none (.mv (tm 59))]
noncomputable def r_l8_CacheKeeps_13 : List CO := [
  .op (some (pth 60)) none (.mv (tm 15)),
  .call (some (pth 61)) none (.cst (.func fn_k1_Roomy [])) [(tm 60)],
  .op (some (pth 16)) none (.mv (tm 61))]
noncomputable def r_l8_CacheKeeps_14 : List CO := [
  .op (some (pth 62)) none (.mv (tm 12)),
  .op (some (pth 63)) none (.mv (tm 16)),
  .call (some (pth 64)) none (.cst (.func fn_Ca_Put [])) [(tm 62), (.cst (iv 1)), (tm 63)],
  .op (some (pth 13)) none (.mv (tm 64))]
noncomputable def r_l8_CacheKeeps_15 : List CO := [
  .op (some (pth 17)) none (.mv (.cst (iv 0)))]
noncomputable def r_l8_CacheKeeps_16 : List CO := [
  .op (some (pth 65)) none (.mv (tm 17)),
  .op (some (pth 66)) none (.lt (binS Try.prog .lss ty_int) (tm 65) (.cst (iv 64)))]
noncomputable def r_l8_CacheKeeps_18 : List CO := [
  .op (some (pth 69)) none (.mv (tm 16)),
  .op (some (pth 70)) none (.mv (tm 17)),
  .op (some (pth 71)) none (.mv (tm 1)),
  .op (some (pth 72)) none (.iaS 1 (tm 69) (tm 70)),
  .op none none (.store 1 (tm 72) (tm 71))]
noncomputable def r_l8_CacheKeeps_17 : List CO := [
  .op (some (pth 67)) none (.mv (tm 17)),
  .op (some (pth 68)) none (.add (binS Try.prog .add ty_int) (tm 67) (.cst (iv 1))),
  .op (some (pth 17)) none (.mv (tm 68))]
noncomputable def r_l8_CacheKeeps_19 : List CO := [
  .op (some (pth 73)) none (.bslice ty_int 0 0 [(iv 0)] []),
  .op (some (pth 74)) none (.mv (tm 3)),
  .op (some (pth 75)) none (.app ty_int 1 8 [(iv 0)] (tm 73) (tm 74)),
  .op (some (pth 18)) none (.mv (tm 75))]
noncomputable def r_l8_CacheKeeps_20 : List CO := [
  .op (some (pth 76)) none (.mv (tm 12)),
  .op (some (pth 77)) none (.mv (tm 18)),
  .call (some (pth 78)) none (.cst (.func fn_Ca_Out [])) [(tm 76), (tm 77)]]
noncomputable def r_l8_CacheKeeps_21 : List CO := [
  .op (some (pth 80)) none (.mv (tm 12)),
  .call (some (pth 81)) none (.cst (.func fn_Ca_Get [])) [(tm 80), (.cst (iv 1))],
  .op (some (pth 79)) none (.mv (tm 81)),
  .op (some (pth 82)) none (.ext 0 (tm 79)),
  .op (some (pth 83)) none (.ext 1 (tm 79)),
  .op (some (pth 19)) none (.mv (tm 82)),
  .op (some (pth 20)) none (.mv (tm 83))]
noncomputable def r_l8_CacheKeeps_22 : List CO := [
  .op (some (pth 85)) none (.mv (tm 12)),
  .call (some (pth 86)) none (.cst (.func fn_Ca_Get [])) [(tm 85), (.cst (iv 1))],
  .op (some (pth 84)) none (.mv (tm 86)),
  .op (some (pth 87)) none (.ext 0 (tm 84)),
  .op (some (pth 88)) none (.ext 1 (tm 84)),
  .op (some (pth 21)) none (.mv (tm 87)),
  .op (some (pth 22)) none (.mv (tm 88))]
noncomputable def r_l8_CacheKeeps_23 : List CO := [
  .op (some (pth 89)) none (.mv (tm 12)),
  .call (some (pth 90)) none (.cst (.func fn_Ca_Held [])) [(tm 89)],
  .op (some (pth 91)) none (.mv (tm 12)),
  .call (some (pth 92)) none (.cst (.func fn_Ca_Dirty [])) [(tm 91)],
  .op (some (pth 23)) none (.mv (tm 90)),
  .op (some (pth 24)) none (.mv (tm 92))]
noncomputable def r_l8_CacheKeeps_24 : List CO := [
  .op (some (pth 93)) none (.mv (tm 12)),
  .call (some (pth 94)) none (.cst (.func fn_Ca_Held [])) [(tm 93)],
  .op (some (pth 95)) none (.mv (tm 12)),
  .call (some (pth 96)) none (.cst (.func fn_Ca_Dirty [])) [(tm 95)],
  .op (some (pth 25)) none (.mv (tm 94)),
  .op (some (pth 26)) none (.mv (tm 96))]
noncomputable def r_l8_CacheKeeps_25 : List CO := [
  .op (some (pth 97)) none (.mv (tm 13)),
  .op (some (pth 98)) none (.ne (binS Try.prog .neq ty_api_Errno) (tm 97) (.cst (iv 0))),
  .op (some (pth 99)) none (.mv (tm 98)),
  .op (some (pth 100)) (some (pth 99, false)) (.mv (tm 20)),
  .op (some (pth 101)) (some (pth 99, false)) (.ne (binS Try.prog .neq ty_api_Errno) (tm 100) (.cst (iv 0))),
  .op (some (pth 102)) none (.pick (tm 99) (.cst (.b true)) (tm 101)),
  .op (some (pth 103)) none (.mv (tm 102)),
  .op (some (pth 104)) (some (pth 103, false)) (.mv (tm 22)),
  .op (some (pth 105)) (some (pth 103, false)) (.ne (binS Try.prog .neq ty_api_Errno) (tm 104) (.cst (iv 0))),
  .op (some (pth 106)) none (.pick (tm 103) (.cst (.b true)) (tm 105)),
  .op (some (pth 107)) none (.mv (tm 106)),
  .op (some (pth 108)) (some (pth 107, false)) (.mv (tm 19)),
  .op (some (pth 109)) (some (pth 107, false)) (.mv (tm 15)),
  .call (some (pth 110)) (some (pth 107, false)) (.cst (.func fn_k1_SameBytes [])) [(tm 108), (tm 109)],
  .op (some (pth 111)) (some (pth 107, false)) (.un .not (tm 110)),
  .op (some (pth 112)) none (.pick (tm 107) (.cst (.b true)) (tm 111)),
  .op (some (pth 113)) none (.mv (tm 112)),
  .op (some (pth 114)) (some (pth 113, false)) (.mv (tm 18)),
  .op (some (pth 115)) (some (pth 113, false)) (.mv (tm 3)),
  .call (some (pth 116)) (some (pth 113, false)) (.cst (.func fn_k1_SameInts [])) [(tm 114), (tm 115)],
  .op (some (pth 117)) (some (pth 113, false)) (.un .not (tm 116)),
  .op (some (pth 118)) none (.pick (tm 113) (.cst (.b true)) (tm 117))]
noncomputable def r_l8_CacheKeeps_26 : List CO := [
  .op (some (pth 8)) none (.mv (.cst (.b false)))]
noncomputable def r_l8_CacheKeeps_27 : List CO := [
  .op (some (pth 119)) none (.mv (tm 19)),
  .op (some (pth 120)) none (.mv (tm 21)),
  .op (some (pth 121)) none (.mv (tm 16)),
  .op (some (pth 122)) none (.bslice ty_suint8 3 3 [nils] [(0, 1, (tm 119)), (1, 1, (tm 120)), (2, 1, (tm 121))]),
  .call (some (pth 123)) none (.cst (.func fn_k1_BytesApart [])) [(tm 122)],
  .op (some (pth 124)) none (.un .not (tm 123)),
  .op (some (pth 125)) none (.mv (tm 124)),
  .op (some (pth 126)) (some (pth 125, false)) (.mv (tm 23)),
  .op (some (pth 127)) (some (pth 125, false)) (.mv (tm 24)),
  .op (some (pth 128)) (some (pth 125, false)) (.mv (tm 25)),
  .op (some (pth 129)) (some (pth 125, false)) (.mv (tm 26)),
  .op (some (pth 130)) (some (pth 125, false)) (.mv (tm 18)),
  .op (some (pth 131)) (some (pth 125, false)) (.bslice ty_sint 5 5 [nils] [(0, 1, (tm 126)), (1, 1, (tm 127)), (2, 1, (tm 128)), (3, 1, (tm 129)), (4, 1, (tm 130))]),
  .call (some (pth 132)) (some (pth 125, false)) (.cst (.func fn_k1_IntsApart [])) [(tm 131)],
  .op (some (pth 133)) (some (pth 125, false)) (.un .not (tm 132)),
  .op (some (pth 134)) none (.pick (tm 125) (.cst (.b true)) (tm 133))]
noncomputable def r_l8_CacheKeeps_28 : List CO := [
  .op (some (pth 8)) none (.mv (.cst (.b false)))]
noncomputable def r_l8_CacheKeeps_29 : List CO := [
  .op (some (pth 136)) none (.mv (tm 12)),
  .call (some (pth 137)) none (.cst (.func fn_Ca_Get [])) [(tm 136), (.cst (iv 1))],
  .op (some (pth 135)) none (.mv (tm 137)),
  .op (some (pth 138)) none (.ext 0 (tm 135)),
  .op (some (pth 139)) none (.ext 1 (tm 135)),
  .op (some (pth 27)) none (.mv (tm 138)),
  .op (some (pth 13)) none (.mv (tm 139))]
noncomputable def r_l8_CacheKeeps_30 : List CO := [
  .op (some (pth 140)) none (.mv (tm 13)),
  .op (some (pth 141)) none (.eq (binS Try.prog .eql ty_api_Errno) (tm 140) (.cst (iv 0))),
  .op (some (pth 142)) none (.mv (tm 141)),
  .op (some (pth 143)) (some (pth 142, true)) (.mv (tm 27)),
  .op (some (pth 144)) (some (pth 142, true)) (.mv (tm 15)),
  .call (some (pth 145)) (some (pth 142, true)) (.cst (.func fn_k1_SameBytes [])) [(tm 143), (tm 144)],
  .op (some (pth 146)) none (.pick (tm 142) (tm 145) (.cst (.b false))),
  .op (some (pth 8)) none (.mv (tm 146))]
noncomputable def c_l8_CacheKeeps : CC := (.seq (.reg r_l8_CacheKeeps_0) (.seq (.seq (.reg r_l8_CacheKeeps_1) (.cond (tm 29) (.seq (.reg r_l8_CacheKeeps_2) .ret) .skip)) (.seq (.reg r_l8_CacheKeeps_3) (.seq (.reg r_l8_CacheKeeps_4) (.seq (.reg r_l8_CacheKeeps_5) (.seq (.seq (.reg r_l8_CacheKeeps_6) (.cond (tm 48) (.seq (.reg r_l8_CacheKeeps_7) .ret) .skip)) (.seq (.seq (.reg r_l8_CacheKeeps_8) (.block 0 (.loop (.seq (.seq (.reg r_l8_CacheKeeps_9) (.cond (tm 52) .skip (.exit 0))) (.seq (.block 1 (.reg r_l8_CacheKeeps_11)) (.reg r_l8_CacheKeeps_10)))))) (.seq (.reg r_l8_CacheKeeps_12) (.seq (.reg r_l8_CacheKeeps_13) (.seq (.reg r_l8_CacheKeeps_14) (.seq (.seq (.reg r_l8_CacheKeeps_15) (.block 2 (.loop (.seq (.seq (.reg r_l8_CacheKeeps_16) (.cond (tm 66) .skip (.exit 2))) (.seq (.block 3 (.reg r_l8_CacheKeeps_18)) (.reg r_l8_CacheKeeps_17)))))) (.seq (.reg r_l8_CacheKeeps_19) (.seq (.reg r_l8_CacheKeeps_20) (.seq (.reg r_l8_CacheKeeps_21) (.seq (.reg r_l8_CacheKeeps_22) (.seq (.reg r_l8_CacheKeeps_23) (.seq (.reg r_l8_CacheKeeps_24) (.seq (.seq (.reg r_l8_CacheKeeps_25) (.cond (tm 118) (.seq (.reg r_l8_CacheKeeps_26) .ret) .skip)) (.seq (.seq (.reg r_l8_CacheKeeps_27) (.cond (tm 134) (.seq (.reg r_l8_CacheKeeps_28) .ret) .skip)) (.seq (.reg r_l8_CacheKeeps_29) (.seq (.reg r_l8_CacheKeeps_30) .ret)))))))))))))))))))))
theorem at_l8_CacheKeeps : FnAt Try.prog tb fn_l8_CacheKeeps c_l8_CacheKeeps 147 [.tmp 8] := fnAt_of tb_fs Try.func3 rfl (by kernel_rfl) (by kernel_rfl) rfl rfl
/-! 10: skerry/skerryref01.Roomy -/
noncomputable def r_k1_Roomy_0 : List CO := [
  .op (some (pth 2)) none (.mv (.cst nils))]
noncomputable def r_k1_Roomy_1 : List CO := [
  .op (some (pth 6)) none (.mv (tm 0)),
  .op (some (pth 7)) none (.len false (tm 6)),
  .op (some (pth 8)) none (.mv (tm 0)),
  .op (some (pth 9)) none (.len false (tm 8)),
  .op (some (pth 10)) none (.add (binS Try.prog .add ty_int) (tm 9) (.cst (iv 4))),
  .op (some (pth 11)) none (.mksl ty_uint8 1 1 [(.y 0)] (tm 7) (tm 10)),
  .op (some (pth 3)) none (.mv (tm 11))]
noncomputable def r_k1_Roomy_2 : List CO := [
  .op (some (pth 12)) none (.mv (tm 3)),
  .op (some (pth 13)) none (.mv (tm 0)),
  .op (some (pth 14)) none (.copy 1 (tm 12) (tm 13))]
noncomputable def r_k1_Roomy_3 : List CO := [
  .op (some (pth 15)) none (.mv (tm 3)),
  .op (some (pth 16)) none (.mv (tm 0)),
  .op (some (pth 17)) none (.len false (tm 16)),
  .op (some (pth 18)) none (.add (binS Try.prog .add ty_int) (tm 17) (.cst (iv 4))),
  .op (some (pth 19)) none (.sl 1 false (tm 15) none (some (tm 18)) none),
  .op (some (pth 4)) none (.mv (tm 19))]
noncomputable def r_k1_Roomy_4 : List CO := [
  .op (some (pth 20)) none (.mv (tm 0)),
  .op (some (pth 21)) none (.len false (tm 20)),
  .op (some (pth 5)) none (.mv (tm 21))]
noncomputable def r_k1_Roomy_5 : List CO := [
  .op (some (pth 22)) none (.mv (tm 5)),
  .op (some (pth 23)) none (.mv (tm 4)),
  .op (some (pth 24)) none (.len false (tm 23)),
  .op (some (pth 25)) none (.lt (binS Try.prog .lss ty_int) (tm 22) (tm 24))]
noncomputable def r_k1_Roomy_7 : List CO := [
  .op (some (pth 28)) none (.mv (tm 4)),
  .op (some (pth 29)) none (.mv (tm 5)),
  .op (some (pth 30)) none (.iaS 1 (tm 28) (tm 29)),
  .op none none (.store 1 (tm 30) (.cst (.y 165)))]
noncomputable def r_k1_Roomy_6 : List CO := [
  .op (some (pth 26)) none (.mv (tm 5)),
  .op (some (pth 27)) none (.add (binS Try.prog .add ty_int) (tm 26) (.cst (iv 1))),
  .op (some (pth 5)) none (.mv (tm 27))]
noncomputable def r_k1_Roomy_8 : List CO := [
  .op (some (pth 31)) none (.mv (tm 3)),
  .op (some (pth 2)) none (.mv (tm 31))]
noncomputable def c_k1_Roomy : CC := (.seq (.reg r_k1_Roomy_0) (.seq (.reg r_k1_Roomy_1) (.seq (.reg r_k1_Roomy_2) (.seq (.reg r_k1_Roomy_3) (.seq (.seq (.reg r_k1_Roomy_4) (.block 0 (.loop (.seq (.seq (.reg r_k1_Roomy_5) (.cond (tm 25) .skip (.exit 0))) (.seq (.block 1 (.reg r_k1_Roomy_7)) (.reg r_k1_Roomy_6)))))) (.seq (.reg r_k1_Roomy_8) .ret))))))
theorem at_k1_Roomy : FnAt Try.prog tb fn_k1_Roomy c_k1_Roomy 32 [.tmp 2] := fnAt_of tb_fs Try.func10 rfl (by kernel_rfl) (by kernel_rfl) rfl rfl
/-! 17: skerry/skerryref01.SameInts -/
noncomputable def r_k1_SameInts_0 : List CO := [
  .op (some (pth 4)) none (.mv (.cst (.b false)))]
noncomputable def r_k1_SameInts_1 : List CO := [
  .op (some (pth 6)) none (.mv (tm 0)),
  .op (some (pth 7)) none (.len false (tm 6)),
  .op (some (pth 8)) none (.mv (tm 1)),
  .op (some (pth 9)) none (.len false (tm 8)),
  .op (some (pth 10)) none (.ne (binS Try.prog .neq ty_int) (tm 7) (tm 9))]
noncomputable def r_k1_SameInts_2 : List CO := [
  .op (some (pth 4)) none (.mv (.cst (.b false)))]
noncomputable def r_k1_SameInts_3 : List CO := [
  .op (some (pth 5)) none (.mv (.cst (iv 0)))]
noncomputable def r_k1_SameInts_4 : List CO := [
  .op (some (pth 11)) none (.mv (tm 5)),
  .op (some (pth 12)) none (.mv (tm 0)),
  .op (some (pth 13)) none (.len false (tm 12)),
  .op (some (pth 14)) none (.lt (binS Try.prog .lss ty_int) (tm 11) (tm 13))]
noncomputable def r_k1_SameInts_6 : List CO := [
  .op (some (pth 17)) none (.mv (tm 0)),
  .op (some (pth 18)) none (.mv (tm 5)),
  .op (some (pth 19)) none (.iaS 1 (tm 17) (tm 18)),
  .op (some (pth 20)) none (.load (tm 19)),
  .op (some (pth 21)) none (.mv (tm 1)),
  .op (some (pth 22)) none (.mv (tm 5)),
  .op (some (pth 23)) none (.iaS 1 (tm 21) (tm 22)),
  .op (some (pth 24)) none (.load (tm 23)),
  .op (some (pth 25)) none (.ne (binS Try.prog .neq ty_int) (tm 20) (tm 24))]
noncomputable def r_k1_SameInts_7 : List CO := [
  .op (some (pth 4)) none (.mv (.cst (.b false)))]
noncomputable def r_k1_SameInts_5 : List CO := [
  .op (some (pth 15)) none (.mv (tm 5)),
  .op (some (pth 16)) none (.add (binS Try.prog .add ty_int) (tm 15) (.cst (iv 1))),
  .op (some (pth 5)) none (.mv (tm 16))]
noncomputable def r_k1_SameInts_8 : List CO := [
  .op (some (pth 4)) none (.mv (.cst (.b true)))]
noncomputable def c_k1_SameInts : CC := (.seq (.reg r_k1_SameInts_0) (.seq (.seq (.reg r_k1_SameInts_1) (.cond (tm 10) (.seq (.reg r_k1_SameInts_2) .ret) .skip)) (.seq (.seq (.reg r_k1_SameInts_3) (.block 0 (.loop (.seq (.seq (.reg r_k1_SameInts_4) (.cond (tm 14) .skip (.exit 0))) (.seq (.block 1 (.seq (.drawn r_k1_SameInts_6 [(3, 0), (7, 0)]) (.cond (tm 25) (.seq (.reg r_k1_SameInts_7) .ret) .skip))) (.reg r_k1_SameInts_5)))))) (.seq (.reg r_k1_SameInts_8) .ret))))
theorem at_k1_SameInts : FnAt Try.prog tb fn_k1_SameInts c_k1_SameInts 26 [.tmp 4] := fnAt_of tb_fs Try.func17 rfl (by kernel_rfl) (by kernel_rfl) rfl rfl
/-! 18: skerry/skerryref01.BytesApart -/
noncomputable def r_k1_BytesApart_0 : List CO := [
  .op (some (pth 2)) none (.mv (.cst (.b false)))]
noncomputable def r_k1_BytesApart_1 : List CO := [
  .op (some (pth 3)) none (.mv (.cst (iv 0)))]
noncomputable def r_k1_BytesApart_2 : List CO := [
  .op (some (pth 4)) none (.mv (.cst (iv 0)))]
noncomputable def r_k1_BytesApart_3 : List CO := [
  .op (some (pth 15)) none (.mv (tm 4)),
  .op (some (pth 16)) none (.mv (tm 0)),
  .op (some (pth 17)) none (.len false (tm 16)),
  .op (some (pth 18)) none (.lt (binS Try.prog .lss ty_int) (tm 15) (tm 17))]
noncomputable def r_k1_BytesApart_5 : List CO := [
  .op (some (pth 5)) none (.mv (.cst (iv 0)))]
noncomputable def r_k1_BytesApart_6 : List CO := [
  .op (some (pth 21)) none (.mv (tm 5)),
  .op (some (pth 22)) none (.mv (tm 0)),
  .op (some (pth 23)) none (.mv (tm 4)),
  .op (some (pth 24)) none (.iaS 1 (tm 22) (tm 23)),
  .op (some (pth 25)) none (.load (tm 24)),
  .op (some (pth 26)) none (.len false (tm 25)),
  .op (some (pth 27)) none (.lt (binS Try.prog .lss ty_int) (tm 21) (tm 26))]
noncomputable def r_k1_BytesApart_8 : List CO := [
  .op (some (pth 30)) none (.mv (tm 0)),
  .op (some (pth 31)) none (.mv (tm 4)),
  .op (some (pth 32)) none (.iaS 1 (tm 30) (tm 31)),
  .op (some (pth 33)) none (.load (tm 32)),
  .op (some (pth 34)) none (.mv (tm 5)),
  .op (some (pth 35)) none (.mv (tm 3)),
  .call (some (pth 36)) none (.cst (.func fn_k1_mark [])) [(tm 35)],
  .op (some (pth 37)) none (.iaS 1 (tm 33) (tm 34)),
  .op none none (.store 1 (tm 37) (tm 36))]
noncomputable def r_k1_BytesApart_9 : List CO := [
  .op (some (pth 38)) none (.mv (tm 3)),
  .op (some (pth 39)) none (.add (binS Try.prog .add ty_int) (tm 38) (.cst (iv 1))),
  .op (some (pth 3)) none (.mv (tm 39))]
noncomputable def r_k1_BytesApart_7 : List CO := [
  .op (some (pth 28)) none (.mv (tm 5)),
  .op (some (pth 29)) none (.add (binS Try.prog .add ty_int) (tm 28) (.cst (iv 1))),
  .op (some (pth 5)) none (.mv (tm 29))]
noncomputable def r_k1_BytesApart_4 : List CO := [
  .op (some (pth 19)) none (.mv (tm 4)),
  .op (some (pth 20)) none (.add (binS Try.prog .add ty_int) (tm 19) (.cst (iv 1))),
  .op (some (pth 4)) none (.mv (tm 20))]
noncomputable def r_k1_BytesApart_10 : List CO := [
  .op (some (pth 6)) none (.mv (.cst nils))]
noncomputable def r_k1_BytesApart_11 : List CO := [
  .op (some (pth 40)) none (.mv (tm 3)),
  .op (some (pth 7)) none (.mv (tm 40))]
noncomputable def r_k1_BytesApart_12 : List CO := [
  .op (some (pth 8)) none (.mv (.cst (iv 0)))]
noncomputable def r_k1_BytesApart_13 : List CO := [
  .op (some (pth 41)) none (.mv (tm 8)),
  .op (some (pth 42)) none (.mv (tm 0)),
  .op (some (pth 43)) none (.len false (tm 42)),
  .op (some (pth 44)) none (.lt (binS Try.prog .lss ty_int) (tm 41) (tm 43))]
noncomputable def r_k1_BytesApart_15 : List CO := [
  .op (some (pth 47)) none (.mv (tm 0)),
  .op (some (pth 48)) none (.mv (tm 8)),
  .op (some (pth 49)) none (.iaS 1 (tm 47) (tm 48)),
  .op (some (pth 50)) none (.load (tm 49)),
  .op (some (pth 9)) none (.mv (tm 50))]
noncomputable def r_k1_BytesApart_16 : List CO := [
  .op (some (pth 10)) none (.mv (.cst (iv 0)))]
noncomputable def r_k1_BytesApart_17 : List CO := [
  .op (some (pth 51)) none (.mv (tm 10)),
  .op (some (pth 52)) none (.lt (binS Try.prog .lss ty_int) (tm 51) (.cst (iv 6)))]
noncomputable def r_k1_BytesApart_19 : List CO := [
  .op (some (pth 55)) none (.mv (tm 9)),
  .op (some (pth 56)) none (.mv (tm 7)),
  .call (some (pth 57)) none (.cst (.func fn_k1_mark [])) [(tm 56)],
  .op (some (pth 58)) none (.bslice ty_uint8 1 1 [(.y 0)] [(0, 1, (tm 57))]),
  .op (some (pth 59)) none (.app ty_uint8 1 1 [(.y 0)] (tm 55) (tm 58)),
  .op (some (pth 9)) none (.mv (tm 59))]
noncomputable def r_k1_BytesApart_20 : List CO := [
  .op (some (pth 60)) none (.mv (tm 7)),
  .op (some (pth 61)) none (.add (binS Try.prog .add ty_int) (tm 60) (.cst (iv 1))),
  .op (some (pth 7)) none (.mv (tm 61))]
noncomputable def r_k1_BytesApart_18 : List CO := [
  .op (some (pth 53)) none (.mv (tm 10)),
  .op (some (pth 54)) none (.add (binS Try.prog .add ty_int) (tm 53) (.cst (iv 1))),
  .op (some (pth 10)) none (.mv (tm 54))]
noncomputable def r_k1_BytesApart_21 : List CO := [
  .op (some (pth 62)) none (.mv (tm 6)),
  .op (some (pth 63)) none (.mv (tm 9)),
  .op (some (pth 64)) none (.bslice ty_suint8 1 1 [nils] [(0, 1, (tm 63))]),
  .op (some (pth 65)) none (.app ty_suint8 1 24 [nils] (tm 62) (tm 64)),
  .op (some (pth 6)) none (.mv (tm 65))]
noncomputable def r_k1_BytesApart_14 : List CO := [
  .op (some (pth 45)) none (.mv (tm 8)),
  .op (some (pth 46)) none (.add (binS Try.prog .add ty_int) (tm 45) (.cst (iv 1))),
  .op (some (pth 8)) none (.mv (tm 46))]
noncomputable def r_k1_BytesApart_22 : List CO := [
  .op (some (pth 3)) none (.mv (.cst (iv 0)))]
noncomputable def r_k1_BytesApart_23 : List CO := [
  .op (some (pth 11)) none (.mv (.cst (iv 0)))]
noncomputable def r_k1_BytesApart_24 : List CO := [
  .op (some (pth 66)) none (.mv (tm 11)),
  .op (some (pth 67)) none (.mv (tm 0)),
  .op (some (pth 68)) none (.len false (tm 67)),
  .op (some (pth 69)) none (.lt (binS Try.prog .lss ty_int) (tm 66) (tm 68))]
noncomputable def r_k1_BytesApart_26 : List CO := [
  .op (some (pth 12)) none (.mv (.cst (iv 0)))]
noncomputable def r_k1_BytesApart_27 : List CO := [
  .op (some (pth 72)) none (.mv (tm 12)),
  .op (some (pth 73)) none (.mv (tm 0)),
  .op (some (pth 74)) none (.mv (tm 11)),
  .op (some (pth 75)) none (.iaS 1 (tm 73) (tm 74)),
  .op (some (pth 76)) none (.load (tm 75)),
  .op (some (pth 77)) none (.len false (tm 76)),
  .op (some (pth 78)) none (.lt (binS Try.prog .lss ty_int) (tm 72) (tm 77))]
noncomputable def r_k1_BytesApart_29 : List CO := [
  .op (some (pth 81)) none (.mv (tm 0)),
  .op (some (pth 82)) none (.mv (tm 11)),
  .op (some (pth 83)) none (.iaS 1 (tm 81) (tm 82)),
  .op (some (pth 84)) none (.load (tm 83)),
  .op (some (pth 85)) none (.mv (tm 12)),
  .op (some (pth 86)) none (.iaS 1 (tm 84) (tm 85)),
  .op (some (pth 87)) none (.load (tm 86)),
  .op (some (pth 88)) none (.mv (tm 3)),
  .call (some (pth 89)) none (.cst (.func fn_k1_mark [])) [(tm 88)],
  .op (some (pth 90)) none (.ne (binS Try.prog .neq ty_uint8) (tm 87) (tm 89))]
noncomputable def r_k1_BytesApart_30 : List CO := [
  .op (some (pth 2)) none (.mv (.cst (.b false)))]
noncomputable def r_k1_BytesApart_31 : List CO := [
  .op (some (pth 91)) none (.mv (tm 3)),
  .op (some (pth 92)) none (.add (binS Try.prog .add ty_int) (tm 91) (.cst (iv 1))),
  .op (some (pth 3)) none (.mv (tm 92))]
noncomputable def r_k1_BytesApart_28 : List CO := [
  .op (some (pth 79)) none (.mv (tm 12)),
  .op (some (pth 80)) none (.add (binS Try.prog .add ty_int) (tm 79) (.cst (iv 1))),
  .op (some (pth 12)) none (.mv (tm 80))]
noncomputable def r_k1_BytesApart_25 : List CO := [
  .op (some (pth 70)) none (.mv (tm 11)),
  .op (some (pth 71)) none (.add (binS Try.prog .add ty_int) (tm 70) (.cst (iv 1))),
  .op (some (pth 11)) none (.mv (tm 71))]
noncomputable def r_k1_BytesApart_32 : List CO := [
  .op (some (pth 13)) none (.mv (.cst (iv 0)))]
noncomputable def r_k1_BytesApart_33 : List CO := [
  .op (some (pth 93)) none (.mv (tm 13)),
  .op (some (pth 94)) none (.mv (tm 6)),
  .op (some (pth 95)) none (.len false (tm 94)),
  .op (some (pth 96)) none (.lt (binS Try.prog .lss ty_int) (tm 93) (tm 95))]
noncomputable def r_k1_BytesApart_35 : List CO := [
  .op (some (pth 99)) none (.mv (tm 0)),
  .op (some (pth 100)) none (.mv (tm 13)),
  .op (some (pth 101)) none (.iaS 1 (tm 99) (tm 100)),
  .op (some (pth 102)) none (.load (tm 101)),
  .op (some (pth 103)) none (.len false (tm 102)),
  .op (some (pth 14)) none (.mv (tm 103))]
noncomputable def r_k1_BytesApart_36 : List CO := [
  .op (some (pth 104)) none (.mv (tm 14)),
  .op (some (pth 105)) none (.mv (tm 6)),
  .op (some (pth 106)) none (.mv (tm 13)),
  .op (some (pth 107)) none (.iaS 1 (tm 105) (tm 106)),
  .op (some (pth 108)) none (.load (tm 107)),
  .op (some (pth 109)) none (.len false (tm 108)),
  .op (some (pth 110)) none (.lt (binS Try.prog .lss ty_int) (tm 104) (tm 109))]
noncomputable def r_k1_BytesApart_38 : List CO := [
  .op (some (pth 113)) none (.mv (tm 6)),
  .op (some (pth 114)) none (.mv (tm 13)),
  .op (some (pth 115)) none (.iaS 1 (tm 113) (tm 114)),
  .op (some (pth 116)) none (.load (tm 115)),
  .op (some (pth 117)) none (.mv (tm 14)),
  .op (some (pth 118)) none (.iaS 1 (tm 116) (tm 117)),
  .op (some (pth 119)) none (.load (tm 118)),
  .op (some (pth 120)) none (.mv (tm 3)),
  .call (some (pth 121)) none (.cst (.func fn_k1_mark [])) [(tm 120)],
  .op (some (pth 122)) none (.ne (binS Try.prog .neq ty_uint8) (tm 119) (tm 121))]
noncomputable def r_k1_BytesApart_39 : List CO := [
  .op (some (pth 2)) none (.mv (.cst (.b false)))]
noncomputable def r_k1_BytesApart_40 : List CO := [
  .op (some (pth 123)) none (.mv (tm 3)),
  .op (some (pth 124)) none (.add (binS Try.prog .add ty_int) (tm 123) (.cst (iv 1))),
  .op (some (pth 3)) none (.mv (tm 124))]
noncomputable def r_k1_BytesApart_37 : List CO := [
  .op (some (pth 111)) none (.mv (tm 14)),
  .op (some (pth 112)) none (.add (binS Try.prog .add ty_int) (tm 111) (.cst (iv 1))),
  .op (some (pth 14)) none (.mv (tm 112))]
noncomputable def r_k1_BytesApart_34 : List CO := [
  .op (some (pth 97)) none (.mv (tm 13)),
  .op (some (pth 98)) none (.add (binS Try.prog .add ty_int) (tm 97) (.cst (iv 1))),
  .op (some (pth 13)) none (.mv (tm 98))]
noncomputable def r_k1_BytesApart_41 : List CO := [
  .op (some (pth 2)) none (.mv (.cst (.b true)))]
noncomputable def c_k1_BytesApart : CC := (.seq (.reg r_k1_BytesApart_0) (.seq (.reg r_k1_BytesApart_1) (.seq (.seq (.reg r_k1_BytesApart_2) (.block 0 (.loop (.seq (.seq (.reg r_k1_BytesApart_3) (.cond (tm 18) .skip (.exit 0))) (.seq (.block 1 (.seq (.reg r_k1_BytesApart_5) (.block 2 (.loop (.seq (.seq (.reg r_k1_BytesApart_6) (.cond (tm 27) .skip (.exit 2))) (.seq (.block 3 (.seq (.drawn r_k1_BytesApart_8 [(3, 0), (3, 7)]) (.reg r_k1_BytesApart_9))) (.reg r_k1_BytesApart_7))))))) (.reg r_k1_BytesApart_4)))))) (.seq (.reg r_k1_BytesApart_10) (.seq (.reg r_k1_BytesApart_11) (.seq (.seq (.reg r_k1_BytesApart_12) (.block 4 (.loop (.seq (.seq (.reg r_k1_BytesApart_13) (.cond (tm 44) .skip (.exit 4))) (.seq (.block 5 (.seq (.reg r_k1_BytesApart_15) (.seq (.seq (.reg r_k1_BytesApart_16) (.block 6 (.loop (.seq (.seq (.reg r_k1_BytesApart_17) (.cond (tm 52) .skip (.exit 6))) (.seq (.block 7 (.seq (.reg r_k1_BytesApart_19) (.reg r_k1_BytesApart_20))) (.reg r_k1_BytesApart_18)))))) (.reg r_k1_BytesApart_21)))) (.reg r_k1_BytesApart_14)))))) (.seq (.reg r_k1_BytesApart_22) (.seq (.seq (.reg r_k1_BytesApart_23) (.block 8 (.loop (.seq (.seq (.reg r_k1_BytesApart_24) (.cond (tm 69) .skip (.exit 8))) (.seq (.block 9 (.seq (.reg r_k1_BytesApart_26) (.block 10 (.loop (.seq (.seq (.reg r_k1_BytesApart_27) (.cond (tm 78) .skip (.exit 10))) (.seq (.block 11 (.seq (.seq (.drawn r_k1_BytesApart_29 [(3, 0), (3, 9), (6, 0), (6, 9)]) (.cond (tm 90) (.seq (.reg r_k1_BytesApart_30) .ret) .skip)) (.reg r_k1_BytesApart_31))) (.reg r_k1_BytesApart_28))))))) (.reg r_k1_BytesApart_25)))))) (.seq (.seq (.reg r_k1_BytesApart_32) (.block 12 (.loop (.seq (.seq (.reg r_k1_BytesApart_33) (.cond (tm 96) .skip (.exit 12))) (.seq (.block 13 (.seq (.reg r_k1_BytesApart_35) (.block 14 (.loop (.seq (.seq (.reg r_k1_BytesApart_36) (.cond (tm 110) .skip (.exit 14))) (.seq (.block 15 (.seq (.seq (.drawn r_k1_BytesApart_38 [(3, 0), (3, 9), (6, 0), (6, 9)]) (.cond (tm 122) (.seq (.reg r_k1_BytesApart_39) .ret) .skip)) (.reg r_k1_BytesApart_40))) (.reg r_k1_BytesApart_37))))))) (.reg r_k1_BytesApart_34)))))) (.seq (.reg r_k1_BytesApart_41) .ret))))))))))
theorem at_k1_BytesApart : FnAt Try.prog tb fn_k1_BytesApart c_k1_BytesApart 125 [.tmp 2] := fnAt_of tb_fs Try.func18 rfl (by kernel_rfl) (by kernel_rfl) rfl rfl
/-! 19: skerry/skerryref01.IntsApart -/
noncomputable def r_k1_IntsApart_0 : List CO := [
  .op (some (pth 2)) none (.mv (.cst (.b false)))]
noncomputable def r_k1_IntsApart_1 : List CO := [
  .op (some (pth 3)) none (.mv (.cst (iv 0)))]
noncomputable def r_k1_IntsApart_2 : List CO := [
  .op (some (pth 4)) none (.mv (.cst (iv 0)))]
noncomputable def r_k1_IntsApart_3 : List CO := [
  .op (some (pth 15)) none (.mv (tm 4)),
  .op (some (pth 16)) none (.mv (tm 0)),
  .op (some (pth 17)) none (.len false (tm 16)),
  .op (some (pth 18)) none (.lt (binS Try.prog .lss ty_int) (tm 15) (tm 17))]
noncomputable def r_k1_IntsApart_5 : List CO := [
  .op (some (pth 5)) none (.mv (.cst (iv 0)))]
noncomputable def r_k1_IntsApart_6 : List CO := [
  .op (some (pth 21)) none (.mv (tm 5)),
  .op (some (pth 22)) none (.mv (tm 0)),
  .op (some (pth 23)) none (.mv (tm 4)),
  .op (some (pth 24)) none (.iaS 1 (tm 22) (tm 23)),
  .op (some (pth 25)) none (.load (tm 24)),
  .op (some (pth 26)) none (.len false (tm 25)),
  .op (some (pth 27)) none (.lt (binS Try.prog .lss ty_int) (tm 21) (tm 26))]
noncomputable def r_k1_IntsApart_8 : List CO := [
  .op (some (pth 30)) none (.mv (tm 0)),
  .op (some (pth 31)) none (.mv (tm 4)),
  .op (some (pth 32)) none (.iaS 1 (tm 30) (tm 31)),
  .op (some (pth 33)) none (.load (tm 32)),
  .op (some (pth 34)) none (.mv (tm 5)),
  .op (some (pth 35)) none (.mv (tm 3)),
  .op (some (pth 36)) none (.iaS 1 (tm 33) (tm 34)),
  .op none none (.store 1 (tm 36) (tm 35))]
noncomputable def r_k1_IntsApart_9 : List CO := [
  .op (some (pth 37)) none (.mv (tm 3)),
  .op (some (pth 38)) none (.add (binS Try.prog .add ty_int) (tm 37) (.cst (iv 1))),
  .op (some (pth 3)) none (.mv (tm 38))]
noncomputable def r_k1_IntsApart_7 : List CO := [
  .op (some (pth 28)) none (.mv (tm 5)),
  .op (some (pth 29)) none (.add (binS Try.prog .add ty_int) (tm 28) (.cst (iv 1))),
  .op (some (pth 5)) none (.mv (tm 29))]
noncomputable def r_k1_IntsApart_4 : List CO := [
  .op (some (pth 19)) none (.mv (tm 4)),
  .op (some (pth 20)) none (.add (binS Try.prog .add ty_int) (tm 19) (.cst (iv 1))),
  .op (some (pth 4)) none (.mv (tm 20))]
noncomputable def r_k1_IntsApart_10 : List CO := [
  .op (some (pth 6)) none (.mv (.cst nils))]
noncomputable def r_k1_IntsApart_11 : List CO := [
  .op (some (pth 39)) none (.mv (tm 3)),
  .op (some (pth 7)) none (.mv (tm 39))]
noncomputable def r_k1_IntsApart_12 : List CO := [
  .op (some (pth 8)) none (.mv (.cst (iv 0)))]
noncomputable def r_k1_IntsApart_13 : List CO := [
  .op (some (pth 40)) none (.mv (tm 8)),
  .op (some (pth 41)) none (.mv (tm 0)),
  .op (some (pth 42)) none (.len false (tm 41)),
  .op (some (pth 43)) none (.lt (binS Try.prog .lss ty_int) (tm 40) (tm 42))]
noncomputable def r_k1_IntsApart_15 : List CO := [
  .op (some (pth 46)) none (.mv (tm 0)),
  .op (some (pth 47)) none (.mv (tm 8)),
  .op (some (pth 48)) none (.iaS 1 (tm 46) (tm 47)),
  .op (some (pth 49)) none (.load (tm 48)),
  .op (some (pth 9)) none (.mv (tm 49))]
noncomputable def r_k1_IntsApart_16 : List CO := [
  .op (some (pth 10)) none (.mv (.cst (iv 0)))]
noncomputable def r_k1_IntsApart_17 : List CO := [
  .op (some (pth 50)) none (.mv (tm 10)),
  .op (some (pth 51)) none (.lt (binS Try.prog .lss ty_int) (tm 50) (.cst (iv 6)))]
noncomputable def r_k1_IntsApart_19 : List CO := [
  .op (some (pth 54)) none (.mv (tm 9)),
  .op (some (pth 55)) none (.mv (tm 7)),
  .op (some (pth 56)) none (.bslice ty_int 1 1 [(iv 0)] [(0, 1, (tm 55))]),
  .op (some (pth 57)) none (.app ty_int 1 8 [(iv 0)] (tm 54) (tm 56)),
  .op (some (pth 9)) none (.mv (tm 57))]
noncomputable def r_k1_IntsApart_20 : List CO := [
  .op (some (pth 58)) none (.mv (tm 7)),
  .op (some (pth 59)) none (.add (binS Try.prog .add ty_int) (tm 58) (.cst (iv 1))),
  .op (some (pth 7)) none (.mv (tm 59))]
noncomputable def r_k1_IntsApart_18 : List CO := [
  .op (some (pth 52)) none (.mv (tm 10)),
  .op (some (pth 53)) none (.add (binS Try.prog .add ty_int) (tm 52) (.cst (iv 1))),
  .op (some (pth 10)) none (.mv (tm 53))]
noncomputable def r_k1_IntsApart_21 : List CO := [
  .op (some (pth 60)) none (.mv (tm 6)),
  .op (some (pth 61)) none (.mv (tm 9)),
  .op (some (pth 62)) none (.bslice ty_sint 1 1 [nils] [(0, 1, (tm 61))]),
  .op (some (pth 63)) none (.app ty_sint 1 24 [nils] (tm 60) (tm 62)),
  .op (some (pth 6)) none (.mv (tm 63))]
noncomputable def r_k1_IntsApart_14 : List CO := [
  .op (some (pth 44)) none (.mv (tm 8)),
  .op (some (pth 45)) none (.add (binS Try.prog .add ty_int) (tm 44) (.cst (iv 1))),
  .op (some (pth 8)) none (.mv (tm 45))]
noncomputable def r_k1_IntsApart_22 : List CO := [
  .op (some (pth 3)) none (.mv (.cst (iv 0)))]
noncomputable def r_k1_IntsApart_23 : List CO := [
  .op (some (pth 11)) none (.mv (.cst (iv 0)))]
noncomputable def r_k1_IntsApart_24 : List CO := [
  .op (some (pth 64)) none (.mv (tm 11)),
  .op (some (pth 65)) none (.mv (tm 0)),
  .op (some (pth 66)) none (.len false (tm 65)),
  .op (some (pth 67)) none (.lt (binS Try.prog .lss ty_int) (tm 64) (tm 66))]
noncomputable def r_k1_IntsApart_26 : List CO := [
  .op (some (pth 12)) none (.mv (.cst (iv 0)))]
noncomputable def r_k1_IntsApart_27 : List CO := [
  .op (some (pth 70)) none (.mv (tm 12)),
  .op (some (pth 71)) none (.mv (tm 0)),
  .op (some (pth 72)) none (.mv (tm 11)),
  .op (some (pth 73)) none (.iaS 1 (tm 71) (tm 72)),
  .op (some (pth 74)) none (.load (tm 73)),
  .op (some (pth 75)) none (.len false (tm 74)),
  .op (some (pth 76)) none (.lt (binS Try.prog .lss ty_int) (tm 70) (tm 75))]
noncomputable def r_k1_IntsApart_29 : List CO := [
  .op (some (pth 79)) none (.mv (tm 0)),
  .op (some (pth 80)) none (.mv (tm 11)),
  .op (some (pth 81)) none (.iaS 1 (tm 79) (tm 80)),
  .op (some (pth 82)) none (.load (tm 81)),
  .op (some (pth 83)) none (.mv (tm 12)),
  .op (some (pth 84)) none (.iaS 1 (tm 82) (tm 83)),
  .op (some (pth 85)) none (.load (tm 84)),
  .op (some (pth 86)) none (.mv (tm 3)),
  .op (some (pth 87)) none (.ne (binS Try.prog .neq ty_int) (tm 85) (tm 86))]
noncomputable def r_k1_IntsApart_30 : List CO := [
  .op (some (pth 2)) none (.mv (.cst (.b false)))]
noncomputable def r_k1_IntsApart_31 : List CO := [
  .op (some (pth 88)) none (.mv (tm 3)),
  .op (some (pth 89)) none (.add (binS Try.prog .add ty_int) (tm 88) (.cst (iv 1))),
  .op (some (pth 3)) none (.mv (tm 89))]
noncomputable def r_k1_IntsApart_28 : List CO := [
  .op (some (pth 77)) none (.mv (tm 12)),
  .op (some (pth 78)) none (.add (binS Try.prog .add ty_int) (tm 77) (.cst (iv 1))),
  .op (some (pth 12)) none (.mv (tm 78))]
noncomputable def r_k1_IntsApart_25 : List CO := [
  .op (some (pth 68)) none (.mv (tm 11)),
  .op (some (pth 69)) none (.add (binS Try.prog .add ty_int) (tm 68) (.cst (iv 1))),
  .op (some (pth 11)) none (.mv (tm 69))]
noncomputable def r_k1_IntsApart_32 : List CO := [
  .op (some (pth 13)) none (.mv (.cst (iv 0)))]
noncomputable def r_k1_IntsApart_33 : List CO := [
  .op (some (pth 90)) none (.mv (tm 13)),
  .op (some (pth 91)) none (.mv (tm 6)),
  .op (some (pth 92)) none (.len false (tm 91)),
  .op (some (pth 93)) none (.lt (binS Try.prog .lss ty_int) (tm 90) (tm 92))]
noncomputable def r_k1_IntsApart_35 : List CO := [
  .op (some (pth 96)) none (.mv (tm 0)),
  .op (some (pth 97)) none (.mv (tm 13)),
  .op (some (pth 98)) none (.iaS 1 (tm 96) (tm 97)),
  .op (some (pth 99)) none (.load (tm 98)),
  .op (some (pth 100)) none (.len false (tm 99)),
  .op (some (pth 14)) none (.mv (tm 100))]
noncomputable def r_k1_IntsApart_36 : List CO := [
  .op (some (pth 101)) none (.mv (tm 14)),
  .op (some (pth 102)) none (.mv (tm 6)),
  .op (some (pth 103)) none (.mv (tm 13)),
  .op (some (pth 104)) none (.iaS 1 (tm 102) (tm 103)),
  .op (some (pth 105)) none (.load (tm 104)),
  .op (some (pth 106)) none (.len false (tm 105)),
  .op (some (pth 107)) none (.lt (binS Try.prog .lss ty_int) (tm 101) (tm 106))]
noncomputable def r_k1_IntsApart_38 : List CO := [
  .op (some (pth 110)) none (.mv (tm 6)),
  .op (some (pth 111)) none (.mv (tm 13)),
  .op (some (pth 112)) none (.iaS 1 (tm 110) (tm 111)),
  .op (some (pth 113)) none (.load (tm 112)),
  .op (some (pth 114)) none (.mv (tm 14)),
  .op (some (pth 115)) none (.iaS 1 (tm 113) (tm 114)),
  .op (some (pth 116)) none (.load (tm 115)),
  .op (some (pth 117)) none (.mv (tm 3)),
  .op (some (pth 118)) none (.ne (binS Try.prog .neq ty_int) (tm 116) (tm 117))]
noncomputable def r_k1_IntsApart_39 : List CO := [
  .op (some (pth 2)) none (.mv (.cst (.b false)))]
noncomputable def r_k1_IntsApart_40 : List CO := [
  .op (some (pth 119)) none (.mv (tm 3)),
  .op (some (pth 120)) none (.add (binS Try.prog .add ty_int) (tm 119) (.cst (iv 1))),
  .op (some (pth 3)) none (.mv (tm 120))]
noncomputable def r_k1_IntsApart_37 : List CO := [
  .op (some (pth 108)) none (.mv (tm 14)),
  .op (some (pth 109)) none (.add (binS Try.prog .add ty_int) (tm 108) (.cst (iv 1))),
  .op (some (pth 14)) none (.mv (tm 109))]
noncomputable def r_k1_IntsApart_34 : List CO := [
  .op (some (pth 94)) none (.mv (tm 13)),
  .op (some (pth 95)) none (.add (binS Try.prog .add ty_int) (tm 94) (.cst (iv 1))),
  .op (some (pth 13)) none (.mv (tm 95))]
noncomputable def r_k1_IntsApart_41 : List CO := [
  .op (some (pth 2)) none (.mv (.cst (.b true)))]
noncomputable def c_k1_IntsApart : CC := (.seq (.reg r_k1_IntsApart_0) (.seq (.reg r_k1_IntsApart_1) (.seq (.seq (.reg r_k1_IntsApart_2) (.block 0 (.loop (.seq (.seq (.reg r_k1_IntsApart_3) (.cond (tm 18) .skip (.exit 0))) (.seq (.block 1 (.seq (.reg r_k1_IntsApart_5) (.block 2 (.loop (.seq (.seq (.reg r_k1_IntsApart_6) (.cond (tm 27) .skip (.exit 2))) (.seq (.block 3 (.seq (.reg r_k1_IntsApart_8) (.reg r_k1_IntsApart_9))) (.reg r_k1_IntsApart_7))))))) (.reg r_k1_IntsApart_4)))))) (.seq (.reg r_k1_IntsApart_10) (.seq (.reg r_k1_IntsApart_11) (.seq (.seq (.reg r_k1_IntsApart_12) (.block 4 (.loop (.seq (.seq (.reg r_k1_IntsApart_13) (.cond (tm 43) .skip (.exit 4))) (.seq (.block 5 (.seq (.reg r_k1_IntsApart_15) (.seq (.seq (.reg r_k1_IntsApart_16) (.block 6 (.loop (.seq (.seq (.reg r_k1_IntsApart_17) (.cond (tm 51) .skip (.exit 6))) (.seq (.block 7 (.seq (.reg r_k1_IntsApart_19) (.reg r_k1_IntsApart_20))) (.reg r_k1_IntsApart_18)))))) (.reg r_k1_IntsApart_21)))) (.reg r_k1_IntsApart_14)))))) (.seq (.reg r_k1_IntsApart_22) (.seq (.seq (.reg r_k1_IntsApart_23) (.block 8 (.loop (.seq (.seq (.reg r_k1_IntsApart_24) (.cond (tm 67) .skip (.exit 8))) (.seq (.block 9 (.seq (.reg r_k1_IntsApart_26) (.block 10 (.loop (.seq (.seq (.reg r_k1_IntsApart_27) (.cond (tm 76) .skip (.exit 10))) (.seq (.block 11 (.seq (.seq (.reg r_k1_IntsApart_29) (.cond (tm 87) (.seq (.reg r_k1_IntsApart_30) .ret) .skip)) (.reg r_k1_IntsApart_31))) (.reg r_k1_IntsApart_28))))))) (.reg r_k1_IntsApart_25)))))) (.seq (.seq (.reg r_k1_IntsApart_32) (.block 12 (.loop (.seq (.seq (.reg r_k1_IntsApart_33) (.cond (tm 93) .skip (.exit 12))) (.seq (.block 13 (.seq (.reg r_k1_IntsApart_35) (.block 14 (.loop (.seq (.seq (.reg r_k1_IntsApart_36) (.cond (tm 107) .skip (.exit 14))) (.seq (.block 15 (.seq (.seq (.reg r_k1_IntsApart_38) (.cond (tm 118) (.seq (.reg r_k1_IntsApart_39) .ret) .skip)) (.reg r_k1_IntsApart_40))) (.reg r_k1_IntsApart_37))))))) (.reg r_k1_IntsApart_34)))))) (.seq (.reg r_k1_IntsApart_41) .ret))))))))))
theorem at_k1_IntsApart : FnAt Try.prog tb fn_k1_IntsApart c_k1_IntsApart 121 [.tmp 2] := fnAt_of tb_fs Try.func19 rfl (by kernel_rfl) (by kernel_rfl) rfl rfl
/-! 38: skerry/skerryref01.mark -/
noncomputable def r_k1_mark_0 : List CO := [
  .op (some (pth 2)) none (.mv (.cst (.y 0)))]
noncomputable def r_k1_mark_1 : List CO := [
  .op (some (pth 3)) none (.mv (tm 0)),
  .op (some (pth 4)) none (.mul (binS Try.prog .mul ty_int) (tm 3) (.cst (iv 7))),
  .op (some (pth 5)) none (.mv (tm 0)),
  .op (some (pth 6)) none (.quo (binS Try.prog .quo ty_int) (tm 5) (.cst (iv 36))),
  .op (some (pth 7)) none (.add (binS Try.prog .add ty_int) (tm 4) (tm 6)),
  .op (some (pth 8)) none (.add (binS Try.prog .add ty_int) (tm 7) (.cst (iv 3))),
  .op (some (pth 9)) none (.convI .u8 (tm 8)),
  .op (some (pth 2)) none (.mv (tm 9))]
noncomputable def c_k1_mark : CC := (.seq (.reg r_k1_mark_0) (.seq (.reg r_k1_mark_1) .ret))
theorem at_k1_mark : FnAt Try.prog tb fn_k1_mark c_k1_mark 10 [.tmp 2] := fnAt_of tb_fs Try.func38 rfl (by kernel_rfl) (by kernel_rfl) rfl rfl
noncomputable def k_l8_CacheKeeps_4 : CC := (.seq (.reg r_l8_CacheKeeps_2) .ret)
noncomputable def k_l8_CacheKeeps_3 : CC := (.cond (tm 29) k_l8_CacheKeeps_4 .skip)
noncomputable def k_l8_CacheKeeps_2 : CC := (.seq (.reg r_l8_CacheKeeps_1) k_l8_CacheKeeps_3)
noncomputable def k_l8_CacheKeeps_11 : CC := (.seq (.reg r_l8_CacheKeeps_7) .ret)
noncomputable def k_l8_CacheKeeps_10 : CC := (.cond (tm 48) k_l8_CacheKeeps_11 .skip)
noncomputable def k_l8_CacheKeeps_9 : CC := (.seq (.reg r_l8_CacheKeeps_6) k_l8_CacheKeeps_10)
noncomputable def k_l8_CacheKeeps_18 : CC := (.cond (tm 52) .skip (.exit 0))
noncomputable def k_l8_CacheKeeps_17 : CC := (.seq (.reg r_l8_CacheKeeps_9) k_l8_CacheKeeps_18)
noncomputable def k_l8_CacheKeeps_21 : CC := (.reg r_l8_CacheKeeps_11)
noncomputable def k_l8_CacheKeeps_20 : CC := (.block 1 k_l8_CacheKeeps_21)
noncomputable def k_l8_CacheKeeps_22 : CC := (.reg r_l8_CacheKeeps_10)
noncomputable def k_l8_CacheKeeps_19 : CC := (.seq k_l8_CacheKeeps_20 k_l8_CacheKeeps_22)
noncomputable def k_l8_CacheKeeps_16 : CC := (.seq k_l8_CacheKeeps_17 k_l8_CacheKeeps_19)
noncomputable def k_l8_CacheKeeps_15 : CC := (.loop k_l8_CacheKeeps_16)
noncomputable def k_l8_CacheKeeps_14 : CC := (.block 0 k_l8_CacheKeeps_15)
noncomputable def k_l8_CacheKeeps_13 : CC := (.seq (.reg r_l8_CacheKeeps_8) k_l8_CacheKeeps_14)
noncomputable def k_l8_CacheKeeps_32 : CC := (.cond (tm 66) .skip (.exit 2))
noncomputable def k_l8_CacheKeeps_31 : CC := (.seq (.reg r_l8_CacheKeeps_16) k_l8_CacheKeeps_32)
noncomputable def k_l8_CacheKeeps_35 : CC := (.reg r_l8_CacheKeeps_18)
noncomputable def k_l8_CacheKeeps_34 : CC := (.block 3 k_l8_CacheKeeps_35)
noncomputable def k_l8_CacheKeeps_36 : CC := (.reg r_l8_CacheKeeps_17)
noncomputable def k_l8_CacheKeeps_33 : CC := (.seq k_l8_CacheKeeps_34 k_l8_CacheKeeps_36)
noncomputable def k_l8_CacheKeeps_30 : CC := (.seq k_l8_CacheKeeps_31 k_l8_CacheKeeps_33)
noncomputable def k_l8_CacheKeeps_29 : CC := (.loop k_l8_CacheKeeps_30)
noncomputable def k_l8_CacheKeeps_28 : CC := (.block 2 k_l8_CacheKeeps_29)
noncomputable def k_l8_CacheKeeps_27 : CC := (.seq (.reg r_l8_CacheKeeps_15) k_l8_CacheKeeps_28)
noncomputable def k_l8_CacheKeeps_46 : CC := (.seq (.reg r_l8_CacheKeeps_26) .ret)
noncomputable def k_l8_CacheKeeps_45 : CC := (.cond (tm 118) k_l8_CacheKeeps_46 .skip)
noncomputable def k_l8_CacheKeeps_44 : CC := (.seq (.reg r_l8_CacheKeeps_25) k_l8_CacheKeeps_45)
noncomputable def k_l8_CacheKeeps_50 : CC := (.seq (.reg r_l8_CacheKeeps_28) .ret)
noncomputable def k_l8_CacheKeeps_49 : CC := (.cond (tm 134) k_l8_CacheKeeps_50 .skip)
noncomputable def k_l8_CacheKeeps_48 : CC := (.seq (.reg r_l8_CacheKeeps_27) k_l8_CacheKeeps_49)
noncomputable def k_l8_CacheKeeps_52 : CC := (.seq (.reg r_l8_CacheKeeps_30) .ret)
noncomputable def k_l8_CacheKeeps_51 : CC := (.seq (.reg r_l8_CacheKeeps_29) k_l8_CacheKeeps_52)
noncomputable def k_l8_CacheKeeps_47 : CC := (.seq k_l8_CacheKeeps_48 k_l8_CacheKeeps_51)
noncomputable def k_l8_CacheKeeps_43 : CC := (.seq k_l8_CacheKeeps_44 k_l8_CacheKeeps_47)
noncomputable def k_l8_CacheKeeps_42 : CC := (.seq (.reg r_l8_CacheKeeps_24) k_l8_CacheKeeps_43)
noncomputable def k_l8_CacheKeeps_41 : CC := (.seq (.reg r_l8_CacheKeeps_23) k_l8_CacheKeeps_42)
noncomputable def k_l8_CacheKeeps_40 : CC := (.seq (.reg r_l8_CacheKeeps_22) k_l8_CacheKeeps_41)
noncomputable def k_l8_CacheKeeps_39 : CC := (.seq (.reg r_l8_CacheKeeps_21) k_l8_CacheKeeps_40)
noncomputable def k_l8_CacheKeeps_38 : CC := (.seq (.reg r_l8_CacheKeeps_20) k_l8_CacheKeeps_39)
noncomputable def k_l8_CacheKeeps_37 : CC := (.seq (.reg r_l8_CacheKeeps_19) k_l8_CacheKeeps_38)
noncomputable def k_l8_CacheKeeps_26 : CC := (.seq k_l8_CacheKeeps_27 k_l8_CacheKeeps_37)
noncomputable def k_l8_CacheKeeps_25 : CC := (.seq (.reg r_l8_CacheKeeps_14) k_l8_CacheKeeps_26)
noncomputable def k_l8_CacheKeeps_24 : CC := (.seq (.reg r_l8_CacheKeeps_13) k_l8_CacheKeeps_25)
noncomputable def k_l8_CacheKeeps_23 : CC := (.seq (.reg r_l8_CacheKeeps_12) k_l8_CacheKeeps_24)
noncomputable def k_l8_CacheKeeps_12 : CC := (.seq k_l8_CacheKeeps_13 k_l8_CacheKeeps_23)
noncomputable def k_l8_CacheKeeps_8 : CC := (.seq k_l8_CacheKeeps_9 k_l8_CacheKeeps_12)
noncomputable def k_l8_CacheKeeps_7 : CC := (.seq (.reg r_l8_CacheKeeps_5) k_l8_CacheKeeps_8)
noncomputable def k_l8_CacheKeeps_6 : CC := (.seq (.reg r_l8_CacheKeeps_4) k_l8_CacheKeeps_7)
noncomputable def k_l8_CacheKeeps_5 : CC := (.seq (.reg r_l8_CacheKeeps_3) k_l8_CacheKeeps_6)
noncomputable def k_l8_CacheKeeps_1 : CC := (.seq k_l8_CacheKeeps_2 k_l8_CacheKeeps_5)
theorem o_l8_CacheKeeps : (∀ Q fr m, GX Try.prog tb k_l8_CacheKeeps_4 Q fr m = GX Try.prog tb (.seq (.reg r_l8_CacheKeeps_2) .ret) Q fr m) ∧
  (∀ Q fr m, GX Try.prog tb k_l8_CacheKeeps_3 Q fr m = GX Try.prog tb (.cond (tm 29) k_l8_CacheKeeps_4 .skip) Q fr m) ∧
  (∀ Q fr m, GX Try.prog tb k_l8_CacheKeeps_2 Q fr m = GX Try.prog tb (.seq (.reg r_l8_CacheKeeps_1) k_l8_CacheKeeps_3) Q fr m) ∧
  (∀ Q fr m, GX Try.prog tb k_l8_CacheKeeps_11 Q fr m = GX Try.prog tb (.seq (.reg r_l8_CacheKeeps_7) .ret) Q fr m) ∧
  (∀ Q fr m, GX Try.prog tb k_l8_CacheKeeps_10 Q fr m = GX Try.prog tb (.cond (tm 48) k_l8_CacheKeeps_11 .skip) Q fr m) ∧
  (∀ Q fr m, GX Try.prog tb k_l8_CacheKeeps_9 Q fr m = GX Try.prog tb (.seq (.reg r_l8_CacheKeeps_6) k_l8_CacheKeeps_10) Q fr m) ∧
  (∀ Q fr m, GX Try.prog tb k_l8_CacheKeeps_18 Q fr m = GX Try.prog tb (.cond (tm 52) .skip (.exit 0)) Q fr m) ∧
  (∀ Q fr m, GX Try.prog tb k_l8_CacheKeeps_17 Q fr m = GX Try.prog tb (.seq (.reg r_l8_CacheKeeps_9) k_l8_CacheKeeps_18) Q fr m) ∧
  (∀ Q fr m, GX Try.prog tb k_l8_CacheKeeps_21 Q fr m = GX Try.prog tb (.reg r_l8_CacheKeeps_11) Q fr m) ∧
  (∀ Q fr m, GX Try.prog tb k_l8_CacheKeeps_20 Q fr m = GX Try.prog tb (.block 1 k_l8_CacheKeeps_21) Q fr m) ∧
  (∀ Q fr m, GX Try.prog tb k_l8_CacheKeeps_22 Q fr m = GX Try.prog tb (.reg r_l8_CacheKeeps_10) Q fr m) ∧
  (∀ Q fr m, GX Try.prog tb k_l8_CacheKeeps_19 Q fr m = GX Try.prog tb (.seq k_l8_CacheKeeps_20 k_l8_CacheKeeps_22) Q fr m) ∧
  (∀ Q fr m, GX Try.prog tb k_l8_CacheKeeps_16 Q fr m = GX Try.prog tb (.seq k_l8_CacheKeeps_17 k_l8_CacheKeeps_19) Q fr m) ∧
  (∀ Q fr m, GX Try.prog tb k_l8_CacheKeeps_15 Q fr m = GX Try.prog tb (.loop k_l8_CacheKeeps_16) Q fr m) ∧
  (∀ Q fr m, GX Try.prog tb k_l8_CacheKeeps_14 Q fr m = GX Try.prog tb (.block 0 k_l8_CacheKeeps_15) Q fr m) ∧
  (∀ Q fr m, GX Try.prog tb k_l8_CacheKeeps_13 Q fr m = GX Try.prog tb (.seq (.reg r_l8_CacheKeeps_8) k_l8_CacheKeeps_14) Q fr m) ∧
  (∀ Q fr m, GX Try.prog tb k_l8_CacheKeeps_32 Q fr m = GX Try.prog tb (.cond (tm 66) .skip (.exit 2)) Q fr m) ∧
  (∀ Q fr m, GX Try.prog tb k_l8_CacheKeeps_31 Q fr m = GX Try.prog tb (.seq (.reg r_l8_CacheKeeps_16) k_l8_CacheKeeps_32) Q fr m) ∧
  (∀ Q fr m, GX Try.prog tb k_l8_CacheKeeps_35 Q fr m = GX Try.prog tb (.reg r_l8_CacheKeeps_18) Q fr m) ∧
  (∀ Q fr m, GX Try.prog tb k_l8_CacheKeeps_34 Q fr m = GX Try.prog tb (.block 3 k_l8_CacheKeeps_35) Q fr m) ∧
  (∀ Q fr m, GX Try.prog tb k_l8_CacheKeeps_36 Q fr m = GX Try.prog tb (.reg r_l8_CacheKeeps_17) Q fr m) ∧
  (∀ Q fr m, GX Try.prog tb k_l8_CacheKeeps_33 Q fr m = GX Try.prog tb (.seq k_l8_CacheKeeps_34 k_l8_CacheKeeps_36) Q fr m) ∧
  (∀ Q fr m, GX Try.prog tb k_l8_CacheKeeps_30 Q fr m = GX Try.prog tb (.seq k_l8_CacheKeeps_31 k_l8_CacheKeeps_33) Q fr m) ∧
  (∀ Q fr m, GX Try.prog tb k_l8_CacheKeeps_29 Q fr m = GX Try.prog tb (.loop k_l8_CacheKeeps_30) Q fr m) ∧
  (∀ Q fr m, GX Try.prog tb k_l8_CacheKeeps_28 Q fr m = GX Try.prog tb (.block 2 k_l8_CacheKeeps_29) Q fr m) ∧
  (∀ Q fr m, GX Try.prog tb k_l8_CacheKeeps_27 Q fr m = GX Try.prog tb (.seq (.reg r_l8_CacheKeeps_15) k_l8_CacheKeeps_28) Q fr m) ∧
  (∀ Q fr m, GX Try.prog tb k_l8_CacheKeeps_46 Q fr m = GX Try.prog tb (.seq (.reg r_l8_CacheKeeps_26) .ret) Q fr m) ∧
  (∀ Q fr m, GX Try.prog tb k_l8_CacheKeeps_45 Q fr m = GX Try.prog tb (.cond (tm 118) k_l8_CacheKeeps_46 .skip) Q fr m) ∧
  (∀ Q fr m, GX Try.prog tb k_l8_CacheKeeps_44 Q fr m = GX Try.prog tb (.seq (.reg r_l8_CacheKeeps_25) k_l8_CacheKeeps_45) Q fr m) ∧
  (∀ Q fr m, GX Try.prog tb k_l8_CacheKeeps_50 Q fr m = GX Try.prog tb (.seq (.reg r_l8_CacheKeeps_28) .ret) Q fr m) ∧
  (∀ Q fr m, GX Try.prog tb k_l8_CacheKeeps_49 Q fr m = GX Try.prog tb (.cond (tm 134) k_l8_CacheKeeps_50 .skip) Q fr m) ∧
  (∀ Q fr m, GX Try.prog tb k_l8_CacheKeeps_48 Q fr m = GX Try.prog tb (.seq (.reg r_l8_CacheKeeps_27) k_l8_CacheKeeps_49) Q fr m) ∧
  (∀ Q fr m, GX Try.prog tb k_l8_CacheKeeps_52 Q fr m = GX Try.prog tb (.seq (.reg r_l8_CacheKeeps_30) .ret) Q fr m) ∧
  (∀ Q fr m, GX Try.prog tb k_l8_CacheKeeps_51 Q fr m = GX Try.prog tb (.seq (.reg r_l8_CacheKeeps_29) k_l8_CacheKeeps_52) Q fr m) ∧
  (∀ Q fr m, GX Try.prog tb k_l8_CacheKeeps_47 Q fr m = GX Try.prog tb (.seq k_l8_CacheKeeps_48 k_l8_CacheKeeps_51) Q fr m) ∧
  (∀ Q fr m, GX Try.prog tb k_l8_CacheKeeps_43 Q fr m = GX Try.prog tb (.seq k_l8_CacheKeeps_44 k_l8_CacheKeeps_47) Q fr m) ∧
  (∀ Q fr m, GX Try.prog tb k_l8_CacheKeeps_42 Q fr m = GX Try.prog tb (.seq (.reg r_l8_CacheKeeps_24) k_l8_CacheKeeps_43) Q fr m) ∧
  (∀ Q fr m, GX Try.prog tb k_l8_CacheKeeps_41 Q fr m = GX Try.prog tb (.seq (.reg r_l8_CacheKeeps_23) k_l8_CacheKeeps_42) Q fr m) ∧
  (∀ Q fr m, GX Try.prog tb k_l8_CacheKeeps_40 Q fr m = GX Try.prog tb (.seq (.reg r_l8_CacheKeeps_22) k_l8_CacheKeeps_41) Q fr m) ∧
  (∀ Q fr m, GX Try.prog tb k_l8_CacheKeeps_39 Q fr m = GX Try.prog tb (.seq (.reg r_l8_CacheKeeps_21) k_l8_CacheKeeps_40) Q fr m) ∧
  (∀ Q fr m, GX Try.prog tb k_l8_CacheKeeps_38 Q fr m = GX Try.prog tb (.seq (.reg r_l8_CacheKeeps_20) k_l8_CacheKeeps_39) Q fr m) ∧
  (∀ Q fr m, GX Try.prog tb k_l8_CacheKeeps_37 Q fr m = GX Try.prog tb (.seq (.reg r_l8_CacheKeeps_19) k_l8_CacheKeeps_38) Q fr m) ∧
  (∀ Q fr m, GX Try.prog tb k_l8_CacheKeeps_26 Q fr m = GX Try.prog tb (.seq k_l8_CacheKeeps_27 k_l8_CacheKeeps_37) Q fr m) ∧
  (∀ Q fr m, GX Try.prog tb k_l8_CacheKeeps_25 Q fr m = GX Try.prog tb (.seq (.reg r_l8_CacheKeeps_14) k_l8_CacheKeeps_26) Q fr m) ∧
  (∀ Q fr m, GX Try.prog tb k_l8_CacheKeeps_24 Q fr m = GX Try.prog tb (.seq (.reg r_l8_CacheKeeps_13) k_l8_CacheKeeps_25) Q fr m) ∧
  (∀ Q fr m, GX Try.prog tb k_l8_CacheKeeps_23 Q fr m = GX Try.prog tb (.seq (.reg r_l8_CacheKeeps_12) k_l8_CacheKeeps_24) Q fr m) ∧
  (∀ Q fr m, GX Try.prog tb k_l8_CacheKeeps_12 Q fr m = GX Try.prog tb (.seq k_l8_CacheKeeps_13 k_l8_CacheKeeps_23) Q fr m) ∧
  (∀ Q fr m, GX Try.prog tb k_l8_CacheKeeps_8 Q fr m = GX Try.prog tb (.seq k_l8_CacheKeeps_9 k_l8_CacheKeeps_12) Q fr m) ∧
  (∀ Q fr m, GX Try.prog tb k_l8_CacheKeeps_7 Q fr m = GX Try.prog tb (.seq (.reg r_l8_CacheKeeps_5) k_l8_CacheKeeps_8) Q fr m) ∧
  (∀ Q fr m, GX Try.prog tb k_l8_CacheKeeps_6 Q fr m = GX Try.prog tb (.seq (.reg r_l8_CacheKeeps_4) k_l8_CacheKeeps_7) Q fr m) ∧
  (∀ Q fr m, GX Try.prog tb k_l8_CacheKeeps_5 Q fr m = GX Try.prog tb (.seq (.reg r_l8_CacheKeeps_3) k_l8_CacheKeeps_6) Q fr m) ∧
  (∀ Q fr m, GX Try.prog tb k_l8_CacheKeeps_1 Q fr m = GX Try.prog tb (.seq k_l8_CacheKeeps_2 k_l8_CacheKeeps_5) Q fr m) ∧
  (∀ Q fr m, GX Try.prog tb c_l8_CacheKeeps Q fr m = GX Try.prog tb (.seq (.reg r_l8_CacheKeeps_0) k_l8_CacheKeeps_1) Q fr m) := ⟨fun _ _ _ => rfl, fun _ _ _ => rfl, fun _ _ _ => rfl, fun _ _ _ => rfl, fun _ _ _ => rfl, fun _ _ _ => rfl, fun _ _ _ => rfl, fun _ _ _ => rfl, fun _ _ _ => rfl, fun _ _ _ => rfl, fun _ _ _ => rfl, fun _ _ _ => rfl, fun _ _ _ => rfl, fun _ _ _ => rfl, fun _ _ _ => rfl, fun _ _ _ => rfl, fun _ _ _ => rfl, fun _ _ _ => rfl, fun _ _ _ => rfl, fun _ _ _ => rfl, fun _ _ _ => rfl, fun _ _ _ => rfl, fun _ _ _ => rfl, fun _ _ _ => rfl, fun _ _ _ => rfl, fun _ _ _ => rfl, fun _ _ _ => rfl, fun _ _ _ => rfl, fun _ _ _ => rfl, fun _ _ _ => rfl, fun _ _ _ => rfl, fun _ _ _ => rfl, fun _ _ _ => rfl, fun _ _ _ => rfl, fun _ _ _ => rfl, fun _ _ _ => rfl, fun _ _ _ => rfl, fun _ _ _ => rfl, fun _ _ _ => rfl, fun _ _ _ => rfl, fun _ _ _ => rfl, fun _ _ _ => rfl, fun _ _ _ => rfl, fun _ _ _ => rfl, fun _ _ _ => rfl, fun _ _ _ => rfl, fun _ _ _ => rfl, fun _ _ _ => rfl, fun _ _ _ => rfl, fun _ _ _ => rfl, fun _ _ _ => rfl, fun _ _ _ => rfl, fun _ _ _ => rfl⟩
noncomputable def k_k1_Roomy_10 : CC := (.cond (tm 25) .skip (.exit 0))
noncomputable def k_k1_Roomy_9 : CC := (.seq (.reg r_k1_Roomy_5) k_k1_Roomy_10)
noncomputable def k_k1_Roomy_13 : CC := (.reg r_k1_Roomy_7)
noncomputable def k_k1_Roomy_12 : CC := (.block 1 k_k1_Roomy_13)
noncomputable def k_k1_Roomy_14 : CC := (.reg r_k1_Roomy_6)
noncomputable def k_k1_Roomy_11 : CC := (.seq k_k1_Roomy_12 k_k1_Roomy_14)
noncomputable def k_k1_Roomy_8 : CC := (.seq k_k1_Roomy_9 k_k1_Roomy_11)
noncomputable def k_k1_Roomy_7 : CC := (.loop k_k1_Roomy_8)
noncomputable def k_k1_Roomy_6 : CC := (.block 0 k_k1_Roomy_7)
noncomputable def k_k1_Roomy_5 : CC := (.seq (.reg r_k1_Roomy_4) k_k1_Roomy_6)
noncomputable def k_k1_Roomy_15 : CC := (.seq (.reg r_k1_Roomy_8) .ret)
noncomputable def k_k1_Roomy_4 : CC := (.seq k_k1_Roomy_5 k_k1_Roomy_15)
noncomputable def k_k1_Roomy_3 : CC := (.seq (.reg r_k1_Roomy_3) k_k1_Roomy_4)
noncomputable def k_k1_Roomy_2 : CC := (.seq (.reg r_k1_Roomy_2) k_k1_Roomy_3)
noncomputable def k_k1_Roomy_1 : CC := (.seq (.reg r_k1_Roomy_1) k_k1_Roomy_2)
theorem o_k1_Roomy : (∀ Q fr m, GX Try.prog tb k_k1_Roomy_10 Q fr m = GX Try.prog tb (.cond (tm 25) .skip (.exit 0)) Q fr m) ∧
  (∀ Q fr m, GX Try.prog tb k_k1_Roomy_9 Q fr m = GX Try.prog tb (.seq (.reg r_k1_Roomy_5) k_k1_Roomy_10) Q fr m) ∧
  (∀ Q fr m, GX Try.prog tb k_k1_Roomy_13 Q fr m = GX Try.prog tb (.reg r_k1_Roomy_7) Q fr m) ∧
  (∀ Q fr m, GX Try.prog tb k_k1_Roomy_12 Q fr m = GX Try.prog tb (.block 1 k_k1_Roomy_13) Q fr m) ∧
  (∀ Q fr m, GX Try.prog tb k_k1_Roomy_14 Q fr m = GX Try.prog tb (.reg r_k1_Roomy_6) Q fr m) ∧
  (∀ Q fr m, GX Try.prog tb k_k1_Roomy_11 Q fr m = GX Try.prog tb (.seq k_k1_Roomy_12 k_k1_Roomy_14) Q fr m) ∧
  (∀ Q fr m, GX Try.prog tb k_k1_Roomy_8 Q fr m = GX Try.prog tb (.seq k_k1_Roomy_9 k_k1_Roomy_11) Q fr m) ∧
  (∀ Q fr m, GX Try.prog tb k_k1_Roomy_7 Q fr m = GX Try.prog tb (.loop k_k1_Roomy_8) Q fr m) ∧
  (∀ Q fr m, GX Try.prog tb k_k1_Roomy_6 Q fr m = GX Try.prog tb (.block 0 k_k1_Roomy_7) Q fr m) ∧
  (∀ Q fr m, GX Try.prog tb k_k1_Roomy_5 Q fr m = GX Try.prog tb (.seq (.reg r_k1_Roomy_4) k_k1_Roomy_6) Q fr m) ∧
  (∀ Q fr m, GX Try.prog tb k_k1_Roomy_15 Q fr m = GX Try.prog tb (.seq (.reg r_k1_Roomy_8) .ret) Q fr m) ∧
  (∀ Q fr m, GX Try.prog tb k_k1_Roomy_4 Q fr m = GX Try.prog tb (.seq k_k1_Roomy_5 k_k1_Roomy_15) Q fr m) ∧
  (∀ Q fr m, GX Try.prog tb k_k1_Roomy_3 Q fr m = GX Try.prog tb (.seq (.reg r_k1_Roomy_3) k_k1_Roomy_4) Q fr m) ∧
  (∀ Q fr m, GX Try.prog tb k_k1_Roomy_2 Q fr m = GX Try.prog tb (.seq (.reg r_k1_Roomy_2) k_k1_Roomy_3) Q fr m) ∧
  (∀ Q fr m, GX Try.prog tb k_k1_Roomy_1 Q fr m = GX Try.prog tb (.seq (.reg r_k1_Roomy_1) k_k1_Roomy_2) Q fr m) ∧
  (∀ Q fr m, GX Try.prog tb c_k1_Roomy Q fr m = GX Try.prog tb (.seq (.reg r_k1_Roomy_0) k_k1_Roomy_1) Q fr m) := ⟨fun _ _ _ => rfl, fun _ _ _ => rfl, fun _ _ _ => rfl, fun _ _ _ => rfl, fun _ _ _ => rfl, fun _ _ _ => rfl, fun _ _ _ => rfl, fun _ _ _ => rfl, fun _ _ _ => rfl, fun _ _ _ => rfl, fun _ _ _ => rfl, fun _ _ _ => rfl, fun _ _ _ => rfl, fun _ _ _ => rfl, fun _ _ _ => rfl, fun _ _ _ => rfl⟩
noncomputable def k_k1_SameInts_4 : CC := (.seq (.reg r_k1_SameInts_2) .ret)
noncomputable def k_k1_SameInts_3 : CC := (.cond (tm 10) k_k1_SameInts_4 .skip)
noncomputable def k_k1_SameInts_2 : CC := (.seq (.reg r_k1_SameInts_1) k_k1_SameInts_3)
noncomputable def k_k1_SameInts_11 : CC := (.cond (tm 14) .skip (.exit 0))
noncomputable def k_k1_SameInts_10 : CC := (.seq (.reg r_k1_SameInts_4) k_k1_SameInts_11)
noncomputable def k_k1_SameInts_16 : CC := (.seq (.reg r_k1_SameInts_7) .ret)
noncomputable def k_k1_SameInts_15 : CC := (.cond (tm 25) k_k1_SameInts_16 .skip)
noncomputable def k_k1_SameInts_14 : CC := (.seq (.drawn r_k1_SameInts_6 [ (3, 0) , (7, 0) ]) k_k1_SameInts_15)
noncomputable def k_k1_SameInts_13 : CC := (.block 1 k_k1_SameInts_14)
noncomputable def k_k1_SameInts_17 : CC := (.reg r_k1_SameInts_5)
noncomputable def k_k1_SameInts_12 : CC := (.seq k_k1_SameInts_13 k_k1_SameInts_17)
noncomputable def k_k1_SameInts_9 : CC := (.seq k_k1_SameInts_10 k_k1_SameInts_12)
noncomputable def k_k1_SameInts_8 : CC := (.loop k_k1_SameInts_9)
noncomputable def k_k1_SameInts_7 : CC := (.block 0 k_k1_SameInts_8)
noncomputable def k_k1_SameInts_6 : CC := (.seq (.reg r_k1_SameInts_3) k_k1_SameInts_7)
noncomputable def k_k1_SameInts_18 : CC := (.seq (.reg r_k1_SameInts_8) .ret)
noncomputable def k_k1_SameInts_5 : CC := (.seq k_k1_SameInts_6 k_k1_SameInts_18)
noncomputable def k_k1_SameInts_1 : CC := (.seq k_k1_SameInts_2 k_k1_SameInts_5)
theorem o_k1_SameInts : (∀ Q fr m, GX Try.prog tb k_k1_SameInts_4 Q fr m = GX Try.prog tb (.seq (.reg r_k1_SameInts_2) .ret) Q fr m) ∧
  (∀ Q fr m, GX Try.prog tb k_k1_SameInts_3 Q fr m = GX Try.prog tb (.cond (tm 10) k_k1_SameInts_4 .skip) Q fr m) ∧
  (∀ Q fr m, GX Try.prog tb k_k1_SameInts_2 Q fr m = GX Try.prog tb (.seq (.reg r_k1_SameInts_1) k_k1_SameInts_3) Q fr m) ∧
  (∀ Q fr m, GX Try.prog tb k_k1_SameInts_11 Q fr m = GX Try.prog tb (.cond (tm 14) .skip (.exit 0)) Q fr m) ∧
  (∀ Q fr m, GX Try.prog tb k_k1_SameInts_10 Q fr m = GX Try.prog tb (.seq (.reg r_k1_SameInts_4) k_k1_SameInts_11) Q fr m) ∧
  (∀ Q fr m, GX Try.prog tb k_k1_SameInts_16 Q fr m = GX Try.prog tb (.seq (.reg r_k1_SameInts_7) .ret) Q fr m) ∧
  (∀ Q fr m, GX Try.prog tb k_k1_SameInts_15 Q fr m = GX Try.prog tb (.cond (tm 25) k_k1_SameInts_16 .skip) Q fr m) ∧
  (∀ Q fr m, GX Try.prog tb k_k1_SameInts_14 Q fr m = GX Try.prog tb (.seq (.drawn r_k1_SameInts_6 [ (3, 0) , (7, 0) ]) k_k1_SameInts_15) Q fr m) ∧
  (∀ Q fr m, GX Try.prog tb k_k1_SameInts_13 Q fr m = GX Try.prog tb (.block 1 k_k1_SameInts_14) Q fr m) ∧
  (∀ Q fr m, GX Try.prog tb k_k1_SameInts_17 Q fr m = GX Try.prog tb (.reg r_k1_SameInts_5) Q fr m) ∧
  (∀ Q fr m, GX Try.prog tb k_k1_SameInts_12 Q fr m = GX Try.prog tb (.seq k_k1_SameInts_13 k_k1_SameInts_17) Q fr m) ∧
  (∀ Q fr m, GX Try.prog tb k_k1_SameInts_9 Q fr m = GX Try.prog tb (.seq k_k1_SameInts_10 k_k1_SameInts_12) Q fr m) ∧
  (∀ Q fr m, GX Try.prog tb k_k1_SameInts_8 Q fr m = GX Try.prog tb (.loop k_k1_SameInts_9) Q fr m) ∧
  (∀ Q fr m, GX Try.prog tb k_k1_SameInts_7 Q fr m = GX Try.prog tb (.block 0 k_k1_SameInts_8) Q fr m) ∧
  (∀ Q fr m, GX Try.prog tb k_k1_SameInts_6 Q fr m = GX Try.prog tb (.seq (.reg r_k1_SameInts_3) k_k1_SameInts_7) Q fr m) ∧
  (∀ Q fr m, GX Try.prog tb k_k1_SameInts_18 Q fr m = GX Try.prog tb (.seq (.reg r_k1_SameInts_8) .ret) Q fr m) ∧
  (∀ Q fr m, GX Try.prog tb k_k1_SameInts_5 Q fr m = GX Try.prog tb (.seq k_k1_SameInts_6 k_k1_SameInts_18) Q fr m) ∧
  (∀ Q fr m, GX Try.prog tb k_k1_SameInts_1 Q fr m = GX Try.prog tb (.seq k_k1_SameInts_2 k_k1_SameInts_5) Q fr m) ∧
  (∀ Q fr m, GX Try.prog tb c_k1_SameInts Q fr m = GX Try.prog tb (.seq (.reg r_k1_SameInts_0) k_k1_SameInts_1) Q fr m) := ⟨fun _ _ _ => rfl, fun _ _ _ => rfl, fun _ _ _ => rfl, fun _ _ _ => rfl, fun _ _ _ => rfl, fun _ _ _ => rfl, fun _ _ _ => rfl, fun _ _ _ => rfl, fun _ _ _ => rfl, fun _ _ _ => rfl, fun _ _ _ => rfl, fun _ _ _ => rfl, fun _ _ _ => rfl, fun _ _ _ => rfl, fun _ _ _ => rfl, fun _ _ _ => rfl, fun _ _ _ => rfl, fun _ _ _ => rfl, fun _ _ _ => rfl⟩
noncomputable def k_k1_BytesApart_8 : CC := (.cond (tm 18) .skip (.exit 0))
noncomputable def k_k1_BytesApart_7 : CC := (.seq (.reg r_k1_BytesApart_3) k_k1_BytesApart_8)
noncomputable def k_k1_BytesApart_16 : CC := (.cond (tm 27) .skip (.exit 2))
noncomputable def k_k1_BytesApart_15 : CC := (.seq (.reg r_k1_BytesApart_6) k_k1_BytesApart_16)
noncomputable def k_k1_BytesApart_20 : CC := (.reg r_k1_BytesApart_9)
noncomputable def k_k1_BytesApart_19 : CC := (.seq (.drawn r_k1_BytesApart_8 [ (3, 0) , (3, 7) ]) k_k1_BytesApart_20)
noncomputable def k_k1_BytesApart_18 : CC := (.block 3 k_k1_BytesApart_19)
noncomputable def k_k1_BytesApart_21 : CC := (.reg r_k1_BytesApart_7)
noncomputable def k_k1_BytesApart_17 : CC := (.seq k_k1_BytesApart_18 k_k1_BytesApart_21)
noncomputable def k_k1_BytesApart_14 : CC := (.seq k_k1_BytesApart_15 k_k1_BytesApart_17)
noncomputable def k_k1_BytesApart_13 : CC := (.loop k_k1_BytesApart_14)
noncomputable def k_k1_BytesApart_12 : CC := (.block 2 k_k1_BytesApart_13)
noncomputable def k_k1_BytesApart_11 : CC := (.seq (.reg r_k1_BytesApart_5) k_k1_BytesApart_12)
noncomputable def k_k1_BytesApart_10 : CC := (.block 1 k_k1_BytesApart_11)
noncomputable def k_k1_BytesApart_22 : CC := (.reg r_k1_BytesApart_4)
noncomputable def k_k1_BytesApart_9 : CC := (.seq k_k1_BytesApart_10 k_k1_BytesApart_22)
noncomputable def k_k1_BytesApart_6 : CC := (.seq k_k1_BytesApart_7 k_k1_BytesApart_9)
noncomputable def k_k1_BytesApart_5 : CC := (.loop k_k1_BytesApart_6)
noncomputable def k_k1_BytesApart_4 : CC := (.block 0 k_k1_BytesApart_5)
noncomputable def k_k1_BytesApart_3 : CC := (.seq (.reg r_k1_BytesApart_2) k_k1_BytesApart_4)
noncomputable def k_k1_BytesApart_31 : CC := (.cond (tm 44) .skip (.exit 4))
noncomputable def k_k1_BytesApart_30 : CC := (.seq (.reg r_k1_BytesApart_13) k_k1_BytesApart_31)
noncomputable def k_k1_BytesApart_41 : CC := (.cond (tm 52) .skip (.exit 6))
noncomputable def k_k1_BytesApart_40 : CC := (.seq (.reg r_k1_BytesApart_17) k_k1_BytesApart_41)
noncomputable def k_k1_BytesApart_45 : CC := (.reg r_k1_BytesApart_20)
noncomputable def k_k1_BytesApart_44 : CC := (.seq (.reg r_k1_BytesApart_19) k_k1_BytesApart_45)
noncomputable def k_k1_BytesApart_43 : CC := (.block 7 k_k1_BytesApart_44)
noncomputable def k_k1_BytesApart_46 : CC := (.reg r_k1_BytesApart_18)
noncomputable def k_k1_BytesApart_42 : CC := (.seq k_k1_BytesApart_43 k_k1_BytesApart_46)
noncomputable def k_k1_BytesApart_39 : CC := (.seq k_k1_BytesApart_40 k_k1_BytesApart_42)
noncomputable def k_k1_BytesApart_38 : CC := (.loop k_k1_BytesApart_39)
noncomputable def k_k1_BytesApart_37 : CC := (.block 6 k_k1_BytesApart_38)
noncomputable def k_k1_BytesApart_36 : CC := (.seq (.reg r_k1_BytesApart_16) k_k1_BytesApart_37)
noncomputable def k_k1_BytesApart_47 : CC := (.reg r_k1_BytesApart_21)
noncomputable def k_k1_BytesApart_35 : CC := (.seq k_k1_BytesApart_36 k_k1_BytesApart_47)
noncomputable def k_k1_BytesApart_34 : CC := (.seq (.reg r_k1_BytesApart_15) k_k1_BytesApart_35)
noncomputable def k_k1_BytesApart_33 : CC := (.block 5 k_k1_BytesApart_34)
noncomputable def k_k1_BytesApart_48 : CC := (.reg r_k1_BytesApart_14)
noncomputable def k_k1_BytesApart_32 : CC := (.seq k_k1_BytesApart_33 k_k1_BytesApart_48)
noncomputable def k_k1_BytesApart_29 : CC := (.seq k_k1_BytesApart_30 k_k1_BytesApart_32)
noncomputable def k_k1_BytesApart_28 : CC := (.loop k_k1_BytesApart_29)
noncomputable def k_k1_BytesApart_27 : CC := (.block 4 k_k1_BytesApart_28)
noncomputable def k_k1_BytesApart_26 : CC := (.seq (.reg r_k1_BytesApart_12) k_k1_BytesApart_27)
noncomputable def k_k1_BytesApart_56 : CC := (.cond (tm 69) .skip (.exit 8))
noncomputable def k_k1_BytesApart_55 : CC := (.seq (.reg r_k1_BytesApart_24) k_k1_BytesApart_56)
noncomputable def k_k1_BytesApart_64 : CC := (.cond (tm 78) .skip (.exit 10))
noncomputable def k_k1_BytesApart_63 : CC := (.seq (.reg r_k1_BytesApart_27) k_k1_BytesApart_64)
noncomputable def k_k1_BytesApart_70 : CC := (.seq (.reg r_k1_BytesApart_30) .ret)
noncomputable def k_k1_BytesApart_69 : CC := (.cond (tm 90) k_k1_BytesApart_70 .skip)
noncomputable def k_k1_BytesApart_68 : CC := (.seq (.drawn r_k1_BytesApart_29 [ (3, 0) , (3, 9) , (6, 0) , (6, 9) ]) k_k1_BytesApart_69)
noncomputable def k_k1_BytesApart_71 : CC := (.reg r_k1_BytesApart_31)
noncomputable def k_k1_BytesApart_67 : CC := (.seq k_k1_BytesApart_68 k_k1_BytesApart_71)
noncomputable def k_k1_BytesApart_66 : CC := (.block 11 k_k1_BytesApart_67)
noncomputable def k_k1_BytesApart_72 : CC := (.reg r_k1_BytesApart_28)
noncomputable def k_k1_BytesApart_65 : CC := (.seq k_k1_BytesApart_66 k_k1_BytesApart_72)
noncomputable def k_k1_BytesApart_62 : CC := (.seq k_k1_BytesApart_63 k_k1_BytesApart_65)
noncomputable def k_k1_BytesApart_61 : CC := (.loop k_k1_BytesApart_62)
noncomputable def k_k1_BytesApart_60 : CC := (.block 10 k_k1_BytesApart_61)
noncomputable def k_k1_BytesApart_59 : CC := (.seq (.reg r_k1_BytesApart_26) k_k1_BytesApart_60)
noncomputable def k_k1_BytesApart_58 : CC := (.block 9 k_k1_BytesApart_59)
noncomputable def k_k1_BytesApart_73 : CC := (.reg r_k1_BytesApart_25)
noncomputable def k_k1_BytesApart_57 : CC := (.seq k_k1_BytesApart_58 k_k1_BytesApart_73)
noncomputable def k_k1_BytesApart_54 : CC := (.seq k_k1_BytesApart_55 k_k1_BytesApart_57)
noncomputable def k_k1_BytesApart_53 : CC := (.loop k_k1_BytesApart_54)
noncomputable def k_k1_BytesApart_52 : CC := (.block 8 k_k1_BytesApart_53)
noncomputable def k_k1_BytesApart_51 : CC := (.seq (.reg r_k1_BytesApart_23) k_k1_BytesApart_52)
noncomputable def k_k1_BytesApart_80 : CC := (.cond (tm 96) .skip (.exit 12))
noncomputable def k_k1_BytesApart_79 : CC := (.seq (.reg r_k1_BytesApart_33) k_k1_BytesApart_80)
noncomputable def k_k1_BytesApart_88 : CC := (.cond (tm 110) .skip (.exit 14))
noncomputable def k_k1_BytesApart_87 : CC := (.seq (.reg r_k1_BytesApart_36) k_k1_BytesApart_88)
noncomputable def k_k1_BytesApart_94 : CC := (.seq (.reg r_k1_BytesApart_39) .ret)
noncomputable def k_k1_BytesApart_93 : CC := (.cond (tm 122) k_k1_BytesApart_94 .skip)
noncomputable def k_k1_BytesApart_92 : CC := (.seq (.drawn r_k1_BytesApart_38 [ (3, 0) , (3, 9) , (6, 0) , (6, 9) ]) k_k1_BytesApart_93)
noncomputable def k_k1_BytesApart_95 : CC := (.reg r_k1_BytesApart_40)
noncomputable def k_k1_BytesApart_91 : CC := (.seq k_k1_BytesApart_92 k_k1_BytesApart_95)
noncomputable def k_k1_BytesApart_90 : CC := (.block 15 k_k1_BytesApart_91)
noncomputable def k_k1_BytesApart_96 : CC := (.reg r_k1_BytesApart_37)
noncomputable def k_k1_BytesApart_89 : CC := (.seq k_k1_BytesApart_90 k_k1_BytesApart_96)
noncomputable def k_k1_BytesApart_86 : CC := (.seq k_k1_BytesApart_87 k_k1_BytesApart_89)
noncomputable def k_k1_BytesApart_85 : CC := (.loop k_k1_BytesApart_86)
noncomputable def k_k1_BytesApart_84 : CC := (.block 14 k_k1_BytesApart_85)
noncomputable def k_k1_BytesApart_83 : CC := (.seq (.reg r_k1_BytesApart_35) k_k1_BytesApart_84)
noncomputable def k_k1_BytesApart_82 : CC := (.block 13 k_k1_BytesApart_83)
noncomputable def k_k1_BytesApart_97 : CC := (.reg r_k1_BytesApart_34)
noncomputable def k_k1_BytesApart_81 : CC := (.seq k_k1_BytesApart_82 k_k1_BytesApart_97)
noncomputable def k_k1_BytesApart_78 : CC := (.seq k_k1_BytesApart_79 k_k1_BytesApart_81)
noncomputable def k_k1_BytesApart_77 : CC := (.loop k_k1_BytesApart_78)
noncomputable def k_k1_BytesApart_76 : CC := (.block 12 k_k1_BytesApart_77)
noncomputable def k_k1_BytesApart_75 : CC := (.seq (.reg r_k1_BytesApart_32) k_k1_BytesApart_76)
noncomputable def k_k1_BytesApart_98 : CC := (.seq (.reg r_k1_BytesApart_41) .ret)
noncomputable def k_k1_BytesApart_74 : CC := (.seq k_k1_BytesApart_75 k_k1_BytesApart_98)
noncomputable def k_k1_BytesApart_50 : CC := (.seq k_k1_BytesApart_51 k_k1_BytesApart_74)
noncomputable def k_k1_BytesApart_49 : CC := (.seq (.reg r_k1_BytesApart_22) k_k1_BytesApart_50)
noncomputable def k_k1_BytesApart_25 : CC := (.seq k_k1_BytesApart_26 k_k1_BytesApart_49)
noncomputable def k_k1_BytesApart_24 : CC := (.seq (.reg r_k1_BytesApart_11) k_k1_BytesApart_25)
noncomputable def k_k1_BytesApart_23 : CC := (.seq (.reg r_k1_BytesApart_10) k_k1_BytesApart_24)
noncomputable def k_k1_BytesApart_2 : CC := (.seq k_k1_BytesApart_3 k_k1_BytesApart_23)
noncomputable def k_k1_BytesApart_1 : CC := (.seq (.reg r_k1_BytesApart_1) k_k1_BytesApart_2)
theorem o_k1_BytesApart : (∀ Q fr m, GX Try.prog tb k_k1_BytesApart_8 Q fr m = GX Try.prog tb (.cond (tm 18) .skip (.exit 0)) Q fr m) ∧
  (∀ Q fr m, GX Try.prog tb k_k1_BytesApart_7 Q fr m = GX Try.prog tb (.seq (.reg r_k1_BytesApart_3) k_k1_BytesApart_8) Q fr m) ∧
  (∀ Q fr m, GX Try.prog tb k_k1_BytesApart_16 Q fr m = GX Try.prog tb (.cond (tm 27) .skip (.exit 2)) Q fr m) ∧
  (∀ Q fr m, GX Try.prog tb k_k1_BytesApart_15 Q fr m = GX Try.prog tb (.seq (.reg r_k1_BytesApart_6) k_k1_BytesApart_16) Q fr m) ∧
  (∀ Q fr m, GX Try.prog tb k_k1_BytesApart_20 Q fr m = GX Try.prog tb (.reg r_k1_BytesApart_9) Q fr m) ∧
  (∀ Q fr m, GX Try.prog tb k_k1_BytesApart_19 Q fr m = GX Try.prog tb (.seq (.drawn r_k1_BytesApart_8 [ (3, 0) , (3, 7) ]) k_k1_BytesApart_20) Q fr m) ∧
  (∀ Q fr m, GX Try.prog tb k_k1_BytesApart_18 Q fr m = GX Try.prog tb (.block 3 k_k1_BytesApart_19) Q fr m) ∧
  (∀ Q fr m, GX Try.prog tb k_k1_BytesApart_21 Q fr m = GX Try.prog tb (.reg r_k1_BytesApart_7) Q fr m) ∧
  (∀ Q fr m, GX Try.prog tb k_k1_BytesApart_17 Q fr m = GX Try.prog tb (.seq k_k1_BytesApart_18 k_k1_BytesApart_21) Q fr m) ∧
  (∀ Q fr m, GX Try.prog tb k_k1_BytesApart_14 Q fr m = GX Try.prog tb (.seq k_k1_BytesApart_15 k_k1_BytesApart_17) Q fr m) ∧
  (∀ Q fr m, GX Try.prog tb k_k1_BytesApart_13 Q fr m = GX Try.prog tb (.loop k_k1_BytesApart_14) Q fr m) ∧
  (∀ Q fr m, GX Try.prog tb k_k1_BytesApart_12 Q fr m = GX Try.prog tb (.block 2 k_k1_BytesApart_13) Q fr m) ∧
  (∀ Q fr m, GX Try.prog tb k_k1_BytesApart_11 Q fr m = GX Try.prog tb (.seq (.reg r_k1_BytesApart_5) k_k1_BytesApart_12) Q fr m) ∧
  (∀ Q fr m, GX Try.prog tb k_k1_BytesApart_10 Q fr m = GX Try.prog tb (.block 1 k_k1_BytesApart_11) Q fr m) ∧
  (∀ Q fr m, GX Try.prog tb k_k1_BytesApart_22 Q fr m = GX Try.prog tb (.reg r_k1_BytesApart_4) Q fr m) ∧
  (∀ Q fr m, GX Try.prog tb k_k1_BytesApart_9 Q fr m = GX Try.prog tb (.seq k_k1_BytesApart_10 k_k1_BytesApart_22) Q fr m) ∧
  (∀ Q fr m, GX Try.prog tb k_k1_BytesApart_6 Q fr m = GX Try.prog tb (.seq k_k1_BytesApart_7 k_k1_BytesApart_9) Q fr m) ∧
  (∀ Q fr m, GX Try.prog tb k_k1_BytesApart_5 Q fr m = GX Try.prog tb (.loop k_k1_BytesApart_6) Q fr m) ∧
  (∀ Q fr m, GX Try.prog tb k_k1_BytesApart_4 Q fr m = GX Try.prog tb (.block 0 k_k1_BytesApart_5) Q fr m) ∧
  (∀ Q fr m, GX Try.prog tb k_k1_BytesApart_3 Q fr m = GX Try.prog tb (.seq (.reg r_k1_BytesApart_2) k_k1_BytesApart_4) Q fr m) ∧
  (∀ Q fr m, GX Try.prog tb k_k1_BytesApart_31 Q fr m = GX Try.prog tb (.cond (tm 44) .skip (.exit 4)) Q fr m) ∧
  (∀ Q fr m, GX Try.prog tb k_k1_BytesApart_30 Q fr m = GX Try.prog tb (.seq (.reg r_k1_BytesApart_13) k_k1_BytesApart_31) Q fr m) ∧
  (∀ Q fr m, GX Try.prog tb k_k1_BytesApart_41 Q fr m = GX Try.prog tb (.cond (tm 52) .skip (.exit 6)) Q fr m) ∧
  (∀ Q fr m, GX Try.prog tb k_k1_BytesApart_40 Q fr m = GX Try.prog tb (.seq (.reg r_k1_BytesApart_17) k_k1_BytesApart_41) Q fr m) ∧
  (∀ Q fr m, GX Try.prog tb k_k1_BytesApart_45 Q fr m = GX Try.prog tb (.reg r_k1_BytesApart_20) Q fr m) ∧
  (∀ Q fr m, GX Try.prog tb k_k1_BytesApart_44 Q fr m = GX Try.prog tb (.seq (.reg r_k1_BytesApart_19) k_k1_BytesApart_45) Q fr m) ∧
  (∀ Q fr m, GX Try.prog tb k_k1_BytesApart_43 Q fr m = GX Try.prog tb (.block 7 k_k1_BytesApart_44) Q fr m) ∧
  (∀ Q fr m, GX Try.prog tb k_k1_BytesApart_46 Q fr m = GX Try.prog tb (.reg r_k1_BytesApart_18) Q fr m) ∧
  (∀ Q fr m, GX Try.prog tb k_k1_BytesApart_42 Q fr m = GX Try.prog tb (.seq k_k1_BytesApart_43 k_k1_BytesApart_46) Q fr m) ∧
  (∀ Q fr m, GX Try.prog tb k_k1_BytesApart_39 Q fr m = GX Try.prog tb (.seq k_k1_BytesApart_40 k_k1_BytesApart_42) Q fr m) ∧
  (∀ Q fr m, GX Try.prog tb k_k1_BytesApart_38 Q fr m = GX Try.prog tb (.loop k_k1_BytesApart_39) Q fr m) ∧
  (∀ Q fr m, GX Try.prog tb k_k1_BytesApart_37 Q fr m = GX Try.prog tb (.block 6 k_k1_BytesApart_38) Q fr m) ∧
  (∀ Q fr m, GX Try.prog tb k_k1_BytesApart_36 Q fr m = GX Try.prog tb (.seq (.reg r_k1_BytesApart_16) k_k1_BytesApart_37) Q fr m) ∧
  (∀ Q fr m, GX Try.prog tb k_k1_BytesApart_47 Q fr m = GX Try.prog tb (.reg r_k1_BytesApart_21) Q fr m) ∧
  (∀ Q fr m, GX Try.prog tb k_k1_BytesApart_35 Q fr m = GX Try.prog tb (.seq k_k1_BytesApart_36 k_k1_BytesApart_47) Q fr m) ∧
  (∀ Q fr m, GX Try.prog tb k_k1_BytesApart_34 Q fr m = GX Try.prog tb (.seq (.reg r_k1_BytesApart_15) k_k1_BytesApart_35) Q fr m) ∧
  (∀ Q fr m, GX Try.prog tb k_k1_BytesApart_33 Q fr m = GX Try.prog tb (.block 5 k_k1_BytesApart_34) Q fr m) ∧
  (∀ Q fr m, GX Try.prog tb k_k1_BytesApart_48 Q fr m = GX Try.prog tb (.reg r_k1_BytesApart_14) Q fr m) ∧
  (∀ Q fr m, GX Try.prog tb k_k1_BytesApart_32 Q fr m = GX Try.prog tb (.seq k_k1_BytesApart_33 k_k1_BytesApart_48) Q fr m) ∧
  (∀ Q fr m, GX Try.prog tb k_k1_BytesApart_29 Q fr m = GX Try.prog tb (.seq k_k1_BytesApart_30 k_k1_BytesApart_32) Q fr m) ∧
  (∀ Q fr m, GX Try.prog tb k_k1_BytesApart_28 Q fr m = GX Try.prog tb (.loop k_k1_BytesApart_29) Q fr m) ∧
  (∀ Q fr m, GX Try.prog tb k_k1_BytesApart_27 Q fr m = GX Try.prog tb (.block 4 k_k1_BytesApart_28) Q fr m) ∧
  (∀ Q fr m, GX Try.prog tb k_k1_BytesApart_26 Q fr m = GX Try.prog tb (.seq (.reg r_k1_BytesApart_12) k_k1_BytesApart_27) Q fr m) ∧
  (∀ Q fr m, GX Try.prog tb k_k1_BytesApart_56 Q fr m = GX Try.prog tb (.cond (tm 69) .skip (.exit 8)) Q fr m) ∧
  (∀ Q fr m, GX Try.prog tb k_k1_BytesApart_55 Q fr m = GX Try.prog tb (.seq (.reg r_k1_BytesApart_24) k_k1_BytesApart_56) Q fr m) ∧
  (∀ Q fr m, GX Try.prog tb k_k1_BytesApart_64 Q fr m = GX Try.prog tb (.cond (tm 78) .skip (.exit 10)) Q fr m) ∧
  (∀ Q fr m, GX Try.prog tb k_k1_BytesApart_63 Q fr m = GX Try.prog tb (.seq (.reg r_k1_BytesApart_27) k_k1_BytesApart_64) Q fr m) ∧
  (∀ Q fr m, GX Try.prog tb k_k1_BytesApart_70 Q fr m = GX Try.prog tb (.seq (.reg r_k1_BytesApart_30) .ret) Q fr m) ∧
  (∀ Q fr m, GX Try.prog tb k_k1_BytesApart_69 Q fr m = GX Try.prog tb (.cond (tm 90) k_k1_BytesApart_70 .skip) Q fr m) ∧
  (∀ Q fr m, GX Try.prog tb k_k1_BytesApart_68 Q fr m = GX Try.prog tb (.seq (.drawn r_k1_BytesApart_29 [ (3, 0) , (3, 9) , (6, 0) , (6, 9) ]) k_k1_BytesApart_69) Q fr m) ∧
  (∀ Q fr m, GX Try.prog tb k_k1_BytesApart_71 Q fr m = GX Try.prog tb (.reg r_k1_BytesApart_31) Q fr m) ∧
  (∀ Q fr m, GX Try.prog tb k_k1_BytesApart_67 Q fr m = GX Try.prog tb (.seq k_k1_BytesApart_68 k_k1_BytesApart_71) Q fr m) ∧
  (∀ Q fr m, GX Try.prog tb k_k1_BytesApart_66 Q fr m = GX Try.prog tb (.block 11 k_k1_BytesApart_67) Q fr m) ∧
  (∀ Q fr m, GX Try.prog tb k_k1_BytesApart_72 Q fr m = GX Try.prog tb (.reg r_k1_BytesApart_28) Q fr m) ∧
  (∀ Q fr m, GX Try.prog tb k_k1_BytesApart_65 Q fr m = GX Try.prog tb (.seq k_k1_BytesApart_66 k_k1_BytesApart_72) Q fr m) ∧
  (∀ Q fr m, GX Try.prog tb k_k1_BytesApart_62 Q fr m = GX Try.prog tb (.seq k_k1_BytesApart_63 k_k1_BytesApart_65) Q fr m) ∧
  (∀ Q fr m, GX Try.prog tb k_k1_BytesApart_61 Q fr m = GX Try.prog tb (.loop k_k1_BytesApart_62) Q fr m) ∧
  (∀ Q fr m, GX Try.prog tb k_k1_BytesApart_60 Q fr m = GX Try.prog tb (.block 10 k_k1_BytesApart_61) Q fr m) ∧
  (∀ Q fr m, GX Try.prog tb k_k1_BytesApart_59 Q fr m = GX Try.prog tb (.seq (.reg r_k1_BytesApart_26) k_k1_BytesApart_60) Q fr m) ∧
  (∀ Q fr m, GX Try.prog tb k_k1_BytesApart_58 Q fr m = GX Try.prog tb (.block 9 k_k1_BytesApart_59) Q fr m) ∧
  (∀ Q fr m, GX Try.prog tb k_k1_BytesApart_73 Q fr m = GX Try.prog tb (.reg r_k1_BytesApart_25) Q fr m) ∧
  (∀ Q fr m, GX Try.prog tb k_k1_BytesApart_57 Q fr m = GX Try.prog tb (.seq k_k1_BytesApart_58 k_k1_BytesApart_73) Q fr m) ∧
  (∀ Q fr m, GX Try.prog tb k_k1_BytesApart_54 Q fr m = GX Try.prog tb (.seq k_k1_BytesApart_55 k_k1_BytesApart_57) Q fr m) ∧
  (∀ Q fr m, GX Try.prog tb k_k1_BytesApart_53 Q fr m = GX Try.prog tb (.loop k_k1_BytesApart_54) Q fr m) ∧
  (∀ Q fr m, GX Try.prog tb k_k1_BytesApart_52 Q fr m = GX Try.prog tb (.block 8 k_k1_BytesApart_53) Q fr m) ∧
  (∀ Q fr m, GX Try.prog tb k_k1_BytesApart_51 Q fr m = GX Try.prog tb (.seq (.reg r_k1_BytesApart_23) k_k1_BytesApart_52) Q fr m) ∧
  (∀ Q fr m, GX Try.prog tb k_k1_BytesApart_80 Q fr m = GX Try.prog tb (.cond (tm 96) .skip (.exit 12)) Q fr m) ∧
  (∀ Q fr m, GX Try.prog tb k_k1_BytesApart_79 Q fr m = GX Try.prog tb (.seq (.reg r_k1_BytesApart_33) k_k1_BytesApart_80) Q fr m) ∧
  (∀ Q fr m, GX Try.prog tb k_k1_BytesApart_88 Q fr m = GX Try.prog tb (.cond (tm 110) .skip (.exit 14)) Q fr m) ∧
  (∀ Q fr m, GX Try.prog tb k_k1_BytesApart_87 Q fr m = GX Try.prog tb (.seq (.reg r_k1_BytesApart_36) k_k1_BytesApart_88) Q fr m) ∧
  (∀ Q fr m, GX Try.prog tb k_k1_BytesApart_94 Q fr m = GX Try.prog tb (.seq (.reg r_k1_BytesApart_39) .ret) Q fr m) ∧
  (∀ Q fr m, GX Try.prog tb k_k1_BytesApart_93 Q fr m = GX Try.prog tb (.cond (tm 122) k_k1_BytesApart_94 .skip) Q fr m) ∧
  (∀ Q fr m, GX Try.prog tb k_k1_BytesApart_92 Q fr m = GX Try.prog tb (.seq (.drawn r_k1_BytesApart_38 [ (3, 0) , (3, 9) , (6, 0) , (6, 9) ]) k_k1_BytesApart_93) Q fr m) ∧
  (∀ Q fr m, GX Try.prog tb k_k1_BytesApart_95 Q fr m = GX Try.prog tb (.reg r_k1_BytesApart_40) Q fr m) ∧
  (∀ Q fr m, GX Try.prog tb k_k1_BytesApart_91 Q fr m = GX Try.prog tb (.seq k_k1_BytesApart_92 k_k1_BytesApart_95) Q fr m) ∧
  (∀ Q fr m, GX Try.prog tb k_k1_BytesApart_90 Q fr m = GX Try.prog tb (.block 15 k_k1_BytesApart_91) Q fr m) ∧
  (∀ Q fr m, GX Try.prog tb k_k1_BytesApart_96 Q fr m = GX Try.prog tb (.reg r_k1_BytesApart_37) Q fr m) ∧
  (∀ Q fr m, GX Try.prog tb k_k1_BytesApart_89 Q fr m = GX Try.prog tb (.seq k_k1_BytesApart_90 k_k1_BytesApart_96) Q fr m) ∧
  (∀ Q fr m, GX Try.prog tb k_k1_BytesApart_86 Q fr m = GX Try.prog tb (.seq k_k1_BytesApart_87 k_k1_BytesApart_89) Q fr m) ∧
  (∀ Q fr m, GX Try.prog tb k_k1_BytesApart_85 Q fr m = GX Try.prog tb (.loop k_k1_BytesApart_86) Q fr m) ∧
  (∀ Q fr m, GX Try.prog tb k_k1_BytesApart_84 Q fr m = GX Try.prog tb (.block 14 k_k1_BytesApart_85) Q fr m) ∧
  (∀ Q fr m, GX Try.prog tb k_k1_BytesApart_83 Q fr m = GX Try.prog tb (.seq (.reg r_k1_BytesApart_35) k_k1_BytesApart_84) Q fr m) ∧
  (∀ Q fr m, GX Try.prog tb k_k1_BytesApart_82 Q fr m = GX Try.prog tb (.block 13 k_k1_BytesApart_83) Q fr m) ∧
  (∀ Q fr m, GX Try.prog tb k_k1_BytesApart_97 Q fr m = GX Try.prog tb (.reg r_k1_BytesApart_34) Q fr m) ∧
  (∀ Q fr m, GX Try.prog tb k_k1_BytesApart_81 Q fr m = GX Try.prog tb (.seq k_k1_BytesApart_82 k_k1_BytesApart_97) Q fr m) ∧
  (∀ Q fr m, GX Try.prog tb k_k1_BytesApart_78 Q fr m = GX Try.prog tb (.seq k_k1_BytesApart_79 k_k1_BytesApart_81) Q fr m) ∧
  (∀ Q fr m, GX Try.prog tb k_k1_BytesApart_77 Q fr m = GX Try.prog tb (.loop k_k1_BytesApart_78) Q fr m) ∧
  (∀ Q fr m, GX Try.prog tb k_k1_BytesApart_76 Q fr m = GX Try.prog tb (.block 12 k_k1_BytesApart_77) Q fr m) ∧
  (∀ Q fr m, GX Try.prog tb k_k1_BytesApart_75 Q fr m = GX Try.prog tb (.seq (.reg r_k1_BytesApart_32) k_k1_BytesApart_76) Q fr m) ∧
  (∀ Q fr m, GX Try.prog tb k_k1_BytesApart_98 Q fr m = GX Try.prog tb (.seq (.reg r_k1_BytesApart_41) .ret) Q fr m) ∧
  (∀ Q fr m, GX Try.prog tb k_k1_BytesApart_74 Q fr m = GX Try.prog tb (.seq k_k1_BytesApart_75 k_k1_BytesApart_98) Q fr m) ∧
  (∀ Q fr m, GX Try.prog tb k_k1_BytesApart_50 Q fr m = GX Try.prog tb (.seq k_k1_BytesApart_51 k_k1_BytesApart_74) Q fr m) ∧
  (∀ Q fr m, GX Try.prog tb k_k1_BytesApart_49 Q fr m = GX Try.prog tb (.seq (.reg r_k1_BytesApart_22) k_k1_BytesApart_50) Q fr m) ∧
  (∀ Q fr m, GX Try.prog tb k_k1_BytesApart_25 Q fr m = GX Try.prog tb (.seq k_k1_BytesApart_26 k_k1_BytesApart_49) Q fr m) ∧
  (∀ Q fr m, GX Try.prog tb k_k1_BytesApart_24 Q fr m = GX Try.prog tb (.seq (.reg r_k1_BytesApart_11) k_k1_BytesApart_25) Q fr m) ∧
  (∀ Q fr m, GX Try.prog tb k_k1_BytesApart_23 Q fr m = GX Try.prog tb (.seq (.reg r_k1_BytesApart_10) k_k1_BytesApart_24) Q fr m) ∧
  (∀ Q fr m, GX Try.prog tb k_k1_BytesApart_2 Q fr m = GX Try.prog tb (.seq k_k1_BytesApart_3 k_k1_BytesApart_23) Q fr m) ∧
  (∀ Q fr m, GX Try.prog tb k_k1_BytesApart_1 Q fr m = GX Try.prog tb (.seq (.reg r_k1_BytesApart_1) k_k1_BytesApart_2) Q fr m) ∧
  (∀ Q fr m, GX Try.prog tb c_k1_BytesApart Q fr m = GX Try.prog tb (.seq (.reg r_k1_BytesApart_0) k_k1_BytesApart_1) Q fr m) := ⟨fun _ _ _ => rfl, fun _ _ _ => rfl, fun _ _ _ => rfl, fun _ _ _ => rfl, fun _ _ _ => rfl, fun _ _ _ => rfl, fun _ _ _ => rfl, fun _ _ _ => rfl, fun _ _ _ => rfl, fun _ _ _ => rfl, fun _ _ _ => rfl, fun _ _ _ => rfl, fun _ _ _ => rfl, fun _ _ _ => rfl, fun _ _ _ => rfl, fun _ _ _ => rfl, fun _ _ _ => rfl, fun _ _ _ => rfl, fun _ _ _ => rfl, fun _ _ _ => rfl, fun _ _ _ => rfl, fun _ _ _ => rfl, fun _ _ _ => rfl, fun _ _ _ => rfl, fun _ _ _ => rfl, fun _ _ _ => rfl, fun _ _ _ => rfl, fun _ _ _ => rfl, fun _ _ _ => rfl, fun _ _ _ => rfl, fun _ _ _ => rfl, fun _ _ _ => rfl, fun _ _ _ => rfl, fun _ _ _ => rfl, fun _ _ _ => rfl, fun _ _ _ => rfl, fun _ _ _ => rfl, fun _ _ _ => rfl, fun _ _ _ => rfl, fun _ _ _ => rfl, fun _ _ _ => rfl, fun _ _ _ => rfl, fun _ _ _ => rfl, fun _ _ _ => rfl, fun _ _ _ => rfl, fun _ _ _ => rfl, fun _ _ _ => rfl, fun _ _ _ => rfl, fun _ _ _ => rfl, fun _ _ _ => rfl, fun _ _ _ => rfl, fun _ _ _ => rfl, fun _ _ _ => rfl, fun _ _ _ => rfl, fun _ _ _ => rfl, fun _ _ _ => rfl, fun _ _ _ => rfl, fun _ _ _ => rfl, fun _ _ _ => rfl, fun _ _ _ => rfl, fun _ _ _ => rfl, fun _ _ _ => rfl, fun _ _ _ => rfl, fun _ _ _ => rfl, fun _ _ _ => rfl, fun _ _ _ => rfl, fun _ _ _ => rfl, fun _ _ _ => rfl, fun _ _ _ => rfl, fun _ _ _ => rfl, fun _ _ _ => rfl, fun _ _ _ => rfl, fun _ _ _ => rfl, fun _ _ _ => rfl, fun _ _ _ => rfl, fun _ _ _ => rfl, fun _ _ _ => rfl, fun _ _ _ => rfl, fun _ _ _ => rfl, fun _ _ _ => rfl, fun _ _ _ => rfl, fun _ _ _ => rfl, fun _ _ _ => rfl, fun _ _ _ => rfl, fun _ _ _ => rfl, fun _ _ _ => rfl, fun _ _ _ => rfl, fun _ _ _ => rfl, fun _ _ _ => rfl, fun _ _ _ => rfl, fun _ _ _ => rfl, fun _ _ _ => rfl, fun _ _ _ => rfl, fun _ _ _ => rfl, fun _ _ _ => rfl, fun _ _ _ => rfl, fun _ _ _ => rfl, fun _ _ _ => rfl, fun _ _ _ => rfl⟩
noncomputable def k_k1_IntsApart_8 : CC := (.cond (tm 18) .skip (.exit 0))
noncomputable def k_k1_IntsApart_7 : CC := (.seq (.reg r_k1_IntsApart_3) k_k1_IntsApart_8)
noncomputable def k_k1_IntsApart_16 : CC := (.cond (tm 27) .skip (.exit 2))
noncomputable def k_k1_IntsApart_15 : CC := (.seq (.reg r_k1_IntsApart_6) k_k1_IntsApart_16)
noncomputable def k_k1_IntsApart_20 : CC := (.reg r_k1_IntsApart_9)
noncomputable def k_k1_IntsApart_19 : CC := (.seq (.reg r_k1_IntsApart_8) k_k1_IntsApart_20)
noncomputable def k_k1_IntsApart_18 : CC := (.block 3 k_k1_IntsApart_19)
noncomputable def k_k1_IntsApart_21 : CC := (.reg r_k1_IntsApart_7)
noncomputable def k_k1_IntsApart_17 : CC := (.seq k_k1_IntsApart_18 k_k1_IntsApart_21)
noncomputable def k_k1_IntsApart_14 : CC := (.seq k_k1_IntsApart_15 k_k1_IntsApart_17)
noncomputable def k_k1_IntsApart_13 : CC := (.loop k_k1_IntsApart_14)
noncomputable def k_k1_IntsApart_12 : CC := (.block 2 k_k1_IntsApart_13)
noncomputable def k_k1_IntsApart_11 : CC := (.seq (.reg r_k1_IntsApart_5) k_k1_IntsApart_12)
noncomputable def k_k1_IntsApart_10 : CC := (.block 1 k_k1_IntsApart_11)
noncomputable def k_k1_IntsApart_22 : CC := (.reg r_k1_IntsApart_4)
noncomputable def k_k1_IntsApart_9 : CC := (.seq k_k1_IntsApart_10 k_k1_IntsApart_22)
noncomputable def k_k1_IntsApart_6 : CC := (.seq k_k1_IntsApart_7 k_k1_IntsApart_9)
noncomputable def k_k1_IntsApart_5 : CC := (.loop k_k1_IntsApart_6)
noncomputable def k_k1_IntsApart_4 : CC := (.block 0 k_k1_IntsApart_5)
noncomputable def k_k1_IntsApart_3 : CC := (.seq (.reg r_k1_IntsApart_2) k_k1_IntsApart_4)
noncomputable def k_k1_IntsApart_31 : CC := (.cond (tm 43) .skip (.exit 4))
noncomputable def k_k1_IntsApart_30 : CC := (.seq (.reg r_k1_IntsApart_13) k_k1_IntsApart_31)
noncomputable def k_k1_IntsApart_41 : CC := (.cond (tm 51) .skip (.exit 6))
noncomputable def k_k1_IntsApart_40 : CC := (.seq (.reg r_k1_IntsApart_17) k_k1_IntsApart_41)
noncomputable def k_k1_IntsApart_45 : CC := (.reg r_k1_IntsApart_20)
noncomputable def k_k1_IntsApart_44 : CC := (.seq (.reg r_k1_IntsApart_19) k_k1_IntsApart_45)
noncomputable def k_k1_IntsApart_43 : CC := (.block 7 k_k1_IntsApart_44)
noncomputable def k_k1_IntsApart_46 : CC := (.reg r_k1_IntsApart_18)
noncomputable def k_k1_IntsApart_42 : CC := (.seq k_k1_IntsApart_43 k_k1_IntsApart_46)
noncomputable def k_k1_IntsApart_39 : CC := (.seq k_k1_IntsApart_40 k_k1_IntsApart_42)
noncomputable def k_k1_IntsApart_38 : CC := (.loop k_k1_IntsApart_39)
noncomputable def k_k1_IntsApart_37 : CC := (.block 6 k_k1_IntsApart_38)
noncomputable def k_k1_IntsApart_36 : CC := (.seq (.reg r_k1_IntsApart_16) k_k1_IntsApart_37)
noncomputable def k_k1_IntsApart_47 : CC := (.reg r_k1_IntsApart_21)
noncomputable def k_k1_IntsApart_35 : CC := (.seq k_k1_IntsApart_36 k_k1_IntsApart_47)
noncomputable def k_k1_IntsApart_34 : CC := (.seq (.reg r_k1_IntsApart_15) k_k1_IntsApart_35)
noncomputable def k_k1_IntsApart_33 : CC := (.block 5 k_k1_IntsApart_34)
noncomputable def k_k1_IntsApart_48 : CC := (.reg r_k1_IntsApart_14)
noncomputable def k_k1_IntsApart_32 : CC := (.seq k_k1_IntsApart_33 k_k1_IntsApart_48)
noncomputable def k_k1_IntsApart_29 : CC := (.seq k_k1_IntsApart_30 k_k1_IntsApart_32)
noncomputable def k_k1_IntsApart_28 : CC := (.loop k_k1_IntsApart_29)
noncomputable def k_k1_IntsApart_27 : CC := (.block 4 k_k1_IntsApart_28)
noncomputable def k_k1_IntsApart_26 : CC := (.seq (.reg r_k1_IntsApart_12) k_k1_IntsApart_27)
noncomputable def k_k1_IntsApart_56 : CC := (.cond (tm 67) .skip (.exit 8))
noncomputable def k_k1_IntsApart_55 : CC := (.seq (.reg r_k1_IntsApart_24) k_k1_IntsApart_56)
noncomputable def k_k1_IntsApart_64 : CC := (.cond (tm 76) .skip (.exit 10))
noncomputable def k_k1_IntsApart_63 : CC := (.seq (.reg r_k1_IntsApart_27) k_k1_IntsApart_64)
noncomputable def k_k1_IntsApart_70 : CC := (.seq (.reg r_k1_IntsApart_30) .ret)
noncomputable def k_k1_IntsApart_69 : CC := (.cond (tm 87) k_k1_IntsApart_70 .skip)
noncomputable def k_k1_IntsApart_68 : CC := (.seq (.reg r_k1_IntsApart_29) k_k1_IntsApart_69)
noncomputable def k_k1_IntsApart_71 : CC := (.reg r_k1_IntsApart_31)
noncomputable def k_k1_IntsApart_67 : CC := (.seq k_k1_IntsApart_68 k_k1_IntsApart_71)
noncomputable def k_k1_IntsApart_66 : CC := (.block 11 k_k1_IntsApart_67)
noncomputable def k_k1_IntsApart_72 : CC := (.reg r_k1_IntsApart_28)
noncomputable def k_k1_IntsApart_65 : CC := (.seq k_k1_IntsApart_66 k_k1_IntsApart_72)
noncomputable def k_k1_IntsApart_62 : CC := (.seq k_k1_IntsApart_63 k_k1_IntsApart_65)
noncomputable def k_k1_IntsApart_61 : CC := (.loop k_k1_IntsApart_62)
noncomputable def k_k1_IntsApart_60 : CC := (.block 10 k_k1_IntsApart_61)
noncomputable def k_k1_IntsApart_59 : CC := (.seq (.reg r_k1_IntsApart_26) k_k1_IntsApart_60)
noncomputable def k_k1_IntsApart_58 : CC := (.block 9 k_k1_IntsApart_59)
noncomputable def k_k1_IntsApart_73 : CC := (.reg r_k1_IntsApart_25)
noncomputable def k_k1_IntsApart_57 : CC := (.seq k_k1_IntsApart_58 k_k1_IntsApart_73)
noncomputable def k_k1_IntsApart_54 : CC := (.seq k_k1_IntsApart_55 k_k1_IntsApart_57)
noncomputable def k_k1_IntsApart_53 : CC := (.loop k_k1_IntsApart_54)
noncomputable def k_k1_IntsApart_52 : CC := (.block 8 k_k1_IntsApart_53)
noncomputable def k_k1_IntsApart_51 : CC := (.seq (.reg r_k1_IntsApart_23) k_k1_IntsApart_52)
noncomputable def k_k1_IntsApart_80 : CC := (.cond (tm 93) .skip (.exit 12))
noncomputable def k_k1_IntsApart_79 : CC := (.seq (.reg r_k1_IntsApart_33) k_k1_IntsApart_80)
noncomputable def k_k1_IntsApart_88 : CC := (.cond (tm 107) .skip (.exit 14))
noncomputable def k_k1_IntsApart_87 : CC := (.seq (.reg r_k1_IntsApart_36) k_k1_IntsApart_88)
noncomputable def k_k1_IntsApart_94 : CC := (.seq (.reg r_k1_IntsApart_39) .ret)
noncomputable def k_k1_IntsApart_93 : CC := (.cond (tm 118) k_k1_IntsApart_94 .skip)
noncomputable def k_k1_IntsApart_92 : CC := (.seq (.reg r_k1_IntsApart_38) k_k1_IntsApart_93)
noncomputable def k_k1_IntsApart_95 : CC := (.reg r_k1_IntsApart_40)
noncomputable def k_k1_IntsApart_91 : CC := (.seq k_k1_IntsApart_92 k_k1_IntsApart_95)
noncomputable def k_k1_IntsApart_90 : CC := (.block 15 k_k1_IntsApart_91)
noncomputable def k_k1_IntsApart_96 : CC := (.reg r_k1_IntsApart_37)
noncomputable def k_k1_IntsApart_89 : CC := (.seq k_k1_IntsApart_90 k_k1_IntsApart_96)
noncomputable def k_k1_IntsApart_86 : CC := (.seq k_k1_IntsApart_87 k_k1_IntsApart_89)
noncomputable def k_k1_IntsApart_85 : CC := (.loop k_k1_IntsApart_86)
noncomputable def k_k1_IntsApart_84 : CC := (.block 14 k_k1_IntsApart_85)
noncomputable def k_k1_IntsApart_83 : CC := (.seq (.reg r_k1_IntsApart_35) k_k1_IntsApart_84)
noncomputable def k_k1_IntsApart_82 : CC := (.block 13 k_k1_IntsApart_83)
noncomputable def k_k1_IntsApart_97 : CC := (.reg r_k1_IntsApart_34)
noncomputable def k_k1_IntsApart_81 : CC := (.seq k_k1_IntsApart_82 k_k1_IntsApart_97)
noncomputable def k_k1_IntsApart_78 : CC := (.seq k_k1_IntsApart_79 k_k1_IntsApart_81)
noncomputable def k_k1_IntsApart_77 : CC := (.loop k_k1_IntsApart_78)
noncomputable def k_k1_IntsApart_76 : CC := (.block 12 k_k1_IntsApart_77)
noncomputable def k_k1_IntsApart_75 : CC := (.seq (.reg r_k1_IntsApart_32) k_k1_IntsApart_76)
noncomputable def k_k1_IntsApart_98 : CC := (.seq (.reg r_k1_IntsApart_41) .ret)
noncomputable def k_k1_IntsApart_74 : CC := (.seq k_k1_IntsApart_75 k_k1_IntsApart_98)
noncomputable def k_k1_IntsApart_50 : CC := (.seq k_k1_IntsApart_51 k_k1_IntsApart_74)
noncomputable def k_k1_IntsApart_49 : CC := (.seq (.reg r_k1_IntsApart_22) k_k1_IntsApart_50)
noncomputable def k_k1_IntsApart_25 : CC := (.seq k_k1_IntsApart_26 k_k1_IntsApart_49)
noncomputable def k_k1_IntsApart_24 : CC := (.seq (.reg r_k1_IntsApart_11) k_k1_IntsApart_25)
noncomputable def k_k1_IntsApart_23 : CC := (.seq (.reg r_k1_IntsApart_10) k_k1_IntsApart_24)
noncomputable def k_k1_IntsApart_2 : CC := (.seq k_k1_IntsApart_3 k_k1_IntsApart_23)
noncomputable def k_k1_IntsApart_1 : CC := (.seq (.reg r_k1_IntsApart_1) k_k1_IntsApart_2)
theorem o_k1_IntsApart : (∀ Q fr m, GX Try.prog tb k_k1_IntsApart_8 Q fr m = GX Try.prog tb (.cond (tm 18) .skip (.exit 0)) Q fr m) ∧
  (∀ Q fr m, GX Try.prog tb k_k1_IntsApart_7 Q fr m = GX Try.prog tb (.seq (.reg r_k1_IntsApart_3) k_k1_IntsApart_8) Q fr m) ∧
  (∀ Q fr m, GX Try.prog tb k_k1_IntsApart_16 Q fr m = GX Try.prog tb (.cond (tm 27) .skip (.exit 2)) Q fr m) ∧
  (∀ Q fr m, GX Try.prog tb k_k1_IntsApart_15 Q fr m = GX Try.prog tb (.seq (.reg r_k1_IntsApart_6) k_k1_IntsApart_16) Q fr m) ∧
  (∀ Q fr m, GX Try.prog tb k_k1_IntsApart_20 Q fr m = GX Try.prog tb (.reg r_k1_IntsApart_9) Q fr m) ∧
  (∀ Q fr m, GX Try.prog tb k_k1_IntsApart_19 Q fr m = GX Try.prog tb (.seq (.reg r_k1_IntsApart_8) k_k1_IntsApart_20) Q fr m) ∧
  (∀ Q fr m, GX Try.prog tb k_k1_IntsApart_18 Q fr m = GX Try.prog tb (.block 3 k_k1_IntsApart_19) Q fr m) ∧
  (∀ Q fr m, GX Try.prog tb k_k1_IntsApart_21 Q fr m = GX Try.prog tb (.reg r_k1_IntsApart_7) Q fr m) ∧
  (∀ Q fr m, GX Try.prog tb k_k1_IntsApart_17 Q fr m = GX Try.prog tb (.seq k_k1_IntsApart_18 k_k1_IntsApart_21) Q fr m) ∧
  (∀ Q fr m, GX Try.prog tb k_k1_IntsApart_14 Q fr m = GX Try.prog tb (.seq k_k1_IntsApart_15 k_k1_IntsApart_17) Q fr m) ∧
  (∀ Q fr m, GX Try.prog tb k_k1_IntsApart_13 Q fr m = GX Try.prog tb (.loop k_k1_IntsApart_14) Q fr m) ∧
  (∀ Q fr m, GX Try.prog tb k_k1_IntsApart_12 Q fr m = GX Try.prog tb (.block 2 k_k1_IntsApart_13) Q fr m) ∧
  (∀ Q fr m, GX Try.prog tb k_k1_IntsApart_11 Q fr m = GX Try.prog tb (.seq (.reg r_k1_IntsApart_5) k_k1_IntsApart_12) Q fr m) ∧
  (∀ Q fr m, GX Try.prog tb k_k1_IntsApart_10 Q fr m = GX Try.prog tb (.block 1 k_k1_IntsApart_11) Q fr m) ∧
  (∀ Q fr m, GX Try.prog tb k_k1_IntsApart_22 Q fr m = GX Try.prog tb (.reg r_k1_IntsApart_4) Q fr m) ∧
  (∀ Q fr m, GX Try.prog tb k_k1_IntsApart_9 Q fr m = GX Try.prog tb (.seq k_k1_IntsApart_10 k_k1_IntsApart_22) Q fr m) ∧
  (∀ Q fr m, GX Try.prog tb k_k1_IntsApart_6 Q fr m = GX Try.prog tb (.seq k_k1_IntsApart_7 k_k1_IntsApart_9) Q fr m) ∧
  (∀ Q fr m, GX Try.prog tb k_k1_IntsApart_5 Q fr m = GX Try.prog tb (.loop k_k1_IntsApart_6) Q fr m) ∧
  (∀ Q fr m, GX Try.prog tb k_k1_IntsApart_4 Q fr m = GX Try.prog tb (.block 0 k_k1_IntsApart_5) Q fr m) ∧
  (∀ Q fr m, GX Try.prog tb k_k1_IntsApart_3 Q fr m = GX Try.prog tb (.seq (.reg r_k1_IntsApart_2) k_k1_IntsApart_4) Q fr m) ∧
  (∀ Q fr m, GX Try.prog tb k_k1_IntsApart_31 Q fr m = GX Try.prog tb (.cond (tm 43) .skip (.exit 4)) Q fr m) ∧
  (∀ Q fr m, GX Try.prog tb k_k1_IntsApart_30 Q fr m = GX Try.prog tb (.seq (.reg r_k1_IntsApart_13) k_k1_IntsApart_31) Q fr m) ∧
  (∀ Q fr m, GX Try.prog tb k_k1_IntsApart_41 Q fr m = GX Try.prog tb (.cond (tm 51) .skip (.exit 6)) Q fr m) ∧
  (∀ Q fr m, GX Try.prog tb k_k1_IntsApart_40 Q fr m = GX Try.prog tb (.seq (.reg r_k1_IntsApart_17) k_k1_IntsApart_41) Q fr m) ∧
  (∀ Q fr m, GX Try.prog tb k_k1_IntsApart_45 Q fr m = GX Try.prog tb (.reg r_k1_IntsApart_20) Q fr m) ∧
  (∀ Q fr m, GX Try.prog tb k_k1_IntsApart_44 Q fr m = GX Try.prog tb (.seq (.reg r_k1_IntsApart_19) k_k1_IntsApart_45) Q fr m) ∧
  (∀ Q fr m, GX Try.prog tb k_k1_IntsApart_43 Q fr m = GX Try.prog tb (.block 7 k_k1_IntsApart_44) Q fr m) ∧
  (∀ Q fr m, GX Try.prog tb k_k1_IntsApart_46 Q fr m = GX Try.prog tb (.reg r_k1_IntsApart_18) Q fr m) ∧
  (∀ Q fr m, GX Try.prog tb k_k1_IntsApart_42 Q fr m = GX Try.prog tb (.seq k_k1_IntsApart_43 k_k1_IntsApart_46) Q fr m) ∧
  (∀ Q fr m, GX Try.prog tb k_k1_IntsApart_39 Q fr m = GX Try.prog tb (.seq k_k1_IntsApart_40 k_k1_IntsApart_42) Q fr m) ∧
  (∀ Q fr m, GX Try.prog tb k_k1_IntsApart_38 Q fr m = GX Try.prog tb (.loop k_k1_IntsApart_39) Q fr m) ∧
  (∀ Q fr m, GX Try.prog tb k_k1_IntsApart_37 Q fr m = GX Try.prog tb (.block 6 k_k1_IntsApart_38) Q fr m) ∧
  (∀ Q fr m, GX Try.prog tb k_k1_IntsApart_36 Q fr m = GX Try.prog tb (.seq (.reg r_k1_IntsApart_16) k_k1_IntsApart_37) Q fr m) ∧
  (∀ Q fr m, GX Try.prog tb k_k1_IntsApart_47 Q fr m = GX Try.prog tb (.reg r_k1_IntsApart_21) Q fr m) ∧
  (∀ Q fr m, GX Try.prog tb k_k1_IntsApart_35 Q fr m = GX Try.prog tb (.seq k_k1_IntsApart_36 k_k1_IntsApart_47) Q fr m) ∧
  (∀ Q fr m, GX Try.prog tb k_k1_IntsApart_34 Q fr m = GX Try.prog tb (.seq (.reg r_k1_IntsApart_15) k_k1_IntsApart_35) Q fr m) ∧
  (∀ Q fr m, GX Try.prog tb k_k1_IntsApart_33 Q fr m = GX Try.prog tb (.block 5 k_k1_IntsApart_34) Q fr m) ∧
  (∀ Q fr m, GX Try.prog tb k_k1_IntsApart_48 Q fr m = GX Try.prog tb (.reg r_k1_IntsApart_14) Q fr m) ∧
  (∀ Q fr m, GX Try.prog tb k_k1_IntsApart_32 Q fr m = GX Try.prog tb (.seq k_k1_IntsApart_33 k_k1_IntsApart_48) Q fr m) ∧
  (∀ Q fr m, GX Try.prog tb k_k1_IntsApart_29 Q fr m = GX Try.prog tb (.seq k_k1_IntsApart_30 k_k1_IntsApart_32) Q fr m) ∧
  (∀ Q fr m, GX Try.prog tb k_k1_IntsApart_28 Q fr m = GX Try.prog tb (.loop k_k1_IntsApart_29) Q fr m) ∧
  (∀ Q fr m, GX Try.prog tb k_k1_IntsApart_27 Q fr m = GX Try.prog tb (.block 4 k_k1_IntsApart_28) Q fr m) ∧
  (∀ Q fr m, GX Try.prog tb k_k1_IntsApart_26 Q fr m = GX Try.prog tb (.seq (.reg r_k1_IntsApart_12) k_k1_IntsApart_27) Q fr m) ∧
  (∀ Q fr m, GX Try.prog tb k_k1_IntsApart_56 Q fr m = GX Try.prog tb (.cond (tm 67) .skip (.exit 8)) Q fr m) ∧
  (∀ Q fr m, GX Try.prog tb k_k1_IntsApart_55 Q fr m = GX Try.prog tb (.seq (.reg r_k1_IntsApart_24) k_k1_IntsApart_56) Q fr m) ∧
  (∀ Q fr m, GX Try.prog tb k_k1_IntsApart_64 Q fr m = GX Try.prog tb (.cond (tm 76) .skip (.exit 10)) Q fr m) ∧
  (∀ Q fr m, GX Try.prog tb k_k1_IntsApart_63 Q fr m = GX Try.prog tb (.seq (.reg r_k1_IntsApart_27) k_k1_IntsApart_64) Q fr m) ∧
  (∀ Q fr m, GX Try.prog tb k_k1_IntsApart_70 Q fr m = GX Try.prog tb (.seq (.reg r_k1_IntsApart_30) .ret) Q fr m) ∧
  (∀ Q fr m, GX Try.prog tb k_k1_IntsApart_69 Q fr m = GX Try.prog tb (.cond (tm 87) k_k1_IntsApart_70 .skip) Q fr m) ∧
  (∀ Q fr m, GX Try.prog tb k_k1_IntsApart_68 Q fr m = GX Try.prog tb (.seq (.reg r_k1_IntsApart_29) k_k1_IntsApart_69) Q fr m) ∧
  (∀ Q fr m, GX Try.prog tb k_k1_IntsApart_71 Q fr m = GX Try.prog tb (.reg r_k1_IntsApart_31) Q fr m) ∧
  (∀ Q fr m, GX Try.prog tb k_k1_IntsApart_67 Q fr m = GX Try.prog tb (.seq k_k1_IntsApart_68 k_k1_IntsApart_71) Q fr m) ∧
  (∀ Q fr m, GX Try.prog tb k_k1_IntsApart_66 Q fr m = GX Try.prog tb (.block 11 k_k1_IntsApart_67) Q fr m) ∧
  (∀ Q fr m, GX Try.prog tb k_k1_IntsApart_72 Q fr m = GX Try.prog tb (.reg r_k1_IntsApart_28) Q fr m) ∧
  (∀ Q fr m, GX Try.prog tb k_k1_IntsApart_65 Q fr m = GX Try.prog tb (.seq k_k1_IntsApart_66 k_k1_IntsApart_72) Q fr m) ∧
  (∀ Q fr m, GX Try.prog tb k_k1_IntsApart_62 Q fr m = GX Try.prog tb (.seq k_k1_IntsApart_63 k_k1_IntsApart_65) Q fr m) ∧
  (∀ Q fr m, GX Try.prog tb k_k1_IntsApart_61 Q fr m = GX Try.prog tb (.loop k_k1_IntsApart_62) Q fr m) ∧
  (∀ Q fr m, GX Try.prog tb k_k1_IntsApart_60 Q fr m = GX Try.prog tb (.block 10 k_k1_IntsApart_61) Q fr m) ∧
  (∀ Q fr m, GX Try.prog tb k_k1_IntsApart_59 Q fr m = GX Try.prog tb (.seq (.reg r_k1_IntsApart_26) k_k1_IntsApart_60) Q fr m) ∧
  (∀ Q fr m, GX Try.prog tb k_k1_IntsApart_58 Q fr m = GX Try.prog tb (.block 9 k_k1_IntsApart_59) Q fr m) ∧
  (∀ Q fr m, GX Try.prog tb k_k1_IntsApart_73 Q fr m = GX Try.prog tb (.reg r_k1_IntsApart_25) Q fr m) ∧
  (∀ Q fr m, GX Try.prog tb k_k1_IntsApart_57 Q fr m = GX Try.prog tb (.seq k_k1_IntsApart_58 k_k1_IntsApart_73) Q fr m) ∧
  (∀ Q fr m, GX Try.prog tb k_k1_IntsApart_54 Q fr m = GX Try.prog tb (.seq k_k1_IntsApart_55 k_k1_IntsApart_57) Q fr m) ∧
  (∀ Q fr m, GX Try.prog tb k_k1_IntsApart_53 Q fr m = GX Try.prog tb (.loop k_k1_IntsApart_54) Q fr m) ∧
  (∀ Q fr m, GX Try.prog tb k_k1_IntsApart_52 Q fr m = GX Try.prog tb (.block 8 k_k1_IntsApart_53) Q fr m) ∧
  (∀ Q fr m, GX Try.prog tb k_k1_IntsApart_51 Q fr m = GX Try.prog tb (.seq (.reg r_k1_IntsApart_23) k_k1_IntsApart_52) Q fr m) ∧
  (∀ Q fr m, GX Try.prog tb k_k1_IntsApart_80 Q fr m = GX Try.prog tb (.cond (tm 93) .skip (.exit 12)) Q fr m) ∧
  (∀ Q fr m, GX Try.prog tb k_k1_IntsApart_79 Q fr m = GX Try.prog tb (.seq (.reg r_k1_IntsApart_33) k_k1_IntsApart_80) Q fr m) ∧
  (∀ Q fr m, GX Try.prog tb k_k1_IntsApart_88 Q fr m = GX Try.prog tb (.cond (tm 107) .skip (.exit 14)) Q fr m) ∧
  (∀ Q fr m, GX Try.prog tb k_k1_IntsApart_87 Q fr m = GX Try.prog tb (.seq (.reg r_k1_IntsApart_36) k_k1_IntsApart_88) Q fr m) ∧
  (∀ Q fr m, GX Try.prog tb k_k1_IntsApart_94 Q fr m = GX Try.prog tb (.seq (.reg r_k1_IntsApart_39) .ret) Q fr m) ∧
  (∀ Q fr m, GX Try.prog tb k_k1_IntsApart_93 Q fr m = GX Try.prog tb (.cond (tm 118) k_k1_IntsApart_94 .skip) Q fr m) ∧
  (∀ Q fr m, GX Try.prog tb k_k1_IntsApart_92 Q fr m = GX Try.prog tb (.seq (.reg r_k1_IntsApart_38) k_k1_IntsApart_93) Q fr m) ∧
  (∀ Q fr m, GX Try.prog tb k_k1_IntsApart_95 Q fr m = GX Try.prog tb (.reg r_k1_IntsApart_40) Q fr m) ∧
  (∀ Q fr m, GX Try.prog tb k_k1_IntsApart_91 Q fr m = GX Try.prog tb (.seq k_k1_IntsApart_92 k_k1_IntsApart_95) Q fr m) ∧
  (∀ Q fr m, GX Try.prog tb k_k1_IntsApart_90 Q fr m = GX Try.prog tb (.block 15 k_k1_IntsApart_91) Q fr m) ∧
  (∀ Q fr m, GX Try.prog tb k_k1_IntsApart_96 Q fr m = GX Try.prog tb (.reg r_k1_IntsApart_37) Q fr m) ∧
  (∀ Q fr m, GX Try.prog tb k_k1_IntsApart_89 Q fr m = GX Try.prog tb (.seq k_k1_IntsApart_90 k_k1_IntsApart_96) Q fr m) ∧
  (∀ Q fr m, GX Try.prog tb k_k1_IntsApart_86 Q fr m = GX Try.prog tb (.seq k_k1_IntsApart_87 k_k1_IntsApart_89) Q fr m) ∧
  (∀ Q fr m, GX Try.prog tb k_k1_IntsApart_85 Q fr m = GX Try.prog tb (.loop k_k1_IntsApart_86) Q fr m) ∧
  (∀ Q fr m, GX Try.prog tb k_k1_IntsApart_84 Q fr m = GX Try.prog tb (.block 14 k_k1_IntsApart_85) Q fr m) ∧
  (∀ Q fr m, GX Try.prog tb k_k1_IntsApart_83 Q fr m = GX Try.prog tb (.seq (.reg r_k1_IntsApart_35) k_k1_IntsApart_84) Q fr m) ∧
  (∀ Q fr m, GX Try.prog tb k_k1_IntsApart_82 Q fr m = GX Try.prog tb (.block 13 k_k1_IntsApart_83) Q fr m) ∧
  (∀ Q fr m, GX Try.prog tb k_k1_IntsApart_97 Q fr m = GX Try.prog tb (.reg r_k1_IntsApart_34) Q fr m) ∧
  (∀ Q fr m, GX Try.prog tb k_k1_IntsApart_81 Q fr m = GX Try.prog tb (.seq k_k1_IntsApart_82 k_k1_IntsApart_97) Q fr m) ∧
  (∀ Q fr m, GX Try.prog tb k_k1_IntsApart_78 Q fr m = GX Try.prog tb (.seq k_k1_IntsApart_79 k_k1_IntsApart_81) Q fr m) ∧
  (∀ Q fr m, GX Try.prog tb k_k1_IntsApart_77 Q fr m = GX Try.prog tb (.loop k_k1_IntsApart_78) Q fr m) ∧
  (∀ Q fr m, GX Try.prog tb k_k1_IntsApart_76 Q fr m = GX Try.prog tb (.block 12 k_k1_IntsApart_77) Q fr m) ∧
  (∀ Q fr m, GX Try.prog tb k_k1_IntsApart_75 Q fr m = GX Try.prog tb (.seq (.reg r_k1_IntsApart_32) k_k1_IntsApart_76) Q fr m) ∧
  (∀ Q fr m, GX Try.prog tb k_k1_IntsApart_98 Q fr m = GX Try.prog tb (.seq (.reg r_k1_IntsApart_41) .ret) Q fr m) ∧
  (∀ Q fr m, GX Try.prog tb k_k1_IntsApart_74 Q fr m = GX Try.prog tb (.seq k_k1_IntsApart_75 k_k1_IntsApart_98) Q fr m) ∧
  (∀ Q fr m, GX Try.prog tb k_k1_IntsApart_50 Q fr m = GX Try.prog tb (.seq k_k1_IntsApart_51 k_k1_IntsApart_74) Q fr m) ∧
  (∀ Q fr m, GX Try.prog tb k_k1_IntsApart_49 Q fr m = GX Try.prog tb (.seq (.reg r_k1_IntsApart_22) k_k1_IntsApart_50) Q fr m) ∧
  (∀ Q fr m, GX Try.prog tb k_k1_IntsApart_25 Q fr m = GX Try.prog tb (.seq k_k1_IntsApart_26 k_k1_IntsApart_49) Q fr m) ∧
  (∀ Q fr m, GX Try.prog tb k_k1_IntsApart_24 Q fr m = GX Try.prog tb (.seq (.reg r_k1_IntsApart_11) k_k1_IntsApart_25) Q fr m) ∧
  (∀ Q fr m, GX Try.prog tb k_k1_IntsApart_23 Q fr m = GX Try.prog tb (.seq (.reg r_k1_IntsApart_10) k_k1_IntsApart_24) Q fr m) ∧
  (∀ Q fr m, GX Try.prog tb k_k1_IntsApart_2 Q fr m = GX Try.prog tb (.seq k_k1_IntsApart_3 k_k1_IntsApart_23) Q fr m) ∧
  (∀ Q fr m, GX Try.prog tb k_k1_IntsApart_1 Q fr m = GX Try.prog tb (.seq (.reg r_k1_IntsApart_1) k_k1_IntsApart_2) Q fr m) ∧
  (∀ Q fr m, GX Try.prog tb c_k1_IntsApart Q fr m = GX Try.prog tb (.seq (.reg r_k1_IntsApart_0) k_k1_IntsApart_1) Q fr m) := ⟨fun _ _ _ => rfl, fun _ _ _ => rfl, fun _ _ _ => rfl, fun _ _ _ => rfl, fun _ _ _ => rfl, fun _ _ _ => rfl, fun _ _ _ => rfl, fun _ _ _ => rfl, fun _ _ _ => rfl, fun _ _ _ => rfl, fun _ _ _ => rfl, fun _ _ _ => rfl, fun _ _ _ => rfl, fun _ _ _ => rfl, fun _ _ _ => rfl, fun _ _ _ => rfl, fun _ _ _ => rfl, fun _ _ _ => rfl, fun _ _ _ => rfl, fun _ _ _ => rfl, fun _ _ _ => rfl, fun _ _ _ => rfl, fun _ _ _ => rfl, fun _ _ _ => rfl, fun _ _ _ => rfl, fun _ _ _ => rfl, fun _ _ _ => rfl, fun _ _ _ => rfl, fun _ _ _ => rfl, fun _ _ _ => rfl, fun _ _ _ => rfl, fun _ _ _ => rfl, fun _ _ _ => rfl, fun _ _ _ => rfl, fun _ _ _ => rfl, fun _ _ _ => rfl, fun _ _ _ => rfl, fun _ _ _ => rfl, fun _ _ _ => rfl, fun _ _ _ => rfl, fun _ _ _ => rfl, fun _ _ _ => rfl, fun _ _ _ => rfl, fun _ _ _ => rfl, fun _ _ _ => rfl, fun _ _ _ => rfl, fun _ _ _ => rfl, fun _ _ _ => rfl, fun _ _ _ => rfl, fun _ _ _ => rfl, fun _ _ _ => rfl, fun _ _ _ => rfl, fun _ _ _ => rfl, fun _ _ _ => rfl, fun _ _ _ => rfl, fun _ _ _ => rfl, fun _ _ _ => rfl, fun _ _ _ => rfl, fun _ _ _ => rfl, fun _ _ _ => rfl, fun _ _ _ => rfl, fun _ _ _ => rfl, fun _ _ _ => rfl, fun _ _ _ => rfl, fun _ _ _ => rfl, fun _ _ _ => rfl, fun _ _ _ => rfl, fun _ _ _ => rfl, fun _ _ _ => rfl, fun _ _ _ => rfl, fun _ _ _ => rfl, fun _ _ _ => rfl, fun _ _ _ => rfl, fun _ _ _ => rfl, fun _ _ _ => rfl, fun _ _ _ => rfl, fun _ _ _ => rfl, fun _ _ _ => rfl, fun _ _ _ => rfl, fun _ _ _ => rfl, fun _ _ _ => rfl, fun _ _ _ => rfl, fun _ _ _ => rfl, fun _ _ _ => rfl, fun _ _ _ => rfl, fun _ _ _ => rfl, fun _ _ _ => rfl, fun _ _ _ => rfl, fun _ _ _ => rfl, fun _ _ _ => rfl, fun _ _ _ => rfl, fun _ _ _ => rfl, fun _ _ _ => rfl, fun _ _ _ => rfl, fun _ _ _ => rfl, fun _ _ _ => rfl, fun _ _ _ => rfl, fun _ _ _ => rfl, fun _ _ _ => rfl⟩
noncomputable def k_k1_mark_1 : CC := (.seq (.reg r_k1_mark_1) .ret)
theorem o_k1_mark : (∀ Q fr m, GX Try.prog tb k_k1_mark_1 Q fr m = GX Try.prog tb (.seq (.reg r_k1_mark_1) .ret) Q fr m) ∧
  (∀ Q fr m, GX Try.prog tb c_k1_mark Q fr m = GX Try.prog tb (.seq (.reg r_k1_mark_0) k_k1_mark_1) Q fr m) := ⟨fun _ _ _ => rfl, fun _ _ _ => rfl⟩
end Go.Proofs.Ytmkbjcjlnidjiaa
