import Derived.Test.YtcbafpfljencdaaAmZa
import Derived.Test.YtcbafpfljencdaaRows
/- The code of the package piece and of its laws, made ready for the abstract machine (printed by pp.lean). -/
namespace Go.Proofs.Ytcbafpfljencdaa
open Go.Am

noncomputable def tb : Tb := withTrue (tb0 Try.prog) [8]
theorem tb_fs : tb.fs = tabOf Try.prog := rfl
/-! 9: skerry/piece.New -/
noncomputable def r9_0 : List CO := [
  .op (some (pth 2)) none (.mv (.cst nilp)),
  .op (some (pth 3)) none (.mv (.cst (iv 0)))]
noncomputable def r9_1 : List CO := [
  .op (some (pth 5)) none (.mv (tm 0)),
  .op (some (pth 6)) none (.len true (tm 5)),
  .op (some (pth 7)) none (.gt (binS Try.prog .gtr 3) (tm 6) (.cst (iv 65536)))]
noncomputable def r9_2 : List CO := [
  .op (some (pth 2)) none (.mv (.cst nilp)),
  .op (some (pth 3)) none (.mv (.cst (iv 5)))]
noncomputable def r9_3 : List CO := [
  .op (some (pth 8)) none (.build [nils, nils, (iv 0), nils] []),
  .op (some (pth 9)) none (.box 52 (tm 8)),
  .op (some (pth 4)) none (.mv (tm 9))]
noncomputable def r9_4 : List CO := [
  .op (some (pth 10)) none (.mv (tm 4)),
  .op (some (pth 11)) none (.mv (tm 0)),
  .call (some (pth 12)) none (.cst (.func 25 [])) [(tm 10), (.cst (iv 0)), (tm 11)]]
noncomputable def r9_5 : List CO := [
  .op (some (pth 13)) none (.mv (tm 4)),
  .op (some (pth 2)) none (.mv (tm 13)),
  .op (some (pth 3)) none (.mv (.cst (iv 0)))]
noncomputable def c9 : CC := (.seq (.reg r9_0) (.seq (.seq (.reg r9_1) (.cond (tm 7) (.seq (.reg r9_2) .ret) .skip)) (.seq (.reg r9_3) (.seq (.reg r9_4) (.seq (.reg r9_5) .ret)))))
theorem at9 : FnAt Try.prog tb 9 c9 14 [.tmp 2, .tmp 3] := fnAt_of tb_fs Try.func9 rfl (by kernel_rfl) (by kernel_rfl) rfl rfl
/-! 10:   skerry/piece.Doc .Text -/
noncomputable def r10_0 : List CO := [
  .op (some (pth 2)) none (.mv (.cst (tv [])))]
noncomputable def r10_1 : List CO := [
  .op (some (pth 6)) none (.mv (tm 0)),
  .op (some (pth 7)) none (.mv (tm 0)),
  .call (some (pth 8)) none (.cst (.func 13 [])) [(tm 7)],
  .call (some (pth 9)) none (.cst (.func 12 [])) [(tm 6), (.cst (iv 0)), (tm 8)],
  .op (some (pth 5)) none (.mv (tm 9)),
  .op (some (pth 10)) none (.ext 0 (tm 5)),
  .op (some (pth 11)) none (.ext 1 (tm 5)),
  .op (some (pth 3)) none (.mv (tm 10)),
  .op (some (pth 4)) none (.mv (tm 11))]
noncomputable def r10_2 : List CO := [
  .op (some (pth 12)) none (.mv (tm 3)),
  .op (some (pth 2)) none (.mv (tm 12))]
noncomputable def c10 : CC := (.seq (.reg r10_0) (.seq (.reg r10_1) (.seq (.reg r10_2) .ret)))
theorem at10 : FnAt Try.prog tb 10 c10 13 [.tmp 2] := fnAt_of tb_fs Try.func10 rfl (by kernel_rfl) (by kernel_rfl) rfl rfl
/-! 11:   skerry/piece.Doc .Apply -/
noncomputable def r11_0 : List CO := [
  .op (some (pth 3)) none (.box 31 (tm 1)),
  .op (some (pth 4)) none (.mv (.cst (iv 0)))]
noncomputable def r11_1 : List CO := [
  .op (some (pth 8)) none (.mv (tm 0)),
  .op (some (pth 9)) none (.loadN 3 (tm 3)),
  .call (some (pth 10)) none (.cst (.func 15 [])) [(tm 8), (tm 9)],
  .op (some (pth 7)) none (.mv (tm 10)),
  .op (some (pth 11)) none (.ext 0 (tm 7)),
  .op (some (pth 12)) none (.ext 1 (tm 7)),
  .op (some (pth 5)) none (.alloc 31 3 [(iv 0), (iv 0), (tv [])]),
  .op none none (.store 3 (tm 5) (tm 11)),
  .op (some (pth 6)) none (.mv (tm 12))]
noncomputable def r11_2 : List CO := [
  .op (some (pth 13)) none (.mv (tm 6)),
  .op (some (pth 14)) none (.ne (binS Try.prog .neq 25) (tm 13) (.cst (iv 0)))]
noncomputable def r11_3 : List CO := [
  .op (some (pth 15)) none (.mv (tm 6)),
  .op (some (pth 4)) none (.mv (tm 15))]
noncomputable def r11_4 : List CO := [
  .op (some (pth 16)) none (.mv (tm 0)),
  .op (some (pth 17)) none (.loadN 3 (tm 3)),
  .call (some (pth 18)) none (.cst (.func 26 [])) [(tm 16), (tm 17)]]
noncomputable def r11_5 : List CO := [
  .op (some (pth 19)) none (.mv (tm 0)),
  .op (some (pth 20)) none (.mv (tm 0)),
  .op (some (pth 21)) none (.nil (tm 20)),
  .op (some (pth 22)) none (.fa 3 (tm 21)),
  .op (some (pth 23)) none (.load (tm 22)),
  .op (some (pth 24)) none (.loadN 3 (tm 5)),
  .op (some (pth 25)) none (.bslice 31 1 3 [(iv 0), (iv 0), (tv [])] [(0, 3, (tm 24))]),
  .op (some (pth 26)) none (.app 31 3 32 [(iv 0), (iv 0), (tv [])] (tm 23) (tm 25)),
  .op (some (pth 27)) none (.nil (tm 19)),
  .op (some (pth 28)) none (.fa 3 (tm 27)),
  .op none none (.store 1 (tm 28) (tm 26))]
noncomputable def r11_6 : List CO := [
  .op (some (pth 4)) none (.mv (.cst (iv 0)))]
noncomputable def c11 : CC := (.seq (.reg r11_0) (.seq (.reg r11_1) (.seq (.seq (.reg r11_2) (.cond (tm 14) (.seq (.reg r11_3) .ret) .skip)) (.seq (.reg r11_4) (.seq (.drawn r11_5 [(4, 0), (4, 7), (5, 0)]) (.seq (.reg r11_6) .ret))))))
theorem at11 : FnAt Try.prog tb 11 c11 29 [.tmp 4] := fnAt_of tb_fs Try.func11 rfl (by kernel_rfl) (by kernel_rfl) rfl rfl
/-! 12:   skerry/piece.Doc .Slice -/
noncomputable def r12_0 : List CO := [
  .op (some (pth 6)) none (.mv (.cst (tv []))),
  .op (some (pth 7)) none (.mv (.cst (iv 0)))]
noncomputable def r12_1 : List CO := [
  .op (some (pth 14)) none (.mv (tm 0)),
  .op (some (pth 15)) none (.eqp false (binS Try.prog .eql 24) (tm 14) (.cst nilp)),
  .op (some (pth 13)) none (.mv (tm 15))]
noncomputable def r12_2 : List CO := [
  .op (some (pth 6)) none (.mv (.cst (tv []))),
  .op (some (pth 7)) none (.mv (.cst (iv 1)))]
noncomputable def r12_3 : List CO := [
  .op (some (pth 17)) none (.mv (tm 1)),
  .op (some (pth 18)) none (.lt (binS Try.prog .lss 3) (tm 17) (.cst (iv 0))),
  .op (some (pth 19)) none (.mv (tm 18)),
  .op (some (pth 20)) (some (pth 19, false)) (.mv (tm 2)),
  .op (some (pth 21)) (some (pth 19, false)) (.lt (binS Try.prog .lss 3) (tm 20) (.cst (iv 0))),
  .op (some (pth 22)) none (.pick (tm 19) (.cst (.b true)) (tm 21)),
  .op (some (pth 23)) none (.mv (tm 22)),
  .op (some (pth 24)) (some (pth 23, false)) (.mv (tm 1)),
  .op (some (pth 25)) (some (pth 23, false)) (.mv (tm 0)),
  .op (some (pth 26)) (some (pth 23, false)) (.nil (tm 25)),
  .op (some (pth 27)) (some (pth 23, false)) (.fa 2 (tm 26)),
  .op (some (pth 28)) (some (pth 23, false)) (.load (tm 27)),
  .op (some (pth 29)) (some (pth 23, false)) (.gt (binS Try.prog .gtr 3) (tm 24) (tm 28)),
  .op (some (pth 30)) none (.pick (tm 23) (.cst (.b true)) (tm 29)),
  .op (some (pth 31)) none (.mv (tm 30)),
  .op (some (pth 32)) (some (pth 31, false)) (.mv (tm 2)),
  .op (some (pth 33)) (some (pth 31, false)) (.mv (tm 0)),
  .op (some (pth 34)) (some (pth 31, false)) (.nil (tm 33)),
  .op (some (pth 35)) (some (pth 31, false)) (.fa 2 (tm 34)),
  .op (some (pth 36)) (some (pth 31, false)) (.load (tm 35)),
  .op (some (pth 37)) (some (pth 31, false)) (.mv (tm 1)),
  .op (some (pth 38)) (some (pth 31, false)) (.sub (binS Try.prog .sub 3) (tm 36) (tm 37)),
  .op (some (pth 39)) (some (pth 31, false)) (.gt (binS Try.prog .gtr 3) (tm 32) (tm 38)),
  .op (some (pth 40)) none (.pick (tm 31) (.cst (.b true)) (tm 39)),
  .op (some (pth 16)) none (.mv (tm 40))]
noncomputable def r12_4 : List CO := [
  .op (some (pth 6)) none (.mv (.cst (tv []))),
  .op (some (pth 7)) none (.mv (.cst (iv 2)))]
noncomputable def r12_5 : List CO := [
  .op (some (pth 8)) none (.alloc 58 2 [nilp, nils])]
noncomputable def r12_6 : List CO := [
  .op (some (pth 41)) none (.mv (tm 0)),
  .op (some (pth 42)) none (.nil (tm 41)),
  .op (some (pth 43)) none (.fa 0 (tm 42)),
  .op (some (pth 44)) none (.fa 1 (tm 43)),
  .op (some (pth 45)) none (.load (tm 44)),
  .op (some (pth 46)) none (.len false (tm 45)),
  .op (some (pth 47)) none (.mv (.cst (iv 0)))]
noncomputable def r12_7 : List CO := [
  .op (some (pth 48)) none (.lt (binS Try.prog .lss 3) (tm 47) (tm 46))]
noncomputable def r12_8 : List CO := [
  .op (some (pth 49)) none (.iaS 3 (tm 45) (tm 47)),
  .op (some (pth 50)) none (.loadN 3 (tm 49)),
  .op (some (pth 10)) none (.alloc 60 3 [(iv 0), (iv 0), (iv 0)]),
  .op none none (.store 3 (tm 10) (tm 50))]
noncomputable def r12_9 : List CO := [
  .op (some (pth 51)) none (.mv (tm 1)),
  .op (some (pth 52)) none (.max (.cst (iv 0)) (tm 51)),
  .op (some (pth 53)) none (.fa 2 (tm 10)),
  .op (some (pth 54)) none (.load (tm 53)),
  .op (some (pth 55)) none (.mv (tm 1)),
  .op (some (pth 56)) none (.mv (tm 2)),
  .op (some (pth 57)) none (.add (binS Try.prog .add 3) (tm 55) (tm 56)),
  .op (some (pth 58)) none (.min (tm 54) (tm 57)),
  .op (some (pth 11)) none (.mv (tm 52)),
  .op (some (pth 12)) none (.mv (tm 58))]
noncomputable def r12_10 : List CO := [
  .op (some (pth 59)) none (.mv (tm 11)),
  .op (some (pth 60)) none (.mv (tm 12)),
  .op (some (pth 61)) none (.lt (binS Try.prog .lss 3) (tm 59) (tm 60))]
noncomputable def r12_11 : List CO := [
  .op (some (pth 62)) none (.mv (tm 0)),
  .op (some (pth 63)) none (.nil (tm 62)),
  .op (some (pth 64)) none (.fa 0 (tm 63)),
  .op (some (pth 65)) none (.fa 0 (tm 64)),
  .op (some (pth 66)) none (.load (tm 65)),
  .op (some (pth 67)) none (.fa 0 (tm 10)),
  .op (some (pth 68)) none (.load (tm 67)),
  .op (some (pth 69)) none (.iaS 1 (tm 66) (tm 68)),
  .op (some (pth 70)) none (.load (tm 69)),
  .op (some (pth 71)) none (.fa 1 (tm 10)),
  .op (some (pth 72)) none (.load (tm 71)),
  .op (some (pth 73)) none (.mv (tm 11)),
  .op (some (pth 74)) none (.add (binS Try.prog .add 3) (tm 72) (tm 73)),
  .op (some (pth 75)) none (.fa 1 (tm 10)),
  .op (some (pth 76)) none (.load (tm 75)),
  .op (some (pth 77)) none (.mv (tm 12)),
  .op (some (pth 78)) none (.add (binS Try.prog .add 3) (tm 76) (tm 77)),
  .op (some (pth 79)) none (.sls (tm 70) (some (tm 74)) (some (tm 78))),
  .call (some (pth 80)) none (.cst (.func 27 [])) [(tm 8), (tm 79)]]
noncomputable def r12_12 : List CO := [
  .op (some (pth 81)) none (.mv (tm 1)),
  .op (some (pth 82)) none (.fa 2 (tm 10)),
  .op (some (pth 83)) none (.load (tm 82)),
  .op (some (pth 84)) none (.sub (binS Try.prog .sub 3) (tm 81) (tm 83)),
  .op (some (pth 1)) none (.mv (tm 84))]
noncomputable def r12_13 : List CO := [
  .op (some (pth 85)) none (.add (binS Try.prog .add 3) (tm 47) (.cst (iv 1))),
  .op (some (pth 47)) none (.mv (tm 85))]
noncomputable def r12_14 : List CO := [
  .call (some (pth 86)) none (.cst (.func 28 [])) [(tm 8)],
  .op (some (pth 6)) none (.mv (tm 86)),
  .op (some (pth 7)) none (.mv (.cst (iv 0)))]
noncomputable def c12 : CC := (.seq (.reg r12_0) (.seq (.block 0 (.seq (.reg r12_1) (.cond (tm 13) (.seq (.reg r12_2) .ret) (.seq (.reg r12_3) (.cond (tm 16) (.seq (.reg r12_4) .ret) .skip))))) (.seq (.reg r12_5) (.seq (.seq (.reg r12_6) (.block 1 (.loop (.seq (.reg r12_7) (.seq (.cond (tm 48) .skip (.exit 1)) (.seq (.block 2 (.seq (.reg r12_8) (.seq (.drawn r12_9 [(3, 0)]) (.seq (.seq (.reg r12_10) (.cond (tm 61) (.drawn r12_11 [(4, 0), (6, 0), (8, 0), (10, 0), (14, 0)]) .skip)) (.reg r12_12))))) (.reg r12_13))))))) (.seq (.reg r12_14) .ret)))))
theorem at12 : FnAt Try.prog tb 12 c12 87 [.tmp 6, .tmp 7] := fnAt_of tb_fs Try.func12 rfl (by kernel_rfl) (by kernel_rfl) rfl rfl
/-! 13:   skerry/piece.Doc .Len -/
noncomputable def r13_0 : List CO := [
  .op (some (pth 2)) none (.mv (.cst (iv 0)))]
noncomputable def r13_1 : List CO := [
  .op (some (pth 3)) none (.mv (tm 0)),
  .op (some (pth 4)) none (.eqp false (binS Try.prog .eql 24) (tm 3) (.cst nilp))]
noncomputable def r13_2 : List CO := [
  .op (some (pth 2)) none (.mv (.cst (iv 0)))]
noncomputable def r13_3 : List CO := [
  .op (some (pth 5)) none (.mv (tm 0)),
  .op (some (pth 6)) none (.nil (tm 5)),
  .op (some (pth 7)) none (.fa 2 (tm 6)),
  .op (some (pth 8)) none (.load (tm 7)),
  .op (some (pth 2)) none (.mv (tm 8))]
noncomputable def c13 : CC := (.seq (.reg r13_0) (.seq (.seq (.reg r13_1) (.cond (tm 4) (.seq (.reg r13_2) .ret) .skip)) (.seq (.reg r13_3) .ret)))
theorem at13 : FnAt Try.prog tb 13 c13 9 [.tmp 2] := fnAt_of tb_fs Try.func13 rfl (by kernel_rfl) (by kernel_rfl) rfl rfl
/-! 14:   skerry/piece.Doc .Edits -/
noncomputable def r14_0 : List CO := [
  .op (some (pth 2)) none (.mv (.cst (iv 0)))]
noncomputable def r14_1 : List CO := [
  .op (some (pth 3)) none (.mv (tm 0)),
  .op (some (pth 4)) none (.eqp false (binS Try.prog .eql 24) (tm 3) (.cst nilp))]
noncomputable def r14_2 : List CO := [
  .op (some (pth 2)) none (.mv (.cst (iv 0)))]
noncomputable def r14_3 : List CO := [
  .op (some (pth 5)) none (.mv (tm 0)),
  .op (some (pth 6)) none (.nil (tm 5)),
  .op (some (pth 7)) none (.fa 3 (tm 6)),
  .op (some (pth 8)) none (.load (tm 7)),
  .op (some (pth 9)) none (.len false (tm 8)),
  .op (some (pth 2)) none (.mv (tm 9))]
noncomputable def c14 : CC := (.seq (.reg r14_0) (.seq (.seq (.reg r14_1) (.cond (tm 4) (.seq (.reg r14_2) .ret) .skip)) (.seq (.reg r14_3) .ret)))
theorem at14 : FnAt Try.prog tb 14 c14 10 [.tmp 2] := fnAt_of tb_fs Try.func14 rfl (by kernel_rfl) (by kernel_rfl) rfl rfl
/-! 15:   skerry/piece.Doc .Inverse -/
noncomputable def r15_0 : List CO := [
  .op (some (pth 3)) none (.box 31 (tm 1)),
  .op (some (pth 4)) none (.alloc 31 3 [(iv 0), (iv 0), (tv [])]),
  .op (some (pth 5)) none (.mv (.cst (iv 0)))]
noncomputable def r15_1 : List CO := [
  .op (some (pth 9)) none (.mv (tm 0)),
  .op (some (pth 10)) none (.fa 0 (tm 3)),
  .op (some (pth 11)) none (.load (tm 10)),
  .op (some (pth 12)) none (.fa 1 (tm 3)),
  .op (some (pth 13)) none (.load (tm 12)),
  .call (some (pth 14)) none (.cst (.func 12 [])) [(tm 9), (tm 11), (tm 13)],
  .op (some (pth 8)) none (.mv (tm 14)),
  .op (some (pth 15)) none (.ext 0 (tm 8)),
  .op (some (pth 16)) none (.ext 1 (tm 8)),
  .op (some (pth 6)) none (.mv (tm 15)),
  .op (some (pth 7)) none (.mv (tm 16))]
noncomputable def r15_2 : List CO := [
  .op (some (pth 18)) none (.mv (tm 7)),
  .op (some (pth 19)) none (.ne (binS Try.prog .neq 25) (tm 18) (.cst (iv 0))),
  .op (some (pth 17)) none (.mv (tm 19))]
noncomputable def r15_3 : List CO := [
  .op (some (pth 20)) none (.build [(iv 0), (iv 0), (tv [])] []),
  .op (some (pth 21)) none (.mv (tm 7)),
  .op none none (.store 3 (tm 4) (tm 20)),
  .op (some (pth 5)) none (.mv (tm 21))]
noncomputable def r15_4 : List CO := [
  .op (some (pth 23)) none (.fa 2 (tm 3)),
  .op (some (pth 24)) none (.load (tm 23)),
  .op (some (pth 25)) none (.len true (tm 24)),
  .op (some (pth 26)) none (.mv (tm 0)),
  .op (some (pth 27)) none (.nil (tm 26)),
  .op (some (pth 28)) none (.fa 2 (tm 27)),
  .op (some (pth 29)) none (.load (tm 28)),
  .op (some (pth 30)) none (.fa 1 (tm 3)),
  .op (some (pth 31)) none (.load (tm 30)),
  .op (some (pth 32)) none (.sub (binS Try.prog .sub 3) (tm 29) (tm 31)),
  .op (some (pth 33)) none (.sub (binS Try.prog .sub 3) (.cst (iv 65536)) (tm 32)),
  .op (some (pth 34)) none (.gt (binS Try.prog .gtr 3) (tm 25) (tm 33)),
  .op (some (pth 22)) none (.mv (tm 34))]
noncomputable def r15_5 : List CO := [
  .op (some (pth 35)) none (.build [(iv 0), (iv 0), (tv [])] []),
  .op none none (.store 3 (tm 4) (tm 35)),
  .op (some (pth 5)) none (.mv (.cst (iv 5)))]
noncomputable def r15_6 : List CO := [
  .op (some (pth 36)) none (.fa 0 (tm 3)),
  .op (some (pth 37)) none (.load (tm 36)),
  .op (some (pth 38)) none (.fa 2 (tm 3)),
  .op (some (pth 39)) none (.load (tm 38)),
  .op (some (pth 40)) none (.len true (tm 39)),
  .op (some (pth 41)) none (.mv (tm 6)),
  .op (some (pth 42)) none (.build [(iv 0), (iv 0), (tv [])] [(0, 1, (tm 37)), (1, 1, (tm 40)), (2, 1, (tm 41))]),
  .op none none (.store 3 (tm 4) (tm 42)),
  .op (some (pth 5)) none (.mv (.cst (iv 0)))]
noncomputable def c15 : CC := (.seq (.reg r15_0) (.seq (.reg r15_1) (.seq (.block 0 (.seq (.reg r15_2) (.cond (tm 17) (.seq (.reg r15_3) .ret) (.seq (.drawn r15_4 [(1, 0), (6, 0), (8, 0)]) (.cond (tm 22) (.seq (.reg r15_5) .ret) .skip))))) (.seq (.reg r15_6) .ret))))
theorem at15 : FnAt Try.prog tb 15 c15 43 [.cell 4 31, .tmp 5] := fnAt_of tb_fs Try.func15 rfl (by kernel_rfl) (by kernel_rfl) rfl rfl
/-! 16:   skerry/piece.Doc .Undo -/
noncomputable def r16_0 : List CO := [
  .op (some (pth 2)) none (.mv (.cst (iv 0)))]
noncomputable def r16_1 : List CO := [
  .op (some (pth 4)) none (.mv (tm 0)),
  .op (some (pth 5)) none (.eqp false (binS Try.prog .eql 24) (tm 4) (.cst nilp))]
noncomputable def r16_2 : List CO := [
  .op (some (pth 2)) none (.mv (.cst (iv 1)))]
noncomputable def r16_3 : List CO := [
  .op (some (pth 6)) none (.mv (tm 0)),
  .op (some (pth 7)) none (.nil (tm 6)),
  .op (some (pth 8)) none (.fa 3 (tm 7)),
  .op (some (pth 9)) none (.load (tm 8)),
  .op (some (pth 10)) none (.len false (tm 9)),
  .op (some (pth 11)) none (.sub (binS Try.prog .sub 3) (tm 10) (.cst (iv 1))),
  .op (some (pth 3)) none (.mv (tm 11))]
noncomputable def r16_4 : List CO := [
  .op (some (pth 12)) none (.mv (tm 3)),
  .op (some (pth 13)) none (.lt (binS Try.prog .lss 3) (tm 12) (.cst (iv 0)))]
noncomputable def r16_5 : List CO := [
  .op (some (pth 2)) none (.mv (.cst (iv 11)))]
noncomputable def r16_6 : List CO := [
  .op (some (pth 14)) none (.mv (tm 0)),
  .op (some (pth 15)) none (.mv (tm 0)),
  .op (some (pth 16)) none (.nil (tm 15)),
  .op (some (pth 17)) none (.fa 3 (tm 16)),
  .op (some (pth 18)) none (.load (tm 17)),
  .op (some (pth 19)) none (.mv (tm 3)),
  .op (some (pth 20)) none (.iaS 3 (tm 18) (tm 19)),
  .op (some (pth 21)) none (.loadN 3 (tm 20)),
  .call (some (pth 22)) none (.cst (.func 26 [])) [(tm 14), (tm 21)]]
noncomputable def r16_7 : List CO := [
  .op (some (pth 23)) none (.mv (tm 0)),
  .op (some (pth 24)) none (.mv (tm 0)),
  .op (some (pth 25)) none (.nil (tm 24)),
  .op (some (pth 26)) none (.fa 3 (tm 25)),
  .op (some (pth 27)) none (.load (tm 26)),
  .op (some (pth 28)) none (.mv (tm 3)),
  .op (some (pth 29)) none (.sl 3 false (tm 27) none (some (tm 28)) none),
  .op (some (pth 30)) none (.nil (tm 23)),
  .op (some (pth 31)) none (.fa 3 (tm 30)),
  .op none none (.store 1 (tm 31) (tm 29))]
noncomputable def r16_8 : List CO := [
  .op (some (pth 2)) none (.mv (.cst (iv 0)))]
noncomputable def c16 : CC := (.seq (.reg r16_0) (.seq (.seq (.reg r16_1) (.cond (tm 5) (.seq (.reg r16_2) .ret) .skip)) (.seq (.reg r16_3) (.seq (.seq (.reg r16_4) (.cond (tm 13) (.seq (.reg r16_5) .ret) .skip)) (.seq (.reg r16_6) (.seq (.reg r16_7) (.seq (.reg r16_8) .ret)))))))
theorem at16 : FnAt Try.prog tb 16 c16 32 [.tmp 2] := fnAt_of tb_fs Try.func16 rfl (by kernel_rfl) (by kernel_rfl) rfl rfl
/-! 24:   skerry/piece.Doc .Pieces -/
noncomputable def r24_0 : List CO := [
  .op (some (pth 2)) none (.mv (.cst (iv 0)))]
noncomputable def r24_1 : List CO := [
  .op (some (pth 3)) none (.mv (tm 0)),
  .op (some (pth 4)) none (.eqp false (binS Try.prog .eql 24) (tm 3) (.cst nilp))]
noncomputable def r24_2 : List CO := [
  .op (some (pth 2)) none (.mv (.cst (iv 0)))]
noncomputable def r24_3 : List CO := [
  .op (some (pth 5)) none (.mv (tm 0)),
  .op (some (pth 6)) none (.nil (tm 5)),
  .op (some (pth 7)) none (.fa 0 (tm 6)),
  .op (some (pth 8)) none (.fa 1 (tm 7)),
  .op (some (pth 9)) none (.load (tm 8)),
  .op (some (pth 10)) none (.len false (tm 9)),
  .op (some (pth 2)) none (.mv (tm 10))]
noncomputable def c24 : CC := (.seq (.reg r24_0) (.seq (.seq (.reg r24_1) (.cond (tm 4) (.seq (.reg r24_2) .ret) .skip)) (.seq (.reg r24_3) .ret)))
theorem at24 : FnAt Try.prog tb 24 c24 11 [.tmp 2] := fnAt_of tb_fs Try.func24 rfl (by kernel_rfl) (by kernel_rfl) rfl rfl
/-! 25:   skerry/piece.Doc .insert -/
noncomputable def r25_0 : List CO := [
  .op (some (pth 8)) none (.mv (tm 2)),
  .op (some (pth 9)) none (.eq (binS Try.prog .eql 9) (tm 8) (.cst (tv [])))]
noncomputable def r25_1 : List CO := [
  .op (some (pth 10)) none (.mv (tm 0)),
  .op (some (pth 11)) none (.nil (tm 10)),
  .op (some (pth 12)) none (.fa 0 (tm 11)),
  .op (some (pth 13)) none (.mv (tm 1)),
  .call (some (pth 14)) none (.cst (.func 30 [])) [(tm 12), (tm 13)],
  .op (some (pth 6)) none (.mv (tm 14))]
noncomputable def r25_2 : List CO := [
  .op (some (pth 15)) none (.mv (tm 0)),
  .op (some (pth 16)) none (.mv (tm 0)),
  .op (some (pth 17)) none (.nil (tm 16)),
  .op (some (pth 18)) none (.fa 0 (tm 17)),
  .op (some (pth 19)) none (.fa 0 (tm 18)),
  .op (some (pth 20)) none (.load (tm 19)),
  .op (some (pth 21)) none (.mv (tm 2)),
  .op (some (pth 22)) none (.bslice 9 1 1 [(tv [])] [(0, 1, (tm 21))]),
  .op (some (pth 23)) none (.app 9 1 16 [(tv [])] (tm 20) (tm 22)),
  .op (some (pth 24)) none (.nil (tm 15)),
  .op (some (pth 25)) none (.fa 0 (tm 24)),
  .op (some (pth 26)) none (.fa 0 (tm 25)),
  .op none none (.store 1 (tm 26) (tm 23))]
noncomputable def r25_3 : List CO := [
  .op (some (pth 27)) none (.mv (tm 0)),
  .op (some (pth 28)) none (.nil (tm 27)),
  .op (some (pth 29)) none (.fa 0 (tm 28)),
  .op (some (pth 30)) none (.fa 0 (tm 29)),
  .op (some (pth 31)) none (.load (tm 30)),
  .op (some (pth 32)) none (.len false (tm 31)),
  .op (some (pth 33)) none (.sub (binS Try.prog .sub 3) (tm 32) (.cst (iv 1))),
  .op (some (pth 34)) none (.mv (tm 2)),
  .op (some (pth 35)) none (.len true (tm 34)),
  .op (some (pth 36)) none (.build [(iv 0), (iv 0), (iv 0)] [(0, 1, (tm 33)), (1, 1, (.cst (iv 0))), (2, 1, (tm 35))]),
  .op (some (pth 37)) none (.bslice 60 1 3 [(iv 0), (iv 0), (iv 0)] [(0, 3, (tm 36))]),
  .op (some (pth 38)) none (.mv (tm 0)),
  .op (some (pth 39)) none (.nil (tm 38)),
  .op (some (pth 40)) none (.fa 0 (tm 39)),
  .op (some (pth 41)) none (.fa 1 (tm 40)),
  .op (some (pth 42)) none (.load (tm 41)),
  .op (some (pth 43)) none (.mv (tm 6)),
  .op (some (pth 44)) none (.sl 3 false (tm 42) (some (tm 43)) none none),
  .op (some (pth 45)) none (.app 60 3 24 [(iv 0), (iv 0), (iv 0)] (tm 37) (tm 44)),
  .op (some (pth 7)) none (.mv (tm 45))]
noncomputable def r25_4 : List CO := [
  .op (some (pth 46)) none (.mv (tm 0)),
  .op (some (pth 47)) none (.mv (tm 0)),
  .op (some (pth 48)) none (.nil (tm 47)),
  .op (some (pth 49)) none (.fa 0 (tm 48)),
  .op (some (pth 50)) none (.fa 1 (tm 49)),
  .op (some (pth 51)) none (.load (tm 50)),
  .op (some (pth 52)) none (.mv (tm 6)),
  .op (some (pth 53)) none (.sl 3 false (tm 51) none (some (tm 52)) none),
  .op (some (pth 54)) none (.mv (tm 7)),
  .op (some (pth 55)) none (.app 60 3 24 [(iv 0), (iv 0), (iv 0)] (tm 53) (tm 54)),
  .op (some (pth 56)) none (.nil (tm 46)),
  .op (some (pth 57)) none (.fa 0 (tm 56)),
  .op (some (pth 58)) none (.fa 1 (tm 57)),
  .op none none (.store 1 (tm 58) (tm 55))]
noncomputable def r25_5 : List CO := [
  .op (some (pth 59)) none (.mv (tm 0)),
  .op (some (pth 60)) none (.nil (tm 59)),
  .op (some (pth 61)) none (.fa 2 (tm 60)),
  .op (some (pth 62)) none (.load (tm 61)),
  .op (some (pth 63)) none (.mv (tm 2)),
  .op (some (pth 64)) none (.len true (tm 63)),
  .op (some (pth 65)) none (.add (binS Try.prog .add 3) (tm 62) (tm 64)),
  .op (some (pth 66)) none (.nil (tm 59)),
  .op (some (pth 67)) none (.fa 2 (tm 66)),
  .op none none (.store 1 (tm 67) (tm 65))]
noncomputable def c25 : CC := (.seq (.seq (.reg r25_0) (.cond (tm 9) .ret .skip)) (.seq (.reg r25_1) (.seq (.reg r25_2) (.seq (.drawn r25_3 [(4, 0), (15, 0), (15, 11), (17, 0), (17, 11)]) (.seq (.reg r25_4) (.reg r25_5))))))
theorem at25 : FnAt Try.prog tb 25 c25 68 [] := fnAt_of tb_fs Try.func25 rfl (by kernel_rfl) (by kernel_rfl) rfl rfl
/-! 26:   skerry/piece.Doc .change -/
noncomputable def r26_0 : List CO := [
  .op (some (pth 3)) none (.box 31 (tm 1))]
noncomputable def r26_1 : List CO := [
  .op (some (pth 4)) none (.mv (tm 0)),
  .op (some (pth 5)) none (.fa 0 (tm 3)),
  .op (some (pth 6)) none (.load (tm 5)),
  .op (some (pth 7)) none (.fa 1 (tm 3)),
  .op (some (pth 8)) none (.load (tm 7)),
  .call (some (pth 9)) none (.cst (.func 31 [])) [(tm 4), (tm 6), (tm 8)]]
noncomputable def r26_2 : List CO := [
  .op (some (pth 10)) none (.mv (tm 0)),
  .op (some (pth 11)) none (.fa 0 (tm 3)),
  .op (some (pth 12)) none (.load (tm 11)),
  .op (some (pth 13)) none (.fa 2 (tm 3)),
  .op (some (pth 14)) none (.load (tm 13)),
  .call (some (pth 15)) none (.cst (.func 25 [])) [(tm 10), (tm 12), (tm 14)]]
noncomputable def c26 : CC := (.seq (.reg r26_0) (.seq (.reg r26_1) (.reg r26_2)))
theorem at26 : FnAt Try.prog tb 26 c26 16 [] := fnAt_of tb_fs Try.func26 rfl (by kernel_rfl) (by kernel_rfl) rfl rfl
/-! 27:   strings.Builder .WriteString -/
noncomputable def r27_0 : List CO := [
  .op (some (pth 4)) none (.mv (.cst (iv 0))),
  .op (some (pth 5)) none (.mv (.cst (.p .nilIface)))]
noncomputable def r27_1 : List CO := [
  .op (some (pth 6)) none (.mv (tm 0)),
  .call (some (pth 7)) none (.cst (.func 32 [])) [(tm 6)]]
noncomputable def r27_2 : List CO := [
  .op (some (pth 8)) none (.mv (tm 0)),
  .op (some (pth 9)) none (.mv (tm 0)),
  .op (some (pth 10)) none (.nil (tm 9)),
  .op (some (pth 11)) none (.fa 1 (tm 10)),
  .op (some (pth 12)) none (.load (tm 11)),
  .op (some (pth 13)) none (.mv (tm 1)),
  .op (some (pth 14)) none (.app 5 1 1 [(.y 0)] (tm 12) (tm 13)),
  .op (some (pth 15)) none (.nil (tm 8)),
  .op (some (pth 16)) none (.fa 1 (tm 15)),
  .op none none (.store 1 (tm 16) (tm 14))]
noncomputable def r27_3 : List CO := [
  .op (some (pth 17)) none (.mv (tm 1)),
  .op (some (pth 18)) none (.len true (tm 17)),
  .op (some (pth 4)) none (.mv (tm 18)),
  .op (some (pth 5)) none (.mv (.cst (.p .nilIface)))]
noncomputable def c27 : CC := (.seq (.reg r27_0) (.seq (.reg r27_1) (.seq (.reg r27_2) (.seq (.reg r27_3) .ret))))
theorem at27 : FnAt Try.prog tb 27 c27 19 [.tmp 4, .tmp 5] := fnAt_of tb_fs Try.func27 rfl (by kernel_rfl) (by kernel_rfl) rfl rfl
/-! 28:   strings.Builder .String -/
noncomputable def r28_0 : List CO := [
  .op (some (pth 2)) none (.mv (.cst (tv [])))]
noncomputable def r28_1 : List CO := [
  .op (some (pth 3)) none (.mv (tm 0)),
  .op (some (pth 4)) none (.nil (tm 3)),
  .op (some (pth 5)) none (.fa 1 (tm 4)),
  .op (some (pth 6)) none (.load (tm 5)),
  .op (some (pth 7)) none (.usd (tm 6)),
  .op (some (pth 8)) none (.mv (tm 0)),
  .op (some (pth 9)) none (.nil (tm 8)),
  .op (some (pth 10)) none (.fa 1 (tm 9)),
  .op (some (pth 11)) none (.load (tm 10)),
  .op (some (pth 12)) none (.len false (tm 11)),
  .op (some (pth 13)) none (.ust 5 (tm 7) (tm 12)),
  .op (some (pth 2)) none (.mv (tm 13))]
noncomputable def c28 : CC := (.seq (.reg r28_0) (.seq (.drawn r28_1 [(3, 0), (8, 0)]) .ret))
theorem at28 : FnAt Try.prog tb 28 c28 14 [.tmp 2] := fnAt_of tb_fs Try.func28 rfl (by kernel_rfl) (by kernel_rfl) rfl rfl
/-! 30:   skerry/piece.table .split -/
noncomputable def r30_0 : List CO := [
  .op (some (pth 4)) none (.mv (.cst (iv 0)))]
noncomputable def r30_1 : List CO := [
  .op (some (pth 8)) none (.mv (tm 0)),
  .op (some (pth 9)) none (.nil (tm 8)),
  .op (some (pth 10)) none (.fa 1 (tm 9)),
  .op (some (pth 11)) none (.load (tm 10)),
  .op (some (pth 12)) none (.len false (tm 11)),
  .op (some (pth 13)) none (.mv (.cst (iv 0)))]
noncomputable def r30_2 : List CO := [
  .op (some (pth 14)) none (.lt (binS Try.prog .lss 3) (tm 13) (tm 12))]
noncomputable def r30_3 : List CO := [
  .op (some (pth 15)) none (.mv (tm 13)),
  .op (some (pth 16)) none (.iaS 3 (tm 11) (tm 13)),
  .op (some (pth 17)) none (.loadN 3 (tm 16)),
  .op (some (pth 6)) none (.alloc 60 3 [(iv 0), (iv 0), (iv 0)]),
  .op (some (pth 5)) none (.mv (tm 15)),
  .op none none (.store 3 (tm 6) (tm 17))]
noncomputable def r30_4 : List CO := [
  .op (some (pth 19)) none (.mv (tm 1)),
  .op (some (pth 20)) none (.eq (binS Try.prog .eql 3) (tm 19) (.cst (iv 0))),
  .op (some (pth 18)) none (.mv (tm 20))]
noncomputable def r30_5 : List CO := [
  .op (some (pth 21)) none (.mv (tm 5)),
  .op (some (pth 4)) none (.mv (tm 21))]
noncomputable def r30_6 : List CO := [
  .op (some (pth 23)) none (.mv (tm 1)),
  .op (some (pth 24)) none (.fa 2 (tm 6)),
  .op (some (pth 25)) none (.load (tm 24)),
  .op (some (pth 26)) none (.lt (binS Try.prog .lss 3) (tm 23) (tm 25)),
  .op (some (pth 22)) none (.mv (tm 26))]
noncomputable def r30_7 : List CO := [
  .op (some (pth 27)) none (.fa 0 (tm 6)),
  .op (some (pth 28)) none (.load (tm 27)),
  .op (some (pth 29)) none (.fa 1 (tm 6)),
  .op (some (pth 30)) none (.load (tm 29)),
  .op (some (pth 31)) none (.mv (tm 1)),
  .op (some (pth 32)) none (.build [(iv 0), (iv 0), (iv 0)] [(0, 1, (tm 28)), (1, 1, (tm 30)), (2, 1, (tm 31))]),
  .op (some (pth 33)) none (.fa 0 (tm 6)),
  .op (some (pth 34)) none (.load (tm 33)),
  .op (some (pth 35)) none (.fa 1 (tm 6)),
  .op (some (pth 36)) none (.load (tm 35)),
  .op (some (pth 37)) none (.mv (tm 1)),
  .op (some (pth 38)) none (.add (binS Try.prog .add 3) (tm 36) (tm 37)),
  .op (some (pth 39)) none (.fa 2 (tm 6)),
  .op (some (pth 40)) none (.load (tm 39)),
  .op (some (pth 41)) none (.mv (tm 1)),
  .op (some (pth 42)) none (.sub (binS Try.prog .sub 3) (tm 40) (tm 41)),
  .op (some (pth 43)) none (.build [(iv 0), (iv 0), (iv 0)] [(0, 1, (tm 34)), (1, 1, (tm 38)), (2, 1, (tm 42))]),
  .op (some (pth 44)) none (.bslice 60 2 6 [(iv 0), (iv 0), (iv 0)] [(0, 3, (tm 32)), (3, 3, (tm 43))]),
  .op (some (pth 45)) none (.mv (tm 0)),
  .op (some (pth 46)) none (.nil (tm 45)),
  .op (some (pth 47)) none (.fa 1 (tm 46)),
  .op (some (pth 48)) none (.load (tm 47)),
  .op (some (pth 49)) none (.mv (tm 5)),
  .op (some (pth 50)) none (.add (binS Try.prog .add 3) (tm 49) (.cst (iv 1))),
  .op (some (pth 51)) none (.sl 3 false (tm 48) (some (tm 50)) none none),
  .op (some (pth 52)) none (.app 60 3 24 [(iv 0), (iv 0), (iv 0)] (tm 44) (tm 51)),
  .op (some (pth 7)) none (.mv (tm 52))]
noncomputable def r30_8 : List CO := [
  .op (some (pth 53)) none (.mv (tm 0)),
  .op (some (pth 54)) none (.mv (tm 0)),
  .op (some (pth 55)) none (.nil (tm 54)),
  .op (some (pth 56)) none (.fa 1 (tm 55)),
  .op (some (pth 57)) none (.load (tm 56)),
  .op (some (pth 58)) none (.mv (tm 5)),
  .op (some (pth 59)) none (.sl 3 false (tm 57) none (some (tm 58)) none),
  .op (some (pth 60)) none (.mv (tm 7)),
  .op (some (pth 61)) none (.app 60 3 24 [(iv 0), (iv 0), (iv 0)] (tm 59) (tm 60)),
  .op (some (pth 62)) none (.nil (tm 53)),
  .op (some (pth 63)) none (.fa 1 (tm 62)),
  .op none none (.store 1 (tm 63) (tm 61))]
noncomputable def r30_9 : List CO := [
  .op (some (pth 64)) none (.mv (tm 5)),
  .op (some (pth 65)) none (.add (binS Try.prog .add 3) (tm 64) (.cst (iv 1))),
  .op (some (pth 4)) none (.mv (tm 65))]
noncomputable def r30_10 : List CO := [
  .op (some (pth 66)) none (.mv (tm 1)),
  .op (some (pth 67)) none (.fa 2 (tm 6)),
  .op (some (pth 68)) none (.load (tm 67)),
  .op (some (pth 69)) none (.sub (binS Try.prog .sub 3) (tm 66) (tm 68)),
  .op (some (pth 1)) none (.mv (tm 69))]
noncomputable def r30_11 : List CO := [
  .op (some (pth 70)) none (.add (binS Try.prog .add 3) (tm 13) (.cst (iv 1))),
  .op (some (pth 13)) none (.mv (tm 70))]
noncomputable def r30_12 : List CO := [
  .op (some (pth 71)) none (.mv (tm 0)),
  .op (some (pth 72)) none (.nil (tm 71)),
  .op (some (pth 73)) none (.fa 1 (tm 72)),
  .op (some (pth 74)) none (.load (tm 73)),
  .op (some (pth 75)) none (.len false (tm 74)),
  .op (some (pth 4)) none (.mv (tm 75))]
noncomputable def c30 : CC := (.seq (.reg r30_0) (.seq (.seq (.reg r30_1) (.block 0 (.loop (.seq (.reg r30_2) (.seq (.cond (tm 14) .skip (.exit 0)) (.seq (.block 1 (.seq (.reg r30_3) (.seq (.block 2 (.seq (.reg r30_4) (.cond (tm 18) (.seq (.reg r30_5) .ret) (.seq (.reg r30_6) (.cond (tm 22) (.seq (.drawn r30_7 [(1, 0), (3, 0), (7, 0), (9, 0), (13, 0), (21, 0), (21, 18), (24, 0), (24, 18)]) (.seq (.reg r30_8) (.seq (.reg r30_9) .ret))) .skip))))) (.reg r30_10)))) (.reg r30_11))))))) (.seq (.reg r30_12) .ret)))
theorem at30 : FnAt Try.prog tb 30 c30 76 [.tmp 4] := fnAt_of tb_fs Try.func30 rfl (by kernel_rfl) (by kernel_rfl) rfl rfl
/-! 31:   skerry/piece.Doc .remove -/
noncomputable def r31_0 : List CO := [
  .op (some (pth 8)) none (.mv (tm 2)),
  .op (some (pth 9)) none (.eq (binS Try.prog .eql 3) (tm 8) (.cst (iv 0)))]
noncomputable def r31_1 : List CO := [
  .op (some (pth 10)) none (.mv (tm 0)),
  .op (some (pth 11)) none (.nil (tm 10)),
  .op (some (pth 12)) none (.fa 0 (tm 11)),
  .op (some (pth 13)) none (.mv (tm 1)),
  .call (some (pth 14)) none (.cst (.func 30 [])) [(tm 12), (tm 13)],
  .op (some (pth 6)) none (.mv (tm 14))]
noncomputable def r31_2 : List CO := [
  .op (some (pth 15)) none (.mv (tm 0)),
  .op (some (pth 16)) none (.nil (tm 15)),
  .op (some (pth 17)) none (.fa 0 (tm 16)),
  .op (some (pth 18)) none (.mv (tm 1)),
  .op (some (pth 19)) none (.mv (tm 2)),
  .op (some (pth 20)) none (.add (binS Try.prog .add 3) (tm 18) (tm 19)),
  .call (some (pth 21)) none (.cst (.func 30 [])) [(tm 17), (tm 20)],
  .op (some (pth 7)) none (.mv (tm 21))]
noncomputable def r31_3 : List CO := [
  .op (some (pth 22)) none (.mv (tm 0)),
  .op (some (pth 23)) none (.mv (tm 0)),
  .op (some (pth 24)) none (.nil (tm 23)),
  .op (some (pth 25)) none (.fa 0 (tm 24)),
  .op (some (pth 26)) none (.fa 1 (tm 25)),
  .op (some (pth 27)) none (.load (tm 26)),
  .op (some (pth 28)) none (.mv (tm 6)),
  .op (some (pth 29)) none (.sl 3 false (tm 27) none (some (tm 28)) none),
  .op (some (pth 30)) none (.mv (tm 0)),
  .op (some (pth 31)) none (.nil (tm 30)),
  .op (some (pth 32)) none (.fa 0 (tm 31)),
  .op (some (pth 33)) none (.fa 1 (tm 32)),
  .op (some (pth 34)) none (.load (tm 33)),
  .op (some (pth 35)) none (.mv (tm 7)),
  .op (some (pth 36)) none (.sl 3 false (tm 34) (some (tm 35)) none none),
  .op (some (pth 37)) none (.app 60 3 24 [(iv 0), (iv 0), (iv 0)] (tm 29) (tm 36)),
  .op (some (pth 38)) none (.nil (tm 22)),
  .op (some (pth 39)) none (.fa 0 (tm 38)),
  .op (some (pth 40)) none (.fa 1 (tm 39)),
  .op none none (.store 1 (tm 40) (tm 37))]
noncomputable def r31_4 : List CO := [
  .op (some (pth 41)) none (.mv (tm 0)),
  .op (some (pth 42)) none (.nil (tm 41)),
  .op (some (pth 43)) none (.fa 2 (tm 42)),
  .op (some (pth 44)) none (.load (tm 43)),
  .op (some (pth 45)) none (.mv (tm 2)),
  .op (some (pth 46)) none (.sub (binS Try.prog .sub 3) (tm 44) (tm 45)),
  .op (some (pth 47)) none (.nil (tm 41)),
  .op (some (pth 48)) none (.fa 2 (tm 47)),
  .op none none (.store 1 (tm 48) (tm 46))]
noncomputable def c31 : CC := (.seq (.seq (.reg r31_0) (.cond (tm 9) .ret .skip)) (.seq (.reg r31_1) (.seq (.reg r31_2) (.seq (.drawn r31_3 [(5, 0), (7, 0), (12, 0), (14, 0)]) (.reg r31_4)))))
theorem at31 : FnAt Try.prog tb 31 c31 49 [] := fnAt_of tb_fs Try.func31 rfl (by kernel_rfl) (by kernel_rfl) rfl rfl
/-! 32:   strings.Builder .copyCheck -/
noncomputable def r32_0 : List CO := [
  .op (some (pth 2)) none (.mv (tm 0)),
  .op (some (pth 3)) none (.nil (tm 2)),
  .op (some (pth 4)) none (.fa 0 (tm 3)),
  .op (some (pth 5)) none (.load (tm 4)),
  .op (some (pth 6)) none (.eqp false (binS Try.prog .eql 55) (tm 5) (.cst nilp))]
noncomputable def r32_1 : List CO := [
  .op (some (pth 7)) none (.mv (tm 0)),
  .op (some (pth 8)) none (.mv (tm 0)),
  .op (some (pth 9)) none (.toU (tm 8)),
  .call (some (pth 10)) none (.cst (.func 33 [])) [(tm 9)],
  .op (some (pth 11)) none (.frU 58 2 (tm 10)),
  .op (some (pth 12)) none (.nil (tm 7)),
  .op (some (pth 13)) none (.fa 0 (tm 12)),
  .op none none (.store 1 (tm 13) (tm 11))]
noncomputable def r32_2 : List CO := [
  .op (some (pth 14)) none (.mv (tm 0)),
  .op (some (pth 15)) none (.nil (tm 14)),
  .op (some (pth 16)) none (.fa 0 (tm 15)),
  .op (some (pth 17)) none (.load (tm 16)),
  .op (some (pth 18)) none (.mv (tm 0)),
  .op (some (pth 19)) none (.eqp true (binS Try.prog .neq 55) (tm 17) (tm 18))]
noncomputable def c32 : CC := (.seq (.reg r32_0) (.cond (tm 6) (.reg r32_1) (.seq (.reg r32_2) (.cond (tm 19) .bad .skip))))
theorem at32 : FnAt Try.prog tb 32 c32 20 [] := fnAt_of tb_fs Try.func32 rfl (by kernel_rfl) (by kernel_rfl) rfl rfl
/-! 4: skerry/skerrylaw20.PieceApart -/
noncomputable def r4_0 : List CO := [
  .op (some (pth 4)) none (.mv (.cst (.b false)))]
noncomputable def r4_1 : List CO := [
  .call (some (pth 10)) none (.cst (.func 8 [])) [],
  .op (some (pth 11)) none (.un .not (tm 10))]
noncomputable def r4_2 : List CO := [
  .op (some (pth 4)) none (.mv (.cst (.b false)))]
noncomputable def r4_3 : List CO := [
  .op (some (pth 12)) none (.mv (tm 1)),
  .op (some (pth 13)) none (.len false (tm 12)),
  .op (some (pth 14)) none (.gt (binS Try.prog .gtr 3) (tm 13) (.cst (iv 40)))]
noncomputable def r4_4 : List CO := [
  .op (some (pth 4)) none (.mv (.cst (.b true)))]
noncomputable def r4_5 : List CO := [
  .op (some (pth 16)) none (.mv (tm 0)),
  .call (some (pth 17)) none (.cst (.func 9 [])) [(tm 16)],
  .op (some (pth 15)) none (.mv (tm 17)),
  .op (some (pth 18)) none (.ext 0 (tm 15)),
  .op (some (pth 19)) none (.ext 1 (tm 15)),
  .op (some (pth 5)) none (.mv (tm 18)),
  .op (some (pth 6)) none (.mv (tm 19))]
noncomputable def r4_6 : List CO := [
  .op (some (pth 21)) none (.mv (tm 0)),
  .call (some (pth 22)) none (.cst (.func 9 [])) [(tm 21)],
  .op (some (pth 20)) none (.mv (tm 22)),
  .op (some (pth 23)) none (.ext 0 (tm 20)),
  .op (some (pth 24)) none (.ext 1 (tm 20)),
  .op (some (pth 7)) none (.mv (tm 23)),
  .op (some (pth 8)) none (.mv (tm 24))]
noncomputable def r4_7 : List CO := [
  .op (some (pth 25)) none (.mv (tm 6)),
  .op (some (pth 26)) none (.mv (tm 8)),
  .op (some (pth 27)) none (.ne (binS Try.prog .neq 25) (tm 25) (tm 26))]
noncomputable def r4_8 : List CO := [
  .op (some (pth 4)) none (.mv (.cst (.b false)))]
noncomputable def r4_9 : List CO := [
  .op (some (pth 28)) none (.mv (tm 6)),
  .op (some (pth 29)) none (.ne (binS Try.prog .neq 25) (tm 28) (.cst (iv 0)))]
noncomputable def r4_10 : List CO := [
  .op (some (pth 4)) none (.mv (.cst (.b true)))]
noncomputable def r4_11 : List CO := [
  .op (some (pth 9)) none (.mv (.cst (iv 0)))]
noncomputable def r4_12 : List CO := [
  .op (some (pth 30)) none (.mv (tm 9)),
  .op (some (pth 31)) none (.mv (tm 1)),
  .op (some (pth 32)) none (.len false (tm 31)),
  .op (some (pth 33)) none (.lt (binS Try.prog .lss 3) (tm 30) (tm 32))]
noncomputable def r4_14 : List CO := [
  .op (some (pth 36)) none (.mv (tm 5)),
  .op (some (pth 37)) none (.mv (tm 1)),
  .op (some (pth 38)) none (.mv (tm 9)),
  .op (some (pth 39)) none (.iaS 3 (tm 37) (tm 38)),
  .op (some (pth 40)) none (.loadN 3 (tm 39)),
  .call (some (pth 41)) none (.cst (.func 11 [])) [(tm 36), (tm 40)]]
noncomputable def r4_15 : List CO := [
  .op (some (pth 42)) none (.mv (tm 7)),
  .call (some (pth 43)) none (.cst (.func 10 [])) [(tm 42)],
  .op (some (pth 44)) none (.mv (tm 0)),
  .op (some (pth 45)) none (.ne (binS Try.prog .neq 9) (tm 43) (tm 44)),
  .op (some (pth 46)) none (.mv (tm 45)),
  .op (some (pth 47)) (some (pth 46, false)) (.mv (tm 7)),
  .call (some (pth 48)) (some (pth 46, false)) (.cst (.func 14 [])) [(tm 47)],
  .op (some (pth 49)) (some (pth 46, false)) (.ne (binS Try.prog .neq 3) (tm 48) (.cst (iv 0))),
  .op (some (pth 50)) none (.pick (tm 46) (.cst (.b true)) (tm 49))]
noncomputable def r4_16 : List CO := [
  .op (some (pth 4)) none (.mv (.cst (.b false)))]
noncomputable def r4_13 : List CO := [
  .op (some (pth 34)) none (.mv (tm 9)),
  .op (some (pth 35)) none (.add (binS Try.prog .add 3) (tm 34) (.cst (iv 1))),
  .op (some (pth 9)) none (.mv (tm 35))]
noncomputable def r4_17 : List CO := [
  .op (some (pth 4)) none (.mv (.cst (.b true)))]
noncomputable def c4 : CC := (.seq (.reg r4_0) (.seq (.seq (.reg r4_1) (.cond (tm 11) (.seq (.reg r4_2) .ret) .skip)) (.seq (.seq (.reg r4_3) (.cond (tm 14) (.seq (.reg r4_4) .ret) .skip)) (.seq (.reg r4_5) (.seq (.reg r4_6) (.seq (.seq (.reg r4_7) (.cond (tm 27) (.seq (.reg r4_8) .ret) .skip)) (.seq (.seq (.reg r4_9) (.cond (tm 29) (.seq (.reg r4_10) .ret) .skip)) (.seq (.seq (.reg r4_11) (.block 0 (.loop (.seq (.seq (.reg r4_12) (.cond (tm 33) .skip (.exit 0))) (.seq (.block 1 (.seq (.reg r4_14) (.seq (.reg r4_15) (.cond (tm 50) (.seq (.reg r4_16) .ret) .skip)))) (.reg r4_13)))))) (.seq (.reg r4_17) .ret)))))))))
theorem at4 : FnAt Try.prog tb 4 c4 51 [.tmp 4] := fnAt_of tb_fs Try.func4 rfl (by kernel_rfl) (by kernel_rfl) rfl rfl
/-! 3: skerry/skerrylaw20.PieceCuts -/
noncomputable def r3_0 : List CO := [
  .op (some (pth 6)) none (.mv (.cst (.b false)))]
noncomputable def r3_1 : List CO := [
  .call (some (pth 22)) none (.cst (.func 8 [])) [],
  .op (some (pth 23)) none (.un .not (tm 22))]
noncomputable def r3_2 : List CO := [
  .op (some (pth 6)) none (.mv (.cst (.b false)))]
noncomputable def r3_3 : List CO := [
  .op (some (pth 24)) none (.mv (tm 1)),
  .op (some (pth 25)) none (.len false (tm 24)),
  .op (some (pth 26)) none (.gt (binS Try.prog .gtr 3) (tm 25) (.cst (iv 40)))]
noncomputable def r3_4 : List CO := [
  .op (some (pth 6)) none (.mv (.cst (.b true)))]
noncomputable def r3_5 : List CO := [
  .op (some (pth 28)) none (.mv (tm 0)),
  .call (some (pth 29)) none (.cst (.func 9 [])) [(tm 28)],
  .op (some (pth 27)) none (.mv (tm 29)),
  .op (some (pth 30)) none (.ext 0 (tm 27)),
  .op (some (pth 31)) none (.ext 1 (tm 27)),
  .op (some (pth 7)) none (.mv (tm 30)),
  .op (some (pth 8)) none (.mv (tm 31))]
noncomputable def r3_6 : List CO := [
  .op (some (pth 32)) none (.mv (tm 8)),
  .op (some (pth 33)) none (.ne (binS Try.prog .neq 25) (tm 32) (.cst (iv 0)))]
noncomputable def r3_7 : List CO := [
  .op (some (pth 6)) none (.mv (.cst (.b true)))]
noncomputable def r3_8 : List CO := [
  .op (some (pth 9)) none (.mv (.cst (iv 0)))]
noncomputable def r3_9 : List CO := [
  .op (some (pth 34)) none (.mv (tm 9)),
  .op (some (pth 35)) none (.mv (tm 1)),
  .op (some (pth 36)) none (.len false (tm 35)),
  .op (some (pth 37)) none (.lt (binS Try.prog .lss 3) (tm 34) (tm 36))]
noncomputable def r3_11 : List CO := [
  .op (some (pth 40)) none (.mv (tm 7)),
  .call (some (pth 41)) none (.cst (.func 10 [])) [(tm 40)],
  .op (some (pth 10)) none (.mv (tm 41))]
noncomputable def r3_12 : List CO := [
  .op (some (pth 42)) none (.mv (tm 7)),
  .op (some (pth 43)) none (.mv (tm 1)),
  .op (some (pth 44)) none (.mv (tm 9)),
  .op (some (pth 45)) none (.iaS 3 (tm 43) (tm 44)),
  .op (some (pth 46)) none (.loadN 3 (tm 45)),
  .call (some (pth 47)) none (.cst (.func 11 [])) [(tm 42), (tm 46)],
  .op (some (pth 11)) none (.mv (tm 47))]
noncomputable def r3_13 : List CO := [
  .op (some (pth 48)) none (.mv (tm 7)),
  .call (some (pth 49)) none (.cst (.func 10 [])) [(tm 48)],
  .op (some (pth 12)) none (.mv (tm 49))]
noncomputable def r3_14 : List CO := [
  .op (some (pth 50)) none (.mv (tm 11)),
  .op (some (pth 51)) none (.ne (binS Try.prog .neq 25) (tm 50) (.cst (iv 0)))]
noncomputable def r3_15 : List CO := [
  .op (some (pth 52)) none (.mv (tm 1)),
  .op (some (pth 53)) none (.mv (tm 9)),
  .op (some (pth 54)) none (.iaS 3 (tm 52) (tm 53)),
  .op (some (pth 55)) none (.fa 0 (tm 54)),
  .op (some (pth 56)) none (.load (tm 55)),
  .op (some (pth 13)) none (.mv (tm 56))]
noncomputable def r3_16 : List CO := [
  .op (some (pth 57)) none (.mv (tm 1)),
  .op (some (pth 58)) none (.mv (tm 9)),
  .op (some (pth 59)) none (.iaS 3 (tm 57) (tm 58)),
  .op (some (pth 60)) none (.fa 1 (tm 59)),
  .op (some (pth 61)) none (.load (tm 60)),
  .op (some (pth 14)) none (.mv (tm 61))]
noncomputable def r3_17 : List CO := [
  .op (some (pth 62)) none (.mv (tm 13)),
  .op (some (pth 63)) none (.lt (binS Try.prog .lss 3) (tm 62) (.cst (iv 0))),
  .op (some (pth 64)) none (.mv (tm 63)),
  .op (some (pth 65)) (some (pth 64, false)) (.mv (tm 14)),
  .op (some (pth 66)) (some (pth 64, false)) (.lt (binS Try.prog .lss 3) (tm 65) (.cst (iv 0))),
  .op (some (pth 67)) none (.pick (tm 64) (.cst (.b true)) (tm 66)),
  .op (some (pth 68)) none (.mv (tm 67)),
  .op (some (pth 69)) (some (pth 68, false)) (.mv (tm 13)),
  .op (some (pth 70)) (some (pth 68, false)) (.mv (tm 10)),
  .op (some (pth 71)) (some (pth 68, false)) (.len true (tm 70)),
  .op (some (pth 72)) (some (pth 68, false)) (.gt (binS Try.prog .gtr 3) (tm 69) (tm 71)),
  .op (some (pth 73)) none (.pick (tm 68) (.cst (.b true)) (tm 72)),
  .op (some (pth 74)) none (.mv (tm 73)),
  .op (some (pth 75)) (some (pth 74, false)) (.mv (tm 14)),
  .op (some (pth 76)) (some (pth 74, false)) (.mv (tm 10)),
  .op (some (pth 77)) (some (pth 74, false)) (.len true (tm 76)),
  .op (some (pth 78)) (some (pth 74, false)) (.mv (tm 13)),
  .op (some (pth 79)) (some (pth 74, false)) (.sub (binS Try.prog .sub 3) (tm 77) (tm 78)),
  .op (some (pth 80)) (some (pth 74, false)) (.gt (binS Try.prog .gtr 3) (tm 75) (tm 79)),
  .op (some (pth 81)) none (.pick (tm 74) (.cst (.b true)) (tm 80)),
  .op (some (pth 82)) none (.mv (tm 81)),
  .op (some (pth 83)) (some (pth 82, false)) (.mv (tm 12)),
  .op (some (pth 84)) (some (pth 82, false)) (.mv (tm 10)),
  .op (some (pth 85)) (some (pth 82, false)) (.mv (tm 13)),
  .op (some (pth 86)) (some (pth 82, false)) (.sls (tm 84) none (some (tm 85))),
  .op (some (pth 87)) (some (pth 82, false)) (.mv (tm 1)),
  .op (some (pth 88)) (some (pth 82, false)) (.mv (tm 9)),
  .op (some (pth 89)) (some (pth 82, false)) (.iaS 3 (tm 87) (tm 88)),
  .op (some (pth 90)) (some (pth 82, false)) (.fa 2 (tm 89)),
  .op (some (pth 91)) (some (pth 82, false)) (.load (tm 90)),
  .op (some (pth 92)) (some (pth 82, false)) (.add (binS Try.prog .add 9) (tm 86) (tm 91)),
  .op (some (pth 93)) (some (pth 82, false)) (.mv (tm 10)),
  .op (some (pth 94)) (some (pth 82, false)) (.mv (tm 13)),
  .op (some (pth 95)) (some (pth 82, false)) (.mv (tm 14)),
  .op (some (pth 96)) (some (pth 82, false)) (.add (binS Try.prog .add 3) (tm 94) (tm 95)),
  .op (some (pth 97)) (some (pth 82, false)) (.sls (tm 93) (some (tm 96)) none),
  .op (some (pth 98)) (some (pth 82, false)) (.add (binS Try.prog .add 9) (tm 92) (tm 97)),
  .op (some (pth 99)) (some (pth 82, false)) (.ne (binS Try.prog .neq 9) (tm 83) (tm 98)),
  .op (some (pth 100)) none (.pick (tm 82) (.cst (.b true)) (tm 99))]
noncomputable def r3_18 : List CO := [
  .op (some (pth 6)) none (.mv (.cst (.b false)))]
noncomputable def r3_19 : List CO := [
  .op (some (pth 101)) none (.mv (tm 2)),
  .op (some (pth 15)) none (.mv (tm 101))]
noncomputable def r3_20 : List CO := [
  .op (some (pth 102)) none (.mv (tm 15)),
  .op (some (pth 103)) none (.lt (binS Try.prog .lss 3) (tm 102) (.cst (iv 0))),
  .op (some (pth 104)) none (.mv (tm 103)),
  .op (some (pth 105)) (some (pth 104, false)) (.mv (tm 15)),
  .op (some (pth 106)) (some (pth 104, false)) (.mv (tm 12)),
  .op (some (pth 107)) (some (pth 104, false)) (.len true (tm 106)),
  .op (some (pth 108)) (some (pth 104, false)) (.gt (binS Try.prog .gtr 3) (tm 105) (tm 107)),
  .op (some (pth 109)) none (.pick (tm 104) (.cst (.b true)) (tm 108))]
noncomputable def r3_21 : List CO := [
  .op (some (pth 110)) none (.mv (tm 12)),
  .op (some (pth 111)) none (.len true (tm 110)),
  .op (some (pth 112)) none (.quo (binS Try.prog .quo 3) (tm 111) (.cst (iv 2))),
  .op (some (pth 15)) none (.mv (tm 112))]
noncomputable def r3_22 : List CO := [
  .op (some (pth 114)) none (.mv (tm 7)),
  .op (some (pth 115)) none (.mv (tm 15)),
  .call (some (pth 116)) none (.cst (.func 12 [])) [(tm 114), (.cst (iv 0)), (tm 115)],
  .op (some (pth 113)) none (.mv (tm 116)),
  .op (some (pth 117)) none (.ext 0 (tm 113)),
  .op (some (pth 118)) none (.ext 1 (tm 113)),
  .op (some (pth 16)) none (.mv (tm 117)),
  .op (some (pth 17)) none (.mv (tm 118))]
noncomputable def r3_23 : List CO := [
  .op (some (pth 120)) none (.mv (tm 7)),
  .op (some (pth 121)) none (.mv (tm 15)),
  .op (some (pth 122)) none (.mv (tm 12)),
  .op (some (pth 123)) none (.len true (tm 122)),
  .op (some (pth 124)) none (.mv (tm 15)),
  .op (some (pth 125)) none (.sub (binS Try.prog .sub 3) (tm 123) (tm 124)),
  .call (some (pth 126)) none (.cst (.func 12 [])) [(tm 120), (tm 121), (tm 125)],
  .op (some (pth 119)) none (.mv (tm 126)),
  .op (some (pth 127)) none (.ext 0 (tm 119)),
  .op (some (pth 128)) none (.ext 1 (tm 119)),
  .op (some (pth 18)) none (.mv (tm 127)),
  .op (some (pth 19)) none (.mv (tm 128))]
noncomputable def r3_24 : List CO := [
  .op (some (pth 130)) none (.mv (tm 7)),
  .op (some (pth 131)) none (.mv (tm 15)),
  .op (some (pth 132)) none (.mv (tm 12)),
  .op (some (pth 133)) none (.len true (tm 132)),
  .op (some (pth 134)) none (.mv (tm 15)),
  .op (some (pth 135)) none (.sub (binS Try.prog .sub 3) (tm 133) (tm 134)),
  .op (some (pth 136)) none (.add (binS Try.prog .add 3) (tm 135) (.cst (iv 1))),
  .call (some (pth 137)) none (.cst (.func 12 [])) [(tm 130), (tm 131), (tm 136)],
  .op (some (pth 129)) none (.mv (tm 137)),
  .op (some (pth 138)) none (.ext 0 (tm 129)),
  .op (some (pth 139)) none (.ext 1 (tm 129)),
  .op (some (pth 20)) none (.mv (tm 138)),
  .op (some (pth 21)) none (.mv (tm 139))]
noncomputable def r3_25 : List CO := [
  .op (some (pth 140)) none (.mv (tm 17)),
  .op (some (pth 141)) none (.ne (binS Try.prog .neq 25) (tm 140) (.cst (iv 0))),
  .op (some (pth 142)) none (.mv (tm 141)),
  .op (some (pth 143)) (some (pth 142, false)) (.mv (tm 19)),
  .op (some (pth 144)) (some (pth 142, false)) (.ne (binS Try.prog .neq 25) (tm 143) (.cst (iv 0))),
  .op (some (pth 145)) none (.pick (tm 142) (.cst (.b true)) (tm 144)),
  .op (some (pth 146)) none (.mv (tm 145)),
  .op (some (pth 147)) (some (pth 146, false)) (.mv (tm 16)),
  .op (some (pth 148)) (some (pth 146, false)) (.mv (tm 18)),
  .op (some (pth 149)) (some (pth 146, false)) (.add (binS Try.prog .add 9) (tm 147) (tm 148)),
  .op (some (pth 150)) (some (pth 146, false)) (.mv (tm 12)),
  .op (some (pth 151)) (some (pth 146, false)) (.ne (binS Try.prog .neq 9) (tm 149) (tm 150)),
  .op (some (pth 152)) none (.pick (tm 146) (.cst (.b true)) (tm 151)),
  .op (some (pth 153)) none (.mv (tm 152)),
  .op (some (pth 154)) (some (pth 153, false)) (.mv (tm 21)),
  .op (some (pth 155)) (some (pth 153, false)) (.ne (binS Try.prog .neq 25) (tm 154) (.cst (iv 2))),
  .op (some (pth 156)) none (.pick (tm 153) (.cst (.b true)) (tm 155)),
  .op (some (pth 157)) none (.mv (tm 156)),
  .op (some (pth 158)) (some (pth 157, false)) (.mv (tm 7)),
  .call (some (pth 159)) (some (pth 157, false)) (.cst (.func 13 [])) [(tm 158)],
  .op (some (pth 160)) (some (pth 157, false)) (.mv (tm 12)),
  .op (some (pth 161)) (some (pth 157, false)) (.len true (tm 160)),
  .op (some (pth 162)) (some (pth 157, false)) (.ne (binS Try.prog .neq 3) (tm 159) (tm 161)),
  .op (some (pth 163)) none (.pick (tm 157) (.cst (.b true)) (tm 162))]
noncomputable def r3_26 : List CO := [
  .op (some (pth 6)) none (.mv (.cst (.b false)))]
noncomputable def r3_10 : List CO := [
  .op (some (pth 38)) none (.mv (tm 9)),
  .op (some (pth 39)) none (.add (binS Try.prog .add 3) (tm 38) (.cst (iv 1))),
  .op (some (pth 9)) none (.mv (tm 39))]
noncomputable def r3_27 : List CO := [
  .op (some (pth 6)) none (.mv (.cst (.b true)))]
noncomputable def c3 : CC := (.seq (.reg r3_0) (.seq (.seq (.reg r3_1) (.cond (tm 23) (.seq (.reg r3_2) .ret) .skip)) (.seq (.seq (.reg r3_3) (.cond (tm 26) (.seq (.reg r3_4) .ret) .skip)) (.seq (.reg r3_5) (.seq (.seq (.reg r3_6) (.cond (tm 33) (.seq (.reg r3_7) .ret) .skip)) (.seq (.seq (.reg r3_8) (.block 0 (.loop (.seq (.seq (.reg r3_9) (.cond (tm 37) .skip (.exit 0))) (.seq (.block 1 (.seq (.reg r3_11) (.seq (.reg r3_12) (.seq (.reg r3_13) (.seq (.seq (.reg r3_14) (.cond (tm 51) (.exit 1) .skip)) (.seq (.reg r3_15) (.seq (.reg r3_16) (.seq (.seq (.drawn r3_17 [(29, 0)]) (.cond (tm 100) (.seq (.reg r3_18) .ret) .skip)) (.seq (.reg r3_19) (.seq (.seq (.reg r3_20) (.cond (tm 109) (.reg r3_21) .skip)) (.seq (.reg r3_22) (.seq (.reg r3_23) (.seq (.reg r3_24) (.seq (.reg r3_25) (.cond (tm 163) (.seq (.reg r3_26) .ret) .skip))))))))))))))) (.reg r3_10)))))) (.seq (.reg r3_27) .ret)))))))
theorem at3 : FnAt Try.prog tb 3 c3 164 [.tmp 6] := fnAt_of tb_fs Try.func3 rfl (by kernel_rfl) (by kernel_rfl) rfl rfl
/-! 5: skerry/skerrylaw20.PieceBack -/
noncomputable def r5_0 : List CO := [
  .op (some (pth 4)) none (.mv (.cst (.b false)))]
noncomputable def r5_1 : List CO := [
  .call (some (pth 21)) none (.cst (.func 8 [])) [],
  .op (some (pth 22)) none (.un .not (tm 21))]
noncomputable def r5_2 : List CO := [
  .op (some (pth 4)) none (.mv (.cst (.b false)))]
noncomputable def r5_3 : List CO := [
  .op (some (pth 23)) none (.mv (tm 1)),
  .op (some (pth 24)) none (.len false (tm 23)),
  .op (some (pth 25)) none (.gt (binS Try.prog .gtr 3) (tm 24) (.cst (iv 60)))]
noncomputable def r5_4 : List CO := [
  .op (some (pth 4)) none (.mv (.cst (.b true)))]
noncomputable def r5_5 : List CO := [
  .op (some (pth 27)) none (.mv (tm 0)),
  .call (some (pth 28)) none (.cst (.func 9 [])) [(tm 27)],
  .op (some (pth 26)) none (.mv (tm 28)),
  .op (some (pth 29)) none (.ext 0 (tm 26)),
  .op (some (pth 30)) none (.ext 1 (tm 26)),
  .op (some (pth 5)) none (.mv (tm 29)),
  .op (some (pth 6)) none (.mv (tm 30))]
noncomputable def r5_6 : List CO := [
  .op (some (pth 31)) none (.mv (tm 6)),
  .op (some (pth 32)) none (.ne (binS Try.prog .neq 25) (tm 31) (.cst (iv 0)))]
noncomputable def r5_7 : List CO := [
  .op (some (pth 33)) none (.mv (tm 5)),
  .op (some (pth 34)) none (.eqp false (binS Try.prog .eql 24) (tm 33) (.cst nilp)),
  .op (some (pth 35)) none (.mv (tm 34)),
  .op (some (pth 36)) (some (pth 35, true)) (.mv (tm 6)),
  .op (some (pth 37)) (some (pth 35, true)) (.eq (binS Try.prog .eql 25) (tm 36) (.cst (iv 5))),
  .op (some (pth 38)) none (.pick (tm 35) (tm 37) (.cst (.b false))),
  .op (some (pth 39)) none (.mv (tm 38)),
  .op (some (pth 40)) (some (pth 39, true)) (.mv (tm 0)),
  .op (some (pth 41)) (some (pth 39, true)) (.len true (tm 40)),
  .op (some (pth 42)) (some (pth 39, true)) (.gt (binS Try.prog .gtr 3) (tm 41) (.cst (iv 65536))),
  .op (some (pth 43)) none (.pick (tm 39) (tm 42) (.cst (.b false))),
  .op (some (pth 4)) none (.mv (tm 43))]
noncomputable def r5_8 : List CO := [
  .op (some (pth 7)) none (.mv (.cst nils))]
noncomputable def r5_9 : List CO := [
  .op (some (pth 8)) none (.mv (.cst (iv 0)))]
noncomputable def r5_10 : List CO := [
  .op (some (pth 44)) none (.mv (tm 8)),
  .op (some (pth 45)) none (.mv (tm 1)),
  .op (some (pth 46)) none (.len false (tm 45)),
  .op (some (pth 47)) none (.lt (binS Try.prog .lss 3) (tm 44) (tm 46))]
noncomputable def r5_12 : List CO := [
  .op (some (pth 50)) none (.mv (tm 5)),
  .call (some (pth 51)) none (.cst (.func 10 [])) [(tm 50)],
  .op (some (pth 9)) none (.mv (tm 51))]
noncomputable def r5_13 : List CO := [
  .op (some (pth 53)) none (.mv (tm 5)),
  .op (some (pth 54)) none (.mv (tm 1)),
  .op (some (pth 55)) none (.mv (tm 8)),
  .op (some (pth 56)) none (.iaS 3 (tm 54) (tm 55)),
  .op (some (pth 57)) none (.loadN 3 (tm 56)),
  .call (some (pth 58)) none (.cst (.func 15 [])) [(tm 53), (tm 57)],
  .op (some (pth 52)) none (.mv (tm 58)),
  .op (some (pth 59)) none (.ext 0 (tm 52)),
  .op (some (pth 60)) none (.ext 1 (tm 52)),
  .op (some (pth 10)) none (.alloc 31 3 [(iv 0), (iv 0), (tv [])]),
  .op none none (.store 3 (tm 10) (tm 59)),
  .op (some (pth 11)) none (.mv (tm 60))]
noncomputable def r5_14 : List CO := [
  .op (some (pth 61)) none (.mv (tm 5)),
  .op (some (pth 62)) none (.mv (tm 1)),
  .op (some (pth 63)) none (.mv (tm 8)),
  .op (some (pth 64)) none (.iaS 3 (tm 62) (tm 63)),
  .op (some (pth 65)) none (.loadN 3 (tm 64)),
  .call (some (pth 66)) none (.cst (.func 11 [])) [(tm 61), (tm 65)],
  .op (some (pth 12)) none (.mv (tm 66))]
noncomputable def r5_15 : List CO := [
  .op (some (pth 67)) none (.mv (tm 11)),
  .op (some (pth 68)) none (.mv (tm 12)),
  .op (some (pth 69)) none (.ne (binS Try.prog .neq 25) (tm 67) (tm 68))]
noncomputable def r5_16 : List CO := [
  .op (some (pth 4)) none (.mv (.cst (.b false)))]
noncomputable def r5_17 : List CO := [
  .op (some (pth 70)) none (.mv (tm 12)),
  .op (some (pth 71)) none (.ne (binS Try.prog .neq 25) (tm 70) (.cst (iv 0)))]
noncomputable def r5_18 : List CO := [
  .op (some (pth 72)) none (.mv (tm 5)),
  .call (some (pth 73)) none (.cst (.func 10 [])) [(tm 72)],
  .op (some (pth 74)) none (.mv (tm 9)),
  .op (some (pth 75)) none (.ne (binS Try.prog .neq 9) (tm 73) (tm 74))]
noncomputable def r5_19 : List CO := [
  .op (some (pth 4)) none (.mv (.cst (.b false)))]
noncomputable def r5_20 : List CO := [
  .op (some (pth 76)) none (.mv (tm 5)),
  .call (some (pth 77)) none (.cst (.func 10 [])) [(tm 76)],
  .op (some (pth 13)) none (.mv (tm 77))]
noncomputable def r5_21 : List CO := [
  .op (some (pth 79)) none (.mv (tm 5)),
  .op (some (pth 80)) none (.loadN 3 (tm 10)),
  .call (some (pth 81)) none (.cst (.func 15 [])) [(tm 79), (tm 80)],
  .op (some (pth 78)) none (.mv (tm 81)),
  .op (some (pth 82)) none (.ext 0 (tm 78)),
  .op (some (pth 83)) none (.ext 1 (tm 78)),
  .op (some (pth 14)) none (.alloc 31 3 [(iv 0), (iv 0), (tv [])]),
  .op none none (.store 3 (tm 14) (tm 82)),
  .op (some (pth 15)) none (.mv (tm 83))]
noncomputable def r5_22 : List CO := [
  .op (some (pth 84)) none (.mv (tm 5)),
  .op (some (pth 85)) none (.loadN 3 (tm 10)),
  .call (some (pth 86)) none (.cst (.func 11 [])) [(tm 84), (tm 85)],
  .op (some (pth 16)) none (.mv (tm 86))]
noncomputable def r5_23 : List CO := [
  .op (some (pth 87)) none (.mv (tm 15)),
  .op (some (pth 88)) none (.ne (binS Try.prog .neq 25) (tm 87) (.cst (iv 0))),
  .op (some (pth 89)) none (.mv (tm 88)),
  .op (some (pth 90)) (some (pth 89, false)) (.mv (tm 16)),
  .op (some (pth 91)) (some (pth 89, false)) (.ne (binS Try.prog .neq 25) (tm 90) (.cst (iv 0))),
  .op (some (pth 92)) none (.pick (tm 89) (.cst (.b true)) (tm 91)),
  .op (some (pth 93)) none (.mv (tm 92)),
  .op (some (pth 94)) (some (pth 93, false)) (.mv (tm 5)),
  .call (some (pth 95)) (some (pth 93, false)) (.cst (.func 10 [])) [(tm 94)],
  .op (some (pth 96)) (some (pth 93, false)) (.mv (tm 9)),
  .op (some (pth 97)) (some (pth 93, false)) (.ne (binS Try.prog .neq 9) (tm 95) (tm 96)),
  .op (some (pth 98)) none (.pick (tm 93) (.cst (.b true)) (tm 97)),
  .op (some (pth 99)) none (.mv (tm 98)),
  .op (some (pth 100)) (some (pth 99, false)) (.loadN 3 (tm 14)),
  .op (some (pth 101)) (some (pth 99, false)) (.mv (tm 1)),
  .op (some (pth 102)) (some (pth 99, false)) (.mv (tm 8)),
  .op (some (pth 103)) (some (pth 99, false)) (.iaS 3 (tm 101) (tm 102)),
  .op (some (pth 104)) (some (pth 99, false)) (.loadN 3 (tm 103)),
  .op (some (pth 105)) (some (pth 99, false)) (.ne (binS Try.prog .neq 31) (tm 100) (tm 104)),
  .op (some (pth 106)) none (.pick (tm 99) (.cst (.b true)) (tm 105))]
noncomputable def r5_24 : List CO := [
  .op (some (pth 4)) none (.mv (.cst (.b false)))]
noncomputable def r5_25 : List CO := [
  .op (some (pth 107)) none (.mv (tm 5)),
  .call (some (pth 108)) none (.cst (.func 16 [])) [(tm 107)],
  .op (some (pth 17)) none (.mv (tm 108))]
noncomputable def r5_26 : List CO := [
  .op (some (pth 109)) none (.mv (tm 17)),
  .op (some (pth 110)) none (.ne (binS Try.prog .neq 25) (tm 109) (.cst (iv 0))),
  .op (some (pth 111)) none (.mv (tm 110)),
  .op (some (pth 112)) (some (pth 111, false)) (.mv (tm 5)),
  .call (some (pth 113)) (some (pth 111, false)) (.cst (.func 10 [])) [(tm 112)],
  .op (some (pth 114)) (some (pth 111, false)) (.mv (tm 13)),
  .op (some (pth 115)) (some (pth 111, false)) (.ne (binS Try.prog .neq 9) (tm 113) (tm 114)),
  .op (some (pth 116)) none (.pick (tm 111) (.cst (.b true)) (tm 115))]
noncomputable def r5_27 : List CO := [
  .op (some (pth 4)) none (.mv (.cst (.b false)))]
noncomputable def r5_28 : List CO := [
  .op (some (pth 117)) none (.mv (tm 7)),
  .op (some (pth 118)) none (.mv (tm 9)),
  .op (some (pth 119)) none (.bslice 9 1 1 [(tv [])] [(0, 1, (tm 118))]),
  .op (some (pth 120)) none (.app 9 1 16 [(tv [])] (tm 117) (tm 119)),
  .op (some (pth 7)) none (.mv (tm 120))]
noncomputable def r5_11 : List CO := [
  .op (some (pth 48)) none (.mv (tm 8)),
  .op (some (pth 49)) none (.add (binS Try.prog .add 3) (tm 48) (.cst (iv 1))),
  .op (some (pth 8)) none (.mv (tm 49))]
noncomputable def r5_29 : List CO := [
  .op (some (pth 121)) none (.mv (tm 5)),
  .call (some (pth 122)) none (.cst (.func 14 [])) [(tm 121)],
  .op (some (pth 123)) none (.mv (tm 7)),
  .op (some (pth 124)) none (.len false (tm 123)),
  .op (some (pth 125)) none (.ne (binS Try.prog .neq 3) (tm 122) (tm 124))]
noncomputable def r5_30 : List CO := [
  .op (some (pth 4)) none (.mv (.cst (.b false)))]
noncomputable def r5_31 : List CO := [
  .op (some (pth 126)) none (.mv (tm 7)),
  .op (some (pth 127)) none (.len false (tm 126)),
  .op (some (pth 128)) none (.sub (binS Try.prog .sub 3) (tm 127) (.cst (iv 1))),
  .op (some (pth 18)) none (.mv (tm 128))]
noncomputable def r5_32 : List CO := [
  .op (some (pth 129)) none (.mv (tm 18)),
  .op (some (pth 130)) none (.ge (binS Try.prog .geq 3) (tm 129) (.cst (iv 0)))]
noncomputable def r5_34 : List CO := [
  .op (some (pth 133)) none (.mv (tm 5)),
  .call (some (pth 134)) none (.cst (.func 16 [])) [(tm 133)],
  .op (some (pth 19)) none (.mv (tm 134))]
noncomputable def r5_35 : List CO := [
  .op (some (pth 135)) none (.mv (tm 19)),
  .op (some (pth 136)) none (.ne (binS Try.prog .neq 25) (tm 135) (.cst (iv 0))),
  .op (some (pth 137)) none (.mv (tm 136)),
  .op (some (pth 138)) (some (pth 137, false)) (.mv (tm 5)),
  .call (some (pth 139)) (some (pth 137, false)) (.cst (.func 10 [])) [(tm 138)],
  .op (some (pth 140)) (some (pth 137, false)) (.mv (tm 7)),
  .op (some (pth 141)) (some (pth 137, false)) (.mv (tm 18)),
  .op (some (pth 142)) (some (pth 137, false)) (.iaS 1 (tm 140) (tm 141)),
  .op (some (pth 143)) (some (pth 137, false)) (.load (tm 142)),
  .op (some (pth 144)) (some (pth 137, false)) (.ne (binS Try.prog .neq 9) (tm 139) (tm 143)),
  .op (some (pth 145)) none (.pick (tm 137) (.cst (.b true)) (tm 144))]
noncomputable def r5_36 : List CO := [
  .op (some (pth 4)) none (.mv (.cst (.b false)))]
noncomputable def r5_33 : List CO := [
  .op (some (pth 131)) none (.mv (tm 18)),
  .op (some (pth 132)) none (.sub (binS Try.prog .sub 3) (tm 131) (.cst (iv 1))),
  .op (some (pth 18)) none (.mv (tm 132))]
noncomputable def r5_37 : List CO := [
  .op (some (pth 146)) none (.mv (tm 5)),
  .call (some (pth 147)) none (.cst (.func 16 [])) [(tm 146)],
  .op (some (pth 20)) none (.mv (tm 147))]
noncomputable def r5_38 : List CO := [
  .op (some (pth 148)) none (.mv (tm 20)),
  .op (some (pth 149)) none (.eq (binS Try.prog .eql 25) (tm 148) (.cst (iv 11))),
  .op (some (pth 150)) none (.mv (tm 149)),
  .op (some (pth 151)) (some (pth 150, true)) (.mv (tm 5)),
  .call (some (pth 152)) (some (pth 150, true)) (.cst (.func 10 [])) [(tm 151)],
  .op (some (pth 153)) (some (pth 150, true)) (.mv (tm 0)),
  .op (some (pth 154)) (some (pth 150, true)) (.eq (binS Try.prog .eql 9) (tm 152) (tm 153)),
  .op (some (pth 155)) none (.pick (tm 150) (tm 154) (.cst (.b false))),
  .op (some (pth 4)) none (.mv (tm 155))]
noncomputable def c5 : CC := (.seq (.reg r5_0) (.seq (.seq (.reg r5_1) (.cond (tm 22) (.seq (.reg r5_2) .ret) .skip)) (.seq (.seq (.reg r5_3) (.cond (tm 25) (.seq (.reg r5_4) .ret) .skip)) (.seq (.reg r5_5) (.seq (.seq (.reg r5_6) (.cond (tm 32) (.seq (.reg r5_7) .ret) .skip)) (.seq (.reg r5_8) (.seq (.seq (.reg r5_9) (.block 0 (.loop (.seq (.seq (.reg r5_10) (.cond (tm 47) .skip (.exit 0))) (.seq (.block 1 (.seq (.reg r5_12) (.seq (.reg r5_13) (.seq (.reg r5_14) (.seq (.seq (.reg r5_15) (.cond (tm 69) (.seq (.reg r5_16) .ret) .skip)) (.seq (.seq (.reg r5_17) (.cond (tm 71) (.seq (.seq (.reg r5_18) (.cond (tm 75) (.seq (.reg r5_19) .ret) .skip)) (.exit 1)) .skip)) (.seq (.reg r5_20) (.seq (.reg r5_21) (.seq (.reg r5_22) (.seq (.seq (.drawn r5_23 [(13, 9), (17, 9)]) (.cond (tm 106) (.seq (.reg r5_24) .ret) .skip)) (.seq (.reg r5_25) (.seq (.seq (.reg r5_26) (.cond (tm 116) (.seq (.reg r5_27) .ret) .skip)) (.reg r5_28))))))))))))) (.reg r5_11)))))) (.seq (.seq (.reg r5_29) (.cond (tm 125) (.seq (.reg r5_30) .ret) .skip)) (.seq (.seq (.reg r5_31) (.block 2 (.loop (.seq (.seq (.reg r5_32) (.cond (tm 130) .skip (.exit 2))) (.seq (.block 3 (.seq (.reg r5_34) (.seq (.drawn r5_35 [(8, 0), (8, 5)]) (.cond (tm 145) (.seq (.reg r5_36) .ret) .skip)))) (.reg r5_33)))))) (.seq (.reg r5_37) (.seq (.reg r5_38) .ret)))))))))))
theorem at5 : FnAt Try.prog tb 5 c5 156 [.tmp 4] := fnAt_of tb_fs Try.func5 rfl (by kernel_rfl) (by kernel_rfl) rfl rfl
end Go.Proofs.Ytcbafpfljencdaa
