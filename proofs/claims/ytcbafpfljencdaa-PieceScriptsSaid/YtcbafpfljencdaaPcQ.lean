import Derived.Test.YtcbafpfljencdaaPcA
/- The code of the reference of piece and of the law PieceScripts, made ready for the abstract machine (printed by pp.lean). -/
namespace Go.Proofs.Ytcbafpfljencdaa
open Go.Am

/-! 17: skerry/skerryref20.New -/
noncomputable def r17_0 : List CO := [
  .op (some (pth 2)) none (.mv (.cst nilp)),
  .op (some (pth 3)) none (.mv (.cst (iv 0)))]
noncomputable def r17_1 : List CO := [
  .op (some (pth 4)) none (.mv (tm 0)),
  .op (some (pth 5)) none (.len true (tm 4)),
  .op (some (pth 6)) none (.gt (binS Try.prog .gtr 3) (tm 5) (.cst (iv 65536)))]
noncomputable def r17_2 : List CO := [
  .op (some (pth 2)) none (.mv (.cst nilp)),
  .op (some (pth 3)) none (.mv (.cst (iv 5)))]
noncomputable def r17_3 : List CO := [
  .op (some (pth 7)) none (.mv (tm 0)),
  .op (some (pth 8)) none (.bslice 9 1 1 [(tv [])] [(0, 1, (tm 7))]),
  .op (some (pth 9)) none (.build [nils] [(0, 1, (tm 8))]),
  .op (some (pth 10)) none (.box 66 (tm 9)),
  .op (some (pth 2)) none (.mv (tm 10)),
  .op (some (pth 3)) none (.mv (.cst (iv 0)))]
noncomputable def c17 : CC := (.seq (.reg r17_0) (.seq (.seq (.reg r17_1) (.cond (tm 6) (.seq (.reg r17_2) .ret) .skip)) (.seq (.reg r17_3) .ret)))
theorem at17 : FnAt Try.prog tb 17 c17 11 [.tmp 2, .tmp 3] := fnAt_of tb_fs Try.func17 rfl (by kernel_rfl) (by kernel_rfl) rfl rfl
/-! 18:   skerry/skerryref20.Doc .Apply -/
noncomputable def r18_0 : List CO := [
  .op (some (pth 3)) none (.box 31 (tm 1)),
  .op (some (pth 4)) none (.mv (.cst (iv 0)))]
noncomputable def r18_1 : List CO := [
  .op (some (pth 7)) none (.mv (tm 0)),
  .op (some (pth 8)) none (.loadN 3 (tm 3)),
  .call (some (pth 9)) none (.cst (.func 29 [])) [(tm 7), (tm 8)],
  .op (some (pth 5)) none (.mv (tm 9))]
noncomputable def r18_2 : List CO := [
  .op (some (pth 10)) none (.mv (tm 5)),
  .op (some (pth 11)) none (.ne (binS Try.prog .neq 25) (tm 10) (.cst (iv 0)))]
noncomputable def r18_3 : List CO := [
  .op (some (pth 12)) none (.mv (tm 5)),
  .op (some (pth 4)) none (.mv (tm 12))]
noncomputable def r18_4 : List CO := [
  .op (some (pth 13)) none (.mv (tm 0)),
  .call (some (pth 14)) none (.cst (.func 22 [])) [(tm 13)],
  .op (some (pth 6)) none (.mv (tm 14))]
noncomputable def r18_5 : List CO := [
  .op (some (pth 15)) none (.mv (tm 0)),
  .op (some (pth 16)) none (.mv (tm 0)),
  .op (some (pth 17)) none (.nil (tm 16)),
  .op (some (pth 18)) none (.fa 0 (tm 17)),
  .op (some (pth 19)) none (.load (tm 18)),
  .op (some (pth 20)) none (.mv (tm 6)),
  .op (some (pth 21)) none (.fa 0 (tm 3)),
  .op (some (pth 22)) none (.load (tm 21)),
  .op (some (pth 23)) none (.sls (tm 20) none (some (tm 22))),
  .op (some (pth 24)) none (.fa 2 (tm 3)),
  .op (some (pth 25)) none (.load (tm 24)),
  .op (some (pth 26)) none (.add (binS Try.prog .add 9) (tm 23) (tm 25)),
  .op (some (pth 27)) none (.mv (tm 6)),
  .op (some (pth 28)) none (.fa 0 (tm 3)),
  .op (some (pth 29)) none (.load (tm 28)),
  .op (some (pth 30)) none (.fa 1 (tm 3)),
  .op (some (pth 31)) none (.load (tm 30)),
  .op (some (pth 32)) none (.add (binS Try.prog .add 3) (tm 29) (tm 31)),
  .op (some (pth 33)) none (.sls (tm 27) (some (tm 32)) none),
  .op (some (pth 34)) none (.add (binS Try.prog .add 9) (tm 26) (tm 33)),
  .op (some (pth 35)) none (.bslice 9 1 1 [(tv [])] [(0, 1, (tm 34))]),
  .op (some (pth 36)) none (.app 9 1 16 [(tv [])] (tm 19) (tm 35)),
  .op (some (pth 37)) none (.nil (tm 15)),
  .op (some (pth 38)) none (.fa 0 (tm 37)),
  .op none none (.store 1 (tm 38) (tm 36))]
noncomputable def r18_6 : List CO := [
  .op (some (pth 4)) none (.mv (.cst (iv 0)))]
noncomputable def c18 : CC := (.seq (.reg r18_0) (.seq (.reg r18_1) (.seq (.seq (.reg r18_2) (.cond (tm 11) (.seq (.reg r18_3) .ret) .skip)) (.seq (.reg r18_4) (.seq (.drawn r18_5 [(4, 0), (4, 21), (7, 0), (10, 0), (14, 0), (16, 0)]) (.seq (.reg r18_6) .ret))))))
theorem at18 : FnAt Try.prog tb 18 c18 39 [.tmp 4] := fnAt_of tb_fs Try.func18 rfl (by kernel_rfl) (by kernel_rfl) rfl rfl
/-! 19:   skerry/skerryref20.Doc .Undo -/
noncomputable def r19_0 : List CO := [
  .op (some (pth 2)) none (.mv (.cst (iv 0)))]
noncomputable def r19_1 : List CO := [
  .op (some (pth 3)) none (.mv (tm 0)),
  .op (some (pth 4)) none (.nil (tm 3)),
  .op (some (pth 5)) none (.fa 0 (tm 4)),
  .op (some (pth 6)) none (.load (tm 5)),
  .op (some (pth 7)) none (.len false (tm 6)),
  .op (some (pth 8)) none (.eq (binS Try.prog .eql 3) (tm 7) (.cst (iv 1)))]
noncomputable def r19_2 : List CO := [
  .op (some (pth 2)) none (.mv (.cst (iv 11)))]
noncomputable def r19_3 : List CO := [
  .op (some (pth 9)) none (.mv (tm 0)),
  .op (some (pth 10)) none (.mv (tm 0)),
  .op (some (pth 11)) none (.nil (tm 10)),
  .op (some (pth 12)) none (.fa 0 (tm 11)),
  .op (some (pth 13)) none (.load (tm 12)),
  .op (some (pth 14)) none (.mv (tm 0)),
  .op (some (pth 15)) none (.nil (tm 14)),
  .op (some (pth 16)) none (.fa 0 (tm 15)),
  .op (some (pth 17)) none (.load (tm 16)),
  .op (some (pth 18)) none (.len false (tm 17)),
  .op (some (pth 19)) none (.sub (binS Try.prog .sub 3) (tm 18) (.cst (iv 1))),
  .op (some (pth 20)) none (.sl 1 false (tm 13) none (some (tm 19)) none),
  .op (some (pth 21)) none (.nil (tm 9)),
  .op (some (pth 22)) none (.fa 0 (tm 21)),
  .op none none (.store 1 (tm 22) (tm 20))]
noncomputable def r19_4 : List CO := [
  .op (some (pth 2)) none (.mv (.cst (iv 0)))]
noncomputable def c19 : CC := (.seq (.reg r19_0) (.seq (.seq (.reg r19_1) (.cond (tm 8) (.seq (.reg r19_2) .ret) .skip)) (.seq (.drawn r19_3 [(4, 0), (8, 0), (11, 0)]) (.seq (.reg r19_4) .ret))))
theorem at19 : FnAt Try.prog tb 19 c19 23 [.tmp 2] := fnAt_of tb_fs Try.func19 rfl (by kernel_rfl) (by kernel_rfl) rfl rfl
/-! 20:   skerry/skerryref20.Doc .Inverse -/
noncomputable def r20_0 : List CO := [
  .op (some (pth 3)) none (.box 31 (tm 1)),
  .op (some (pth 4)) none (.alloc 31 3 [(iv 0), (iv 0), (tv [])]),
  .op (some (pth 5)) none (.mv (.cst (iv 0)))]
noncomputable def r20_1 : List CO := [
  .op (some (pth 7)) none (.mv (tm 0)),
  .op (some (pth 8)) none (.loadN 3 (tm 3)),
  .call (some (pth 9)) none (.cst (.func 29 [])) [(tm 7), (tm 8)],
  .op (some (pth 6)) none (.mv (tm 9))]
noncomputable def r20_2 : List CO := [
  .op (some (pth 10)) none (.mv (tm 6)),
  .op (some (pth 11)) none (.ne (binS Try.prog .neq 25) (tm 10) (.cst (iv 0)))]
noncomputable def r20_3 : List CO := [
  .op (some (pth 12)) none (.build [(iv 0), (iv 0), (tv [])] []),
  .op (some (pth 13)) none (.mv (tm 6)),
  .op none none (.store 3 (tm 4) (tm 12)),
  .op (some (pth 5)) none (.mv (tm 13))]
noncomputable def r20_4 : List CO := [
  .op (some (pth 14)) none (.fa 0 (tm 3)),
  .op (some (pth 15)) none (.load (tm 14)),
  .op (some (pth 16)) none (.fa 2 (tm 3)),
  .op (some (pth 17)) none (.load (tm 16)),
  .op (some (pth 18)) none (.len true (tm 17)),
  .op (some (pth 19)) none (.mv (tm 0)),
  .call (some (pth 20)) none (.cst (.func 22 [])) [(tm 19)],
  .op (some (pth 21)) none (.fa 0 (tm 3)),
  .op (some (pth 22)) none (.load (tm 21)),
  .op (some (pth 23)) none (.fa 0 (tm 3)),
  .op (some (pth 24)) none (.load (tm 23)),
  .op (some (pth 25)) none (.fa 1 (tm 3)),
  .op (some (pth 26)) none (.load (tm 25)),
  .op (some (pth 27)) none (.add (binS Try.prog .add 3) (tm 24) (tm 26)),
  .op (some (pth 28)) none (.sls (tm 20) (some (tm 22)) (some (tm 27))),
  .op (some (pth 29)) none (.build [(iv 0), (iv 0), (tv [])] [(0, 1, (tm 15)), (1, 1, (tm 18)), (2, 1, (tm 28))]),
  .op none none (.store 3 (tm 4) (tm 29)),
  .op (some (pth 5)) none (.mv (.cst (iv 0)))]
noncomputable def c20 : CC := (.seq (.reg r20_0) (.seq (.reg r20_1) (.seq (.seq (.reg r20_2) (.cond (tm 11) (.seq (.reg r20_3) .ret) .skip)) (.seq (.drawn r20_4 [(1, 0), (1, 7), (3, 0), (3, 7), (8, 0), (8, 7), (10, 0), (10, 7), (12, 0), (12, 7)]) .ret))))
theorem at20 : FnAt Try.prog tb 20 c20 30 [.cell 4 31, .tmp 5] := fnAt_of tb_fs Try.func20 rfl (by kernel_rfl) (by kernel_rfl) rfl rfl
/-! 21:   skerry/skerryref20.Doc .Slice -/
noncomputable def r21_0 : List CO := [
  .op (some (pth 6)) none (.mv (.cst (tv []))),
  .op (some (pth 7)) none (.mv (.cst (iv 0)))]
noncomputable def r21_1 : List CO := [
  .op (some (pth 9)) none (.mv (tm 0)),
  .call (some (pth 10)) none (.cst (.func 22 [])) [(tm 9)],
  .op (some (pth 8)) none (.mv (tm 10))]
noncomputable def r21_2 : List CO := [
  .op (some (pth 11)) none (.mv (tm 1)),
  .op (some (pth 12)) none (.lt (binS Try.prog .lss 3) (tm 11) (.cst (iv 0))),
  .op (some (pth 13)) none (.mv (tm 12)),
  .op (some (pth 14)) (some (pth 13, false)) (.mv (tm 2)),
  .op (some (pth 15)) (some (pth 13, false)) (.lt (binS Try.prog .lss 3) (tm 14) (.cst (iv 0))),
  .op (some (pth 16)) none (.pick (tm 13) (.cst (.b true)) (tm 15)),
  .op (some (pth 17)) none (.mv (tm 16)),
  .op (some (pth 18)) (some (pth 17, false)) (.mv (tm 1)),
  .op (some (pth 19)) (some (pth 17, false)) (.mv (tm 8)),
  .op (some (pth 20)) (some (pth 17, false)) (.len true (tm 19)),
  .op (some (pth 21)) (some (pth 17, false)) (.gt (binS Try.prog .gtr 3) (tm 18) (tm 20)),
  .op (some (pth 22)) none (.pick (tm 17) (.cst (.b true)) (tm 21)),
  .op (some (pth 23)) none (.mv (tm 22)),
  .op (some (pth 24)) (some (pth 23, false)) (.mv (tm 2)),
  .op (some (pth 25)) (some (pth 23, false)) (.mv (tm 8)),
  .op (some (pth 26)) (some (pth 23, false)) (.len true (tm 25)),
  .op (some (pth 27)) (some (pth 23, false)) (.mv (tm 1)),
  .op (some (pth 28)) (some (pth 23, false)) (.sub (binS Try.prog .sub 3) (tm 26) (tm 27)),
  .op (some (pth 29)) (some (pth 23, false)) (.gt (binS Try.prog .gtr 3) (tm 24) (tm 28)),
  .op (some (pth 30)) none (.pick (tm 23) (.cst (.b true)) (tm 29))]
noncomputable def r21_3 : List CO := [
  .op (some (pth 6)) none (.mv (.cst (tv []))),
  .op (some (pth 7)) none (.mv (.cst (iv 2)))]
noncomputable def r21_4 : List CO := [
  .op (some (pth 31)) none (.mv (tm 8)),
  .op (some (pth 32)) none (.mv (tm 1)),
  .op (some (pth 33)) none (.mv (tm 1)),
  .op (some (pth 34)) none (.mv (tm 2)),
  .op (some (pth 35)) none (.add (binS Try.prog .add 3) (tm 33) (tm 34)),
  .op (some (pth 36)) none (.sls (tm 31) (some (tm 32)) (some (tm 35))),
  .op (some (pth 6)) none (.mv (tm 36)),
  .op (some (pth 7)) none (.mv (.cst (iv 0)))]
noncomputable def c21 : CC := (.seq (.reg r21_0) (.seq (.reg r21_1) (.seq (.seq (.reg r21_2) (.cond (tm 30) (.seq (.reg r21_3) .ret) .skip)) (.seq (.reg r21_4) .ret))))
theorem at21 : FnAt Try.prog tb 21 c21 37 [.tmp 6, .tmp 7] := fnAt_of tb_fs Try.func21 rfl (by kernel_rfl) (by kernel_rfl) rfl rfl
/-! 22:   skerry/skerryref20.Doc .Text -/
noncomputable def r22_0 : List CO := [
  .op (some (pth 2)) none (.mv (.cst (tv [])))]
noncomputable def r22_1 : List CO := [
  .op (some (pth 3)) none (.mv (tm 0)),
  .op (some (pth 4)) none (.nil (tm 3)),
  .op (some (pth 5)) none (.fa 0 (tm 4)),
  .op (some (pth 6)) none (.load (tm 5)),
  .op (some (pth 7)) none (.mv (tm 0)),
  .op (some (pth 8)) none (.nil (tm 7)),
  .op (some (pth 9)) none (.fa 0 (tm 8)),
  .op (some (pth 10)) none (.load (tm 9)),
  .op (some (pth 11)) none (.len false (tm 10)),
  .op (some (pth 12)) none (.sub (binS Try.prog .sub 3) (tm 11) (.cst (iv 1))),
  .op (some (pth 13)) none (.iaS 1 (tm 6) (tm 12)),
  .op (some (pth 14)) none (.load (tm 13)),
  .op (some (pth 2)) none (.mv (tm 14))]
noncomputable def c22 : CC := (.seq (.reg r22_0) (.seq (.drawn r22_1 [(3, 0), (7, 0), (11, 0)]) .ret))
theorem at22 : FnAt Try.prog tb 22 c22 15 [.tmp 2] := fnAt_of tb_fs Try.func22 rfl (by kernel_rfl) (by kernel_rfl) rfl rfl
/-! 23:   skerry/skerryref20.Doc .Edits -/
noncomputable def r23_0 : List CO := [
  .op (some (pth 2)) none (.mv (.cst (iv 0)))]
noncomputable def r23_1 : List CO := [
  .op (some (pth 3)) none (.mv (tm 0)),
  .op (some (pth 4)) none (.nil (tm 3)),
  .op (some (pth 5)) none (.fa 0 (tm 4)),
  .op (some (pth 6)) none (.load (tm 5)),
  .op (some (pth 7)) none (.len false (tm 6)),
  .op (some (pth 8)) none (.sub (binS Try.prog .sub 3) (tm 7) (.cst (iv 1))),
  .op (some (pth 2)) none (.mv (tm 8))]
noncomputable def c23 : CC := (.seq (.reg r23_0) (.seq (.reg r23_1) .ret))
theorem at23 : FnAt Try.prog tb 23 c23 9 [.tmp 2] := fnAt_of tb_fs Try.func23 rfl (by kernel_rfl) (by kernel_rfl) rfl rfl
/-! 29:   skerry/skerryref20.Doc .Fits -/
noncomputable def r29_0 : List CO := [
  .op (some (pth 3)) none (.box 31 (tm 1)),
  .op (some (pth 4)) none (.mv (.cst (iv 0)))]
noncomputable def r29_1 : List CO := [
  .op (some (pth 8)) none (.mv (tm 0)),
  .op (some (pth 9)) none (.fa 0 (tm 3)),
  .op (some (pth 10)) none (.load (tm 9)),
  .op (some (pth 11)) none (.fa 1 (tm 3)),
  .op (some (pth 12)) none (.load (tm 11)),
  .call (some (pth 13)) none (.cst (.func 21 [])) [(tm 8), (tm 10), (tm 12)],
  .op (some (pth 7)) none (.mv (tm 13)),
  .op (some (pth 14)) none (.ext 0 (tm 7)),
  .op (some (pth 15)) none (.ext 1 (tm 7)),
  .op (some (pth 5)) none (.mv (tm 14)),
  .op (some (pth 6)) none (.mv (tm 15))]
noncomputable def r29_2 : List CO := [
  .op (some (pth 16)) none (.mv (tm 6)),
  .op (some (pth 17)) none (.ne (binS Try.prog .neq 25) (tm 16) (.cst (iv 0)))]
noncomputable def r29_3 : List CO := [
  .op (some (pth 18)) none (.mv (tm 6)),
  .op (some (pth 4)) none (.mv (tm 18))]
noncomputable def r29_4 : List CO := [
  .op (some (pth 19)) none (.fa 2 (tm 3)),
  .op (some (pth 20)) none (.load (tm 19)),
  .op (some (pth 21)) none (.len true (tm 20)),
  .op (some (pth 22)) none (.mv (tm 0)),
  .call (some (pth 23)) none (.cst (.func 22 [])) [(tm 22)],
  .op (some (pth 24)) none (.len true (tm 23)),
  .op (some (pth 25)) none (.fa 1 (tm 3)),
  .op (some (pth 26)) none (.load (tm 25)),
  .op (some (pth 27)) none (.sub (binS Try.prog .sub 3) (tm 24) (tm 26)),
  .op (some (pth 28)) none (.sub (binS Try.prog .sub 3) (.cst (iv 65536)) (tm 27)),
  .op (some (pth 29)) none (.gt (binS Try.prog .gtr 3) (tm 21) (tm 28))]
noncomputable def r29_5 : List CO := [
  .op (some (pth 4)) none (.mv (.cst (iv 5)))]
noncomputable def r29_6 : List CO := [
  .op (some (pth 4)) none (.mv (.cst (iv 0)))]
noncomputable def c29 : CC := (.seq (.reg r29_0) (.seq (.reg r29_1) (.seq (.seq (.reg r29_2) (.cond (tm 17) (.seq (.reg r29_3) .ret) .skip)) (.seq (.seq (.drawn r29_4 [(1, 0), (1, 5), (7, 0), (7, 5)]) (.cond (tm 29) (.seq (.reg r29_5) .ret) .skip)) (.seq (.reg r29_6) .ret)))))
theorem at29 : FnAt Try.prog tb 29 c29 30 [.tmp 4] := fnAt_of tb_fs Try.func29 rfl (by kernel_rfl) (by kernel_rfl) rfl rfl
/-! 6: skerry/skerrylaw20.PieceScripts -/
noncomputable def r6_0 : List CO := [
  .op (some (pth 4)) none (.mv (.cst (.b false)))]
noncomputable def r6_1 : List CO := [
  .call (some (pth 23)) none (.cst (.func 8 [])) [],
  .op (some (pth 24)) none (.un .not (tm 23))]
noncomputable def r6_2 : List CO := [
  .op (some (pth 4)) none (.mv (.cst (.b false)))]
noncomputable def r6_3 : List CO := [
  .op (some (pth 26)) none (.mv (tm 0)),
  .call (some (pth 27)) none (.cst (.func 9 [])) [(tm 26)],
  .op (some (pth 25)) none (.mv (tm 27)),
  .op (some (pth 28)) none (.ext 0 (tm 25)),
  .op (some (pth 29)) none (.ext 1 (tm 25)),
  .op (some (pth 5)) none (.mv (tm 28)),
  .op (some (pth 6)) none (.mv (tm 29))]
noncomputable def r6_4 : List CO := [
  .op (some (pth 31)) none (.mv (tm 0)),
  .call (some (pth 32)) none (.cst (.func 17 [])) [(tm 31)],
  .op (some (pth 30)) none (.mv (tm 32)),
  .op (some (pth 33)) none (.ext 0 (tm 30)),
  .op (some (pth 34)) none (.ext 1 (tm 30)),
  .op (some (pth 7)) none (.mv (tm 33)),
  .op (some (pth 8)) none (.mv (tm 34))]
noncomputable def r6_5 : List CO := [
  .op (some (pth 35)) none (.mv (tm 6)),
  .op (some (pth 36)) none (.mv (tm 8)),
  .op (some (pth 37)) none (.ne (binS Try.prog .neq 25) (tm 35) (tm 36)),
  .op (some (pth 38)) none (.mv (tm 37)),
  .op (some (pth 39)) (some (pth 38, false)) (.mv (tm 5)),
  .op (some (pth 40)) (some (pth 38, false)) (.eqp false (binS Try.prog .eql 24) (tm 39) (.cst nilp)),
  .op (some (pth 41)) (some (pth 38, false)) (.mv (tm 7)),
  .op (some (pth 42)) (some (pth 38, false)) (.eqp false (binS Try.prog .eql 42) (tm 41) (.cst nilp)),
  .op (some (pth 43)) (some (pth 38, false)) (.ne (binS Try.prog .neq 4) (tm 40) (tm 42)),
  .op (some (pth 44)) none (.pick (tm 38) (.cst (.b true)) (tm 43))]
noncomputable def r6_6 : List CO := [
  .op (some (pth 4)) none (.mv (.cst (.b false)))]
noncomputable def r6_7 : List CO := [
  .op (some (pth 9)) none (.mv (.cst (iv 0)))]
noncomputable def r6_8 : List CO := [
  .op (some (pth 10)) none (.mv (.cst (iv 0)))]
noncomputable def r6_9 : List CO := [
  .op (some (pth 45)) none (.mv (tm 10)),
  .op (some (pth 46)) none (.mv (tm 1)),
  .op (some (pth 47)) none (.len false (tm 46)),
  .op (some (pth 48)) none (.lt (binS Try.prog .lss 3) (tm 45) (tm 47)),
  .op (some (pth 49)) none (.mv (tm 48)),
  .op (some (pth 50)) (some (pth 49, true)) (.mv (tm 7)),
  .op (some (pth 51)) (some (pth 49, true)) (.eqp true (binS Try.prog .neq 42) (tm 50) (.cst nilp)),
  .op (some (pth 52)) none (.pick (tm 49) (tm 51) (.cst (.b false)))]
noncomputable def r6_11 : List CO := [
  .op (some (pth 55)) none (.mv (tm 1)),
  .op (some (pth 56)) none (.mv (tm 10)),
  .op (some (pth 57)) none (.iaS 4 (tm 55) (tm 56)),
  .op (some (pth 58)) none (.loadN 4 (tm 57)),
  .op (some (pth 11)) none (.alloc 46 4 [(iv 0), (iv 0), (iv 0), (tv [])]),
  .op none none (.store 4 (tm 11) (tm 58))]
noncomputable def r6_12 : List CO := [
  .op (some (pth 12)) none (.mv (.cst (.b true)))]
noncomputable def r6_13 : List CO := [
  .op (some (pth 59)) none (.fa 0 (tm 11)),
  .op (some (pth 60)) none (.load (tm 59))]
noncomputable def r6_15 : List CO := [
  .op (some (pth 82)) none (.eq (binS Try.prog .eql 3) (tm 60) (.cst (iv 1))),
  .op (some (pth 81)) none (.mv (tm 82))]
noncomputable def r6_16 : List CO := [
  .op (some (pth 83)) none (.mv (tm 5)),
  .op (some (pth 84)) none (.fa 1 (tm 11)),
  .op (some (pth 85)) none (.loadN 3 (tm 84)),
  .call (some (pth 86)) none (.cst (.func 11 [])) [(tm 83), (tm 85)],
  .op (some (pth 13)) none (.mv (tm 86))]
noncomputable def r6_17 : List CO := [
  .op (some (pth 87)) none (.mv (tm 13)),
  .op (some (pth 88)) none (.mv (tm 7)),
  .op (some (pth 89)) none (.fa 1 (tm 11)),
  .op (some (pth 90)) none (.loadN 3 (tm 89)),
  .call (some (pth 91)) none (.cst (.func 18 [])) [(tm 88), (tm 90)],
  .op (some (pth 92)) none (.eq (binS Try.prog .eql 25) (tm 87) (tm 91)),
  .op (some (pth 12)) none (.mv (tm 92))]
noncomputable def r6_18 : List CO := [
  .op (some (pth 93)) none (.mv (tm 13)),
  .op (some (pth 94)) none (.eq (binS Try.prog .eql 25) (tm 93) (.cst (iv 0)))]
noncomputable def r6_19 : List CO := [
  .op (some (pth 95)) none (.mv (tm 9)),
  .op (some (pth 96)) none (.add (binS Try.prog .add 3) (tm 95) (.cst (iv 1))),
  .op (some (pth 9)) none (.mv (tm 96))]
noncomputable def r6_20 : List CO := [
  .op (some (pth 98)) none (.eq (binS Try.prog .eql 3) (tm 60) (.cst (iv 2))),
  .op (some (pth 97)) none (.mv (tm 98))]
noncomputable def r6_21 : List CO := [
  .op (some (pth 99)) none (.mv (tm 5)),
  .call (some (pth 100)) none (.cst (.func 16 [])) [(tm 99)],
  .op (some (pth 14)) none (.mv (tm 100))]
noncomputable def r6_22 : List CO := [
  .op (some (pth 101)) none (.mv (tm 14)),
  .op (some (pth 102)) none (.mv (tm 7)),
  .call (some (pth 103)) none (.cst (.func 19 [])) [(tm 102)],
  .op (some (pth 104)) none (.eq (binS Try.prog .eql 25) (tm 101) (tm 103)),
  .op (some (pth 12)) none (.mv (tm 104))]
noncomputable def r6_23 : List CO := [
  .op (some (pth 105)) none (.mv (tm 14)),
  .op (some (pth 106)) none (.eq (binS Try.prog .eql 25) (tm 105) (.cst (iv 0)))]
noncomputable def r6_24 : List CO := [
  .op (some (pth 107)) none (.mv (tm 9)),
  .op (some (pth 108)) none (.add (binS Try.prog .add 3) (tm 107) (.cst (iv 1))),
  .op (some (pth 9)) none (.mv (tm 108))]
noncomputable def r6_25 : List CO := [
  .op (some (pth 110)) none (.eq (binS Try.prog .eql 3) (tm 60) (.cst (iv 3))),
  .op (some (pth 109)) none (.mv (tm 110))]
noncomputable def r6_26 : List CO := [
  .op (some (pth 112)) none (.mv (tm 5)),
  .op (some (pth 113)) none (.fa 1 (tm 11)),
  .op (some (pth 114)) none (.loadN 3 (tm 113)),
  .call (some (pth 115)) none (.cst (.func 15 [])) [(tm 112), (tm 114)],
  .op (some (pth 111)) none (.mv (tm 115)),
  .op (some (pth 116)) none (.ext 0 (tm 111)),
  .op (some (pth 117)) none (.ext 1 (tm 111)),
  .op (some (pth 15)) none (.alloc 31 3 [(iv 0), (iv 0), (tv [])]),
  .op none none (.store 3 (tm 15) (tm 116)),
  .op (some (pth 16)) none (.mv (tm 117))]
noncomputable def r6_27 : List CO := [
  .op (some (pth 119)) none (.mv (tm 7)),
  .op (some (pth 120)) none (.fa 1 (tm 11)),
  .op (some (pth 121)) none (.loadN 3 (tm 120)),
  .call (some (pth 122)) none (.cst (.func 20 [])) [(tm 119), (tm 121)],
  .op (some (pth 118)) none (.mv (tm 122)),
  .op (some (pth 123)) none (.ext 0 (tm 118)),
  .op (some (pth 124)) none (.ext 1 (tm 118)),
  .op (some (pth 17)) none (.alloc 31 3 [(iv 0), (iv 0), (tv [])]),
  .op none none (.store 3 (tm 17) (tm 123)),
  .op (some (pth 18)) none (.mv (tm 124))]
noncomputable def r6_28 : List CO := [
  .op (some (pth 125)) none (.loadN 3 (tm 15)),
  .op (some (pth 126)) none (.loadN 3 (tm 17)),
  .op (some (pth 127)) none (.eq (binS Try.prog .eql 31) (tm 125) (tm 126)),
  .op (some (pth 128)) none (.mv (tm 127)),
  .op (some (pth 129)) (some (pth 128, true)) (.mv (tm 16)),
  .op (some (pth 130)) (some (pth 128, true)) (.mv (tm 18)),
  .op (some (pth 131)) (some (pth 128, true)) (.eq (binS Try.prog .eql 25) (tm 129) (tm 130)),
  .op (some (pth 132)) none (.pick (tm 128) (tm 131) (.cst (.b false))),
  .op (some (pth 12)) none (.mv (tm 132))]
noncomputable def r6_29 : List CO := [
  .op (some (pth 134)) none (.eq (binS Try.prog .eql 3) (tm 60) (.cst (iv 4))),
  .op (some (pth 133)) none (.mv (tm 134))]
noncomputable def r6_30 : List CO := [
  .op (some (pth 136)) none (.mv (tm 5)),
  .op (some (pth 137)) none (.fa 1 (tm 11)),
  .op (some (pth 138)) none (.fa 0 (tm 137)),
  .op (some (pth 139)) none (.load (tm 138)),
  .op (some (pth 140)) none (.fa 1 (tm 11)),
  .op (some (pth 141)) none (.fa 1 (tm 140)),
  .op (some (pth 142)) none (.load (tm 141)),
  .call (some (pth 143)) none (.cst (.func 12 [])) [(tm 136), (tm 139), (tm 142)],
  .op (some (pth 135)) none (.mv (tm 143)),
  .op (some (pth 144)) none (.ext 0 (tm 135)),
  .op (some (pth 145)) none (.ext 1 (tm 135)),
  .op (some (pth 19)) none (.mv (tm 144)),
  .op (some (pth 20)) none (.mv (tm 145))]
noncomputable def r6_31 : List CO := [
  .op (some (pth 147)) none (.mv (tm 7)),
  .op (some (pth 148)) none (.fa 1 (tm 11)),
  .op (some (pth 149)) none (.fa 0 (tm 148)),
  .op (some (pth 150)) none (.load (tm 149)),
  .op (some (pth 151)) none (.fa 1 (tm 11)),
  .op (some (pth 152)) none (.fa 1 (tm 151)),
  .op (some (pth 153)) none (.load (tm 152)),
  .call (some (pth 154)) none (.cst (.func 21 [])) [(tm 147), (tm 150), (tm 153)],
  .op (some (pth 146)) none (.mv (tm 154)),
  .op (some (pth 155)) none (.ext 0 (tm 146)),
  .op (some (pth 156)) none (.ext 1 (tm 146)),
  .op (some (pth 21)) none (.mv (tm 155)),
  .op (some (pth 22)) none (.mv (tm 156))]
noncomputable def r6_32 : List CO := [
  .op (some (pth 157)) none (.mv (tm 19)),
  .op (some (pth 158)) none (.mv (tm 21)),
  .op (some (pth 159)) none (.eq (binS Try.prog .eql 9) (tm 157) (tm 158)),
  .op (some (pth 160)) none (.mv (tm 159)),
  .op (some (pth 161)) (some (pth 160, true)) (.mv (tm 20)),
  .op (some (pth 162)) (some (pth 160, true)) (.mv (tm 22)),
  .op (some (pth 163)) (some (pth 160, true)) (.eq (binS Try.prog .eql 25) (tm 161) (tm 162)),
  .op (some (pth 164)) none (.pick (tm 160) (tm 163) (.cst (.b false))),
  .op (some (pth 12)) none (.mv (tm 164))]
noncomputable def r6_14 : List CO := [
  .op (some (pth 61)) none (.mv (tm 5)),
  .call (some (pth 62)) none (.cst (.func 10 [])) [(tm 61)],
  .op (some (pth 63)) none (.mv (tm 7)),
  .call (some (pth 64)) none (.cst (.func 22 [])) [(tm 63)],
  .op (some (pth 65)) none (.eq (binS Try.prog .eql 9) (tm 62) (tm 64)),
  .op (some (pth 66)) none (.mv (tm 65)),
  .op (some (pth 67)) (some (pth 66, true)) (.mv (tm 5)),
  .call (some (pth 68)) (some (pth 66, true)) (.cst (.func 13 [])) [(tm 67)],
  .op (some (pth 69)) (some (pth 66, true)) (.mv (tm 7)),
  .call (some (pth 70)) (some (pth 66, true)) (.cst (.func 22 [])) [(tm 69)],
  .op (some (pth 71)) (some (pth 66, true)) (.len true (tm 70)),
  .op (some (pth 72)) (some (pth 66, true)) (.eq (binS Try.prog .eql 3) (tm 68) (tm 71)),
  .op (some (pth 73)) none (.pick (tm 66) (tm 72) (.cst (.b false))),
  .op (some (pth 74)) none (.mv (tm 73)),
  .op (some (pth 75)) (some (pth 74, true)) (.mv (tm 5)),
  .call (some (pth 76)) (some (pth 74, true)) (.cst (.func 14 [])) [(tm 75)],
  .op (some (pth 77)) (some (pth 74, true)) (.mv (tm 7)),
  .call (some (pth 78)) (some (pth 74, true)) (.cst (.func 23 [])) [(tm 77)],
  .op (some (pth 79)) (some (pth 74, true)) (.eq (binS Try.prog .eql 3) (tm 76) (tm 78)),
  .op (some (pth 80)) none (.pick (tm 74) (tm 79) (.cst (.b false))),
  .op (some (pth 12)) none (.mv (tm 80))]
noncomputable def r6_33 : List CO := [
  .op (some (pth 165)) none (.mv (tm 12)),
  .op (some (pth 166)) none (.un .not (tm 165)),
  .op (some (pth 167)) none (.mv (tm 166)),
  .op (some (pth 168)) (some (pth 167, false)) (.mv (tm 5)),
  .call (some (pth 169)) (some (pth 167, false)) (.cst (.func 24 [])) [(tm 168)],
  .op (some (pth 170)) (some (pth 167, false)) (.lt (binS Try.prog .lss 3) (tm 169) (.cst (iv 0))),
  .op (some (pth 171)) none (.pick (tm 167) (.cst (.b true)) (tm 170)),
  .op (some (pth 172)) none (.mv (tm 171)),
  .op (some (pth 173)) (some (pth 172, false)) (.mv (tm 5)),
  .call (some (pth 174)) (some (pth 172, false)) (.cst (.func 24 [])) [(tm 173)],
  .op (some (pth 175)) (some (pth 172, false)) (.mv (tm 9)),
  .op (some (pth 176)) (some (pth 172, false)) (.mul (binS Try.prog .mul 3) (.cst (iv 2)) (tm 175)),
  .op (some (pth 177)) (some (pth 172, false)) (.add (binS Try.prog .add 3) (.cst (iv 1)) (tm 176)),
  .op (some (pth 178)) (some (pth 172, false)) (.gt (binS Try.prog .gtr 3) (tm 174) (tm 177)),
  .op (some (pth 179)) none (.pick (tm 172) (.cst (.b true)) (tm 178)),
  .op (some (pth 180)) none (.mv (tm 179)),
  .op (some (pth 181)) (some (pth 180, false)) (.mv (tm 5)),
  .call (some (pth 182)) (some (pth 180, false)) (.cst (.func 24 [])) [(tm 181)],
  .op (some (pth 183)) (some (pth 180, false)) (.eq (binS Try.prog .eql 3) (tm 182) (.cst (iv 0))),
  .op (some (pth 184)) (some (pth 180, false)) (.mv (tm 7)),
  .call (some (pth 185)) (some (pth 180, false)) (.cst (.func 22 [])) [(tm 184)],
  .op (some (pth 186)) (some (pth 180, false)) (.eq (binS Try.prog .eql 9) (tm 185) (.cst (tv []))),
  .op (some (pth 187)) (some (pth 180, false)) (.ne (binS Try.prog .neq 4) (tm 183) (tm 186)),
  .op (some (pth 188)) none (.pick (tm 180) (.cst (.b true)) (tm 187))]
noncomputable def r6_34 : List CO := [
  .op (some (pth 4)) none (.mv (.cst (.b false)))]
noncomputable def r6_10 : List CO := [
  .op (some (pth 53)) none (.mv (tm 10)),
  .op (some (pth 54)) none (.add (binS Try.prog .add 3) (tm 53) (.cst (iv 1))),
  .op (some (pth 10)) none (.mv (tm 54))]
noncomputable def r6_35 : List CO := [
  .op (some (pth 189)) none (.mv (tm 7)),
  .op (some (pth 190)) none (.eqp false (binS Try.prog .eql 42) (tm 189) (.cst nilp)),
  .op (some (pth 191)) none (.mv (tm 190)),
  .op (some (pth 192)) (some (pth 191, false)) (.mv (tm 5)),
  .call (some (pth 193)) (some (pth 191, false)) (.cst (.func 10 [])) [(tm 192)],
  .op (some (pth 194)) (some (pth 191, false)) (.mv (tm 7)),
  .call (some (pth 195)) (some (pth 191, false)) (.cst (.func 22 [])) [(tm 194)],
  .op (some (pth 196)) (some (pth 191, false)) (.eq (binS Try.prog .eql 9) (tm 193) (tm 195)),
  .op (some (pth 197)) none (.pick (tm 191) (.cst (.b true)) (tm 196)),
  .op (some (pth 4)) none (.mv (tm 197))]
noncomputable def c6 : CC := (.seq (.reg r6_0) (.seq (.seq (.reg r6_1) (.cond (tm 24) (.seq (.reg r6_2) .ret) .skip)) (.seq (.reg r6_3) (.seq (.reg r6_4) (.seq (.seq (.reg r6_5) (.cond (tm 44) (.seq (.reg r6_6) .ret) .skip)) (.seq (.reg r6_7) (.seq (.seq (.reg r6_8) (.block 0 (.loop (.seq (.seq (.reg r6_9) (.cond (tm 52) .skip (.exit 0))) (.seq (.block 1 (.seq (.reg r6_11) (.seq (.reg r6_12) (.seq (.seq (.reg r6_13) (.block 2 (.seq (.reg r6_15) (.cond (tm 81) (.seq (.reg r6_16) (.seq (.reg r6_17) (.seq (.reg r6_18) (.cond (tm 94) (.reg r6_19) .skip)))) (.seq (.reg r6_20) (.cond (tm 97) (.seq (.reg r6_21) (.seq (.reg r6_22) (.seq (.reg r6_23) (.cond (tm 106) (.reg r6_24) .skip)))) (.seq (.reg r6_25) (.cond (tm 109) (.seq (.reg r6_26) (.seq (.reg r6_27) (.reg r6_28))) (.seq (.reg r6_29) (.cond (tm 133) (.seq (.reg r6_30) (.seq (.reg r6_31) (.reg r6_32))) (.reg r6_14))))))))))) (.seq (.reg r6_33) (.cond (tm 188) (.seq (.reg r6_34) .ret) .skip)))))) (.reg r6_10)))))) (.seq (.reg r6_35) .ret))))))))
theorem at6 : FnAt Try.prog tb 6 c6 198 [.tmp 4] := fnAt_of tb_fs Try.func6 rfl (by kernel_rfl) (by kernel_rfl) rfl rfl
end Go.Proofs.Ytcbafpfljencdaa
