import Derived.Test.YtooooiidpaecmaaGreatDoorAmRu
import Derived.Test.YtooooiidpaecmaaGreatDoorAmRl
import Derived.Test.YtooooiidpaecmaaGreatDoorRows
/- What is known ahead of a run: the fixed runs, sorted keys, sorted rows, the plan, and what lies in memory behind the making of a device. -/
namespace Go.Proofs.YtooooiidpaecmaaGreatDoor
open Go Go.Am
noncomputable def Z3:AV:= .agg [iv 64,iv 90,iv 6,iv 30,iv 2,iv 32,iv 1,iv 33,iv 1,iv 34,iv 3,iv 37]
noncomputable def tb0:Tb:=c0P (a9z (a9E (libTb Tryz.prog 199 3 [214,224] []) [6]) 37) 7 Z3
noncomputable def cls:List Cl:= [⟨53,[Z3],iv 0⟩,⟨74,[Z3],.tuple [iv 68096,iv 0]⟩,⟨56,[Z3,iv 2],.tuple [iv 35,iv 0,iv 0]⟩,⟨56,[Z3,iv 3],.tuple [iv 35,iv 32,iv 0]⟩]
noncomputable def tbA:Tb:=e9n tb0 cls
noncomputable def tb:Tb:=c2c Tryz.prog tbA [8]
set_option maxRecDepth 100000 in
theorem i7:tb.fs=Q7 Tryz.prog:=rfl
noncomputable abbrev B(o:BinOp)(t:TypeId):=d8 Tryz.prog o t
noncomputable abbrev C(n:Nat)(f:FuncId)(a:List RO):CO:= .call (some (pth n)) none (.cst (.func f [])) a
noncomputable abbrev G(n k:Nat)(b:Bool)(o:OP):CO:= .op (some (pth n)) (some (pth k,b)) o
noncomputable abbrev O(n:Nat)(o:OP):CO:= .op (some (pth n)) none o
noncomputable abbrev mV(n k:Nat):CO:= .op (some (pth n)) none (.mv (tm k))
noncomputable abbrev lD(n k:Nat):CO:= .op (some (pth n)) none (.load (tm k))
noncomputable abbrev fA(n i k:Nat):CO:= .op (some (pth n)) none (.fa i (tm k))
noncomputable abbrev eX(n i k:Nat):CO:= .op (some (pth n)) none (.ext i (tm k))
noncomputable abbrev nL(n k:Nat):CO:= .op (some (pth n)) none (.nil (tm k))
abbrev Kq(a b:CC):Prop:=∀Q fr m,GX Tryz.prog tb a Q fr m=GX Tryz.prog tb b Q fr m
theorem kr{a:CC}:Kq a a:=fun _ _ _=>rfl
theorem qy{a b:CC}(h:a=b):Kq a b:=by rw[h];exact kr
theorem qz{a b:CC}{R:Prop}(h:a=b)(r:R):Kq a b∧R:=⟨qy h,r⟩
theorem qw(a b:CC)(h:Kq a b):Kq a b:=h
theorem qx{a b:CC}{R:Prop}(h:Kq a b)(r:R):Kq a b∧R:=⟨h,r⟩
theorem wA:type_of% (And.intro @b8F<|And.intro @b7P<|And.intro @f1o<|And.intro @e9z<|And.intro @e0R<|And.intro @d3L<|And.intro @d4v<|And.intro @c8y<|And.intro @e9h<|And.intro @e8L<|And.intro @f05<|And.intro @f3y<|And.intro @d4N<|And.intro @b0k<|And.intro @f1c<|And.intro @c1I<|And.intro @b9O<|And.intro @d8j<|And.intro @d1R<|And.intro @b1a<|And.intro @f0K<|And.intro @f02<|And.intro @f0n<|And.intro @f04<|And.intro @f0j<|And.intro @f0r<|And.intro @f3z<|And.intro @f1l<|And.intro @f3g<|And.intro @f1n<|And.intro @f2V<|And.intro @f2f<|And.intro @f0c<|And.intro @f2t<|And.intro @f0N<|And.intro @e9V<|And.intro @e8K<|And.intro @f1t<|And.intro @f0B<|And.intro @f0G<|And.intro @f0o<|And.intro @f0P<|And.intro @f0i<|And.intro @f0V<|And.intro @f0m<|And.intro @f0h<|And.intro @f09<|And.intro @f0u<|And.intro @f0l<|And.intro @a0G<|And.intro @c7x<|And.intro @c8u<|And.intro @C5<|And.intro @f0w<|And.intro @f08<| @c8N):=And.intro @b8F<|And.intro @b7P<|And.intro @f1o<|And.intro @e9z<|And.intro @e0R<|And.intro @d3L<|And.intro @d4v<|And.intro @c8y<|And.intro @e9h<|And.intro @e8L<|And.intro @f05<|And.intro @f3y<|And.intro @d4N<|And.intro @b0k<|And.intro @f1c<|And.intro @c1I<|And.intro @b9O<|And.intro @d8j<|And.intro @d1R<|And.intro @b1a<|And.intro @f0K<|And.intro @f02<|And.intro @f0n<|And.intro @f04<|And.intro @f0j<|And.intro @f0r<|And.intro @f3z<|And.intro @f1l<|And.intro @f3g<|And.intro @f1n<|And.intro @f2V<|And.intro @f2f<|And.intro @f0c<|And.intro @f2t<|And.intro @f0N<|And.intro @e9V<|And.intro @e8K<|And.intro @f1t<|And.intro @f0B<|And.intro @f0G<|And.intro @f0o<|And.intro @f0P<|And.intro @f0i<|And.intro @f0V<|And.intro @f0m<|And.intro @f0h<|And.intro @f09<|And.intro @f0u<|And.intro @f0l<|And.intro @a0G<|And.intro @c7x<|And.intro @c8u<|And.intro @C5<|And.intro @f0w<|And.intro @f08<| @c8N
theorem wB:type_of% (And.intro @b9u<|And.intro @b8a<|And.intro @f1a<|And.intro @f3f<|And.intro @f0C<|And.intro @f0I<|And.intro @f3e<|And.intro @f2j<|And.intro @f1P<|And.intro @f2m<|And.intro @f1E<|And.intro @f2R<|And.intro @f0E<|And.intro @f0U<|And.intro @e07<|And.intro @b2w<|And.intro @b96<|And.intro @c0g<|And.intro @c0c<|And.intro @a9p<|And.intro @b8L<|And.intro @d2g<|And.intro @b8e<|And.intro @e1A<|And.intro @c2e<|And.intro @b8E<|And.intro @b7R<|And.intro @e2n<|And.intro @e4K<|And.intro @d7<|And.intro @Q0<|And.intro @b9Y<|And.intro @d1i<|And.intro @P4<|And.intro @a1l<|And.intro @b8V<|And.intro @a2r<|And.intro @b8K<|And.intro @c0b<|And.intro @d7f<|And.intro @b76<|And.intro @l9<|And.intro @u7<|And.intro @A4<|And.intro @A1<|And.intro @f0p<|And.intro @f0s<|And.intro @b3E<|And.intro @List.length_cons.{0}<|And.intro @List.length_nil.{0}<|And.intro @Nat.zero_add<|And.intro @Nat.add_zero<|And.intro @decide_true<|And.intro @decide_false<|And.intro @Bool.true_and<| @Bool.and_true):=And.intro @b9u<|And.intro @b8a<|And.intro @f1a<|And.intro @f3f<|And.intro @f0C<|And.intro @f0I<|And.intro @f3e<|And.intro @f2j<|And.intro @f1P<|And.intro @f2m<|And.intro @f1E<|And.intro @f2R<|And.intro @f0E<|And.intro @f0U<|And.intro @e07<|And.intro @b2w<|And.intro @b96<|And.intro @c0g<|And.intro @c0c<|And.intro @a9p<|And.intro @b8L<|And.intro @d2g<|And.intro @b8e<|And.intro @e1A<|And.intro @c2e<|And.intro @b8E<|And.intro @b7R<|And.intro @e2n<|And.intro @e4K<|And.intro @d7<|And.intro @Q0<|And.intro @b9Y<|And.intro @d1i<|And.intro @P4<|And.intro @a1l<|And.intro @b8V<|And.intro @a2r<|And.intro @b8K<|And.intro @c0b<|And.intro @d7f<|And.intro @b76<|And.intro @l9<|And.intro @u7<|And.intro @A4<|And.intro @A1<|And.intro @f0p<|And.intro @f0s<|And.intro @b3E<|And.intro @List.length_cons.{0}<|And.intro @List.length_nil.{0}<|And.intro @Nat.zero_add<|And.intro @Nat.add_zero<|And.intro @decide_true<|And.intro @decide_false<|And.intro @Bool.true_and<| @Bool.and_true
theorem wC:type_of% (And.intro @Bool.and_self<|And.intro @Bool.false_and<|And.intro @Bool.and_false<|And.intro @Bool.or_false<|And.intro @Bool.false_or<|And.intro @Bool.or_true<|And.intro @Bool.true_or<|And.intro @Bool.not_true<|And.intro @Bool.not_false<|And.intro @List.take_succ_cons.{0}<|And.intro @List.take_zero.{0}<|And.intro @List.drop_succ_cons.{0}<|And.intro @List.drop_zero.{0}<|And.intro @List.drop_nil.{0}<|And.intro @List.take_nil.{0}<|And.intro @List.nil_append.{0}<|And.intro @List.cons_append.{0}<|And.intro @List.append_nil.{0}<|And.intro @a6u<|And.intro @b3s<|And.intro @e2m<|And.intro @c5Q<|And.intro @c0d<|And.intro @a91<|And.intro @c4m<|And.intro @c0o<|And.intro @c9Z<|And.intro @d8R<|And.intro @f0d<|And.intro @b9v<|And.intro @b9w<|And.intro @b8B<|And.intro @a5R<|And.intro @d4k<|And.intro @f0S<|And.intro @e1a<|And.intro @c6I<|And.intro @c0C<|And.intro @c0n<|And.intro @b9S<|And.intro @b8G<|And.intro @c0a<|And.intro @d2h<|And.intro @c1f<|And.intro @b9J<|And.intro @b9T<|And.intro @b86<|And.intro @d7E<|And.intro @c47<|And.intro @b3a<|And.intro @b93<|And.intro @d5k<|And.intro @c82<|And.intro @b9C<|And.intro @c3f<| @d93):=And.intro @Bool.and_self<|And.intro @Bool.false_and<|And.intro @Bool.and_false<|And.intro @Bool.or_false<|And.intro @Bool.false_or<|And.intro @Bool.or_true<|And.intro @Bool.true_or<|And.intro @Bool.not_true<|And.intro @Bool.not_false<|And.intro @List.take_succ_cons.{0}<|And.intro @List.take_zero.{0}<|And.intro @List.drop_succ_cons.{0}<|And.intro @List.drop_zero.{0}<|And.intro @List.drop_nil.{0}<|And.intro @List.take_nil.{0}<|And.intro @List.nil_append.{0}<|And.intro @List.cons_append.{0}<|And.intro @List.append_nil.{0}<|And.intro @a6u<|And.intro @b3s<|And.intro @e2m<|And.intro @c5Q<|And.intro @c0d<|And.intro @a91<|And.intro @c4m<|And.intro @c0o<|And.intro @c9Z<|And.intro @d8R<|And.intro @f0d<|And.intro @b9v<|And.intro @b9w<|And.intro @b8B<|And.intro @a5R<|And.intro @d4k<|And.intro @f0S<|And.intro @e1a<|And.intro @c6I<|And.intro @c0C<|And.intro @c0n<|And.intro @b9S<|And.intro @b8G<|And.intro @c0a<|And.intro @d2h<|And.intro @c1f<|And.intro @b9J<|And.intro @b9T<|And.intro @b86<|And.intro @d7E<|And.intro @c47<|And.intro @b3a<|And.intro @b93<|And.intro @d5k<|And.intro @c82<|And.intro @b9C<|And.intro @c3f<| @d93
theorem wD:type_of% (And.intro @d2e<|And.intro @a5K<|And.intro @d8y<|And.intro @b82<|And.intro @a5X<|And.intro @c1U<|And.intro @d2R<|And.intro @c2u<|And.intro @c0e<|And.intro @b9e<|And.intro @a6m<|And.intro @c1H<|And.intro @c6n<|And.intro @c93<|And.intro @c0k<|And.intro @a6s<|And.intro @c8U<|And.intro @d1D<|And.intro @c8O<|And.intro @a2O<|And.intro @d0I<|And.intro @c6i<|And.intro @a5z<|And.intro @b9d<|And.intro @e1J<|And.intro @c5W<|And.intro @b84<|And.intro @d8B<|And.intro @d11<|And.intro @d0u<|And.intro @c3R<|And.intro @b8I<|And.intro @List.all_cons.{0}<|And.intro @List.all_nil.{0}<|And.intro @b9a<|And.intro @c4C<|And.intro @f07<|And.intro @f0q<|And.intro @d6j<|And.intro @f2w<|And.intro @d74<|And.intro @d04<|And.intro @b91<|And.intro @b3V<|And.intro @b9g<|And.intro @b8h<|And.intro @b9I<|And.intro @nc0<|And.intro @ilt<|And.intro @ile<|And.intro @Option.some.injEq.{0}<|And.intro @true_and<|And.intro @and_true<| @and_self):=And.intro @d2e<|And.intro @a5K<|And.intro @d8y<|And.intro @b82<|And.intro @a5X<|And.intro @c1U<|And.intro @d2R<|And.intro @c2u<|And.intro @c0e<|And.intro @b9e<|And.intro @a6m<|And.intro @c1H<|And.intro @c6n<|And.intro @c93<|And.intro @c0k<|And.intro @a6s<|And.intro @c8U<|And.intro @d1D<|And.intro @c8O<|And.intro @a2O<|And.intro @d0I<|And.intro @c6i<|And.intro @a5z<|And.intro @b9d<|And.intro @e1J<|And.intro @c5W<|And.intro @b84<|And.intro @d8B<|And.intro @d11<|And.intro @d0u<|And.intro @c3R<|And.intro @b8I<|And.intro @List.all_cons.{0}<|And.intro @List.all_nil.{0}<|And.intro @b9a<|And.intro @c4C<|And.intro @f07<|And.intro @f0q<|And.intro @d6j<|And.intro @f2w<|And.intro @d74<|And.intro @d04<|And.intro @b91<|And.intro @b3V<|And.intro @b9g<|And.intro @b8h<|And.intro @b9I<|And.intro @nc0<|And.intro @ilt<|And.intro @ile<|And.intro @Option.some.injEq.{0}<|And.intro @true_and<|And.intro @and_true<| @and_self
noncomputable section
abbrev f0e:FuncId:=5
abbrev b7w:FuncId:=6
abbrev b7r:FuncId:=7
abbrev a8T:FuncId:=8
abbrev a0f:FuncId:=9
abbrev a6P:FuncId:=10
abbrev a16:FuncId:=12
abbrev R1:FuncId:=13
abbrev a0j:FuncId:=14
abbrev a7g:FuncId:=15
abbrev a7o:FuncId:=16
abbrev a3V:FuncId:=27
abbrev a06:FuncId:=28
abbrev a4B:FuncId:=29
abbrev a6W:FuncId:=30
abbrev u9:FuncId:=31
abbrev b3Z:FuncId:=32
abbrev a3J:FuncId:=33
abbrev L7:FuncId:=38
abbrev a7k:FuncId:=39
abbrev a7s:FuncId:=40
abbrev a67:FuncId:=41
abbrev a6Q:FuncId:=42
abbrev a00:FuncId:=55
abbrev a4u:FuncId:=56
abbrev a7n:FuncId:=57
abbrev a3B:FuncId:=58
abbrev a8K:FuncId:=59
abbrev b3F:FuncId:=60
abbrev b3c:FuncId:=61
abbrev V4:FuncId:=62
abbrev a6N:FuncId:=63
abbrev g5u:FuncId:=64
abbrev a0V:FuncId:=65
abbrev a7j:FuncId:=66
abbrev a6T:FuncId:=70
abbrev a1Y:FuncId:=71
abbrev a6U:FuncId:=72
abbrev a4t:FuncId:=73
abbrev W8:FuncId:=74
abbrev a66:FuncId:=75
abbrev a65:FuncId:=76
abbrev O6:FuncId:=77
abbrev a0m:FuncId:=78
abbrev a3L:FuncId:=79
abbrev b3C:FuncId:=80
abbrev a2a:FuncId:=84
abbrev a0o:FuncId:=85
abbrev a7r:FuncId:=87
abbrev a0n:FuncId:=92
abbrev a0c:FuncId:=100
abbrev a0h:FuncId:=101
abbrev a0d:FuncId:=102
abbrev b3H:FuncId:=103
abbrev a0g:FuncId:=104
abbrev b3M:FuncId:=105
abbrev a7q:FuncId:=106
abbrev a09:FuncId:=107
abbrev a3U:FuncId:=108
abbrev a17:FuncId:=109
abbrev b3f:FuncId:=110
abbrev b3z:FuncId:=111
abbrev O7:FuncId:=112
abbrev J7:FuncId:=113
abbrev a4w:FuncId:=114
abbrev a6M:FuncId:=126
abbrev b3W:FuncId:=127
abbrev a7t:FuncId:=128
abbrev b3U:FuncId:=129
abbrev R0:FuncId:=130
abbrev a3I:FuncId:=131
abbrev b3J:FuncId:=132
abbrev a7c:FuncId:=133
abbrev a1Z:FuncId:=134
abbrev a6O:FuncId:=143
abbrev b3D:FuncId:=144
abbrev a6X:FuncId:=145
abbrev b3B:FuncId:=146
abbrev b3i:FuncId:=147
abbrev b3G:FuncId:=148
abbrev a6R:FuncId:=149
abbrev a6V:FuncId:=150
abbrev b3T:FuncId:=151
abbrev a7u:FuncId:=158
abbrev a0k:FuncId:=159
abbrev b3g:FuncId:=160
abbrev a6Z:FuncId:=161
abbrev a6Y:FuncId:=162
abbrev f7M:FuncId:=163
abbrev a6S:FuncId:=168
abbrev a3P:FuncId:=169
abbrev b3d:FuncId:=170
abbrev b3h:FuncId:=171
abbrev b3p:FuncId:=172
abbrev f36:FuncId:=173
abbrev f3Z:FuncId:=174
abbrev f3Y:FuncId:=175
abbrev f3X:FuncId:=176
abbrev f3W:FuncId:=177
abbrev a1W:FuncId:=178
abbrev a1R:FuncId:=179
abbrev b3r:FuncId:=181
abbrev a3z:FuncId:=182
abbrev Z9:FuncId:=183
abbrev a0i:FuncId:=184
abbrev b3R:FuncId:=185
abbrev b3l:FuncId:=186
abbrev b3x:FuncId:=187
abbrev a3K:FuncId:=191
abbrev b3O:FuncId:=196
abbrev a7b:FuncId:=197
abbrev b3P:FuncId:=198
abbrev a9i:FuncId:=199
abbrev b3N:FuncId:=200
abbrev a7l:FuncId:=203
abbrev b4q:FuncId:=204
abbrev f3V:FuncId:=205
abbrev f3T:FuncId:=206
abbrev b3Q:FuncId:=210
abbrev b3K:FuncId:=211
abbrev b3L:FuncId:=212
abbrev a4L:FuncId:=214
abbrev b4p:FuncId:=217
abbrev b3v:FuncId:=221
abbrev d5:TypeId:=3
abbrev c9a:TypeId:=4
abbrev l3:TypeId:=5
abbrev A9:TypeId:=9
abbrev a0C:TypeId:=21
abbrev v7:TypeId:=24
abbrev a77:TypeId:=26
abbrev G3:TypeId:=27
abbrev G4:TypeId:=28
abbrev j8:TypeId:=31
abbrev C7:TypeId:=33
abbrev x7:TypeId:=38
abbrev g0L:TypeId:=40
abbrev A3:TypeId:=46
abbrev a4J:TypeId:=53
abbrev b7K:TypeId:=64
abbrev a7Y:TypeId:=72
abbrev a0v:TypeId:=82
abbrev P1:TypeId:=87
abbrev a2n:TypeId:=90
abbrev a4d:TypeId:=118
abbrev b6G:TypeId:=128
abbrev R8:TypeId:=133
abbrev W9:TypeId:=156
abbrev f5g:TypeId:=157
abbrev f3U:TypeId:=158
abbrev D6:TypeId:=161
abbrev P8:TypeId:=162
abbrev a5n:TypeId:=168
abbrev J2:TypeId:=178
abbrev a1e:TypeId:=185
abbrev M6:TypeId:=209
abbrev b8T:TypeId:=246
abbrev f4a:TypeId:=273
abbrev a8Q:TypeId:=286
theorem aD(a b:Int)(h1: -9223372036854775808≤a+b:=by omega)(h2:a+b≤9223372036854775807:=by omega):d8 Tryz.prog .add d5 (iv a) (iv b)=some (iv (a+b)):=f0b d5 h1 h2
theorem sB(a b:Int)(h1: -9223372036854775808≤a-b:=by omega)(h2:a-b≤9223372036854775807:=by omega):d8 Tryz.prog .sub d5 (iv a) (iv b)=some (iv (a-b)):=f0X d5 h1 h2
def e0O:List CO:= [
  O 2 (.mv (.cst (.b false)))]
def e23:List CO:= [
  C 17 b7w [],
 O 18 (.un .not (tm 17))]
def g2y:List CO:= [
  O 2 (.mv (.cst (.b false)))]
def e94:List CO:= [
  C 19 b7r [],
 O 3 (.alloc v7 12 [(iv 0),(iv 0),(iv 0),(iv 0),(iv 0),(iv 0),(iv 0),(iv 0),(iv 0),(iv 0),(iv 0),(iv 0)]),
 .op none none (.store 12 (tm 3) (tm 19))]
def d4w:List CO:= [
  O 21 (.loadN 12 (tm 3)),
 C 22 a8T [(tm 21)],
 mV 20 22,
 eX 23 0 20,
 eX 24 1 20,
 eX 25 2 20,
 mV 4 23,
 mV 5 24,
 mV 6 25]
def d6L:List CO:= [
  O 7 (.mv (.cst j7))]
def e6b:List CO:= [
  O 8 (.mv (.cst j7))]
def e4A:List CO:= [
  O 9 (.mv (.cst (iv 0)))]
def a6b:List CO:= [
  mV 26 9,
 mV 27 0,
 O 28 (.len false (tm 27)),
 O 29 (.lt (B .lss d5) (tm 26) (tm 28)),
 mV 30 29,
 G 31 30 true (.mv (tm 9)),
 G 32 30 true (.lt (B .lss d5) (tm 31) (.cst (iv 30))),
 O 33 (.pick (tm 30) (tm 32) (.cst (.b false)))]
def a0D:List CO:= [
  mV 36 0,
 mV 37 9,
 O 38 (.iaS 4 (tm 36) (tm 37)),
 O 39 (.loadN 4 (tm 38)),
 O 10 (.alloc a4J 4 [(iv 0),(iv 0),(iv 0),(tv [])]),
 .op none none (.store 4 (tm 10) (tm 39))]
def a1x:List CO:= [
  fA 40 3 10,
 lD 41 40,
 O 42 (.len true (tm 41)),
 O 43 (.eq (B .eql d5) (tm 42) (.cst (iv 0))),
 mV 44 43,
 G 45 44 false (.fa 3 (tm 10)),
 G 46 44 false (.load (tm 45)),
 G 47 44 false (.len true (tm 46)),
 G 48 44 false (.gt (B .gtr d5) (tm 47) (.cst (iv 13))),
 O 49 (.pick (tm 44) (.cst (.b true)) (tm 48)),
 mV 50 49,
 G 51 50 false (.fa 2 (tm 10)),
 G 52 50 false (.load (tm 51)),
 G 53 50 false (.lt (B .lss d5) (tm 52) (.cst (iv 1))),
 O 54 (.pick (tm 50) (.cst (.b true)) (tm 53)),
 mV 55 54,
 G 56 55 false (.fa 2 (tm 10)),
 G 57 55 false (.load (tm 56)),
 G 58 55 false (.gt (B .gtr d5) (tm 57) (.cst (iv 65535))),
 O 59 (.pick (tm 55) (.cst (.b true)) (tm 58))]
def b0y:List CO:= [
  O 11 (.mv (.cst (.b true)))]
def c0x:List CO:= [
  O 12 (.mv (.cst (iv 0)))]
def a1r:List CO:= [
  mV 60 12,
 fA 61 3 10,
 lD 62 61,
 O 63 (.len true (tm 62)),
 O 64 (.lt (B .lss d5) (tm 60) (tm 63))]
def a5v:List CO:= [
  mV 67 11,
 mV 68 67,
 G 69 68 true (.fa 3 (tm 10)),
 G 70 68 true (.load (tm 69)),
 G 71 68 true (.mv (tm 12)),
 G 72 68 true (.ixS (tm 70) (tm 71)),
 G 73 68 true (.ge (B .geq l3) (tm 72) (.cst (.y 97))),
 O 74 (.pick (tm 68) (tm 73) (.cst (.b false))),
 mV 75 74,
 G 76 75 true (.fa 3 (tm 10)),
 G 77 75 true (.load (tm 76)),
 G 78 75 true (.mv (tm 12)),
 G 79 75 true (.ixS (tm 77) (tm 78)),
 G 80 75 true (.le (B .leq l3) (tm 79) (.cst (.y 122))),
 O 81 (.pick (tm 75) (tm 80) (.cst (.b false))),
 mV 11 81]
def a47:List CO:= [
  mV 65 12,
 O 66 (.add (B .add d5) (tm 65) (.cst (iv 1))),
 mV 12 66]
def b0p:List CO:= [
  mV 82 11,
 O 83 (.un .not (tm 82))]
def b0U:List CO:= [
  O 13 (.mv (.cst (iv (-1))))]
def c61:List CO:= [
  O 14 (.mv (.cst (iv 0)))]
def a5E:List CO:= [
  mV 84 14,
 mV 85 7,
 O 86 (.len false (tm 85)),
 O 87 (.lt (B .lss d5) (tm 84) (tm 86))]
def b0V:List CO:= [
  mV 90 7,
 mV 91 14,
 O 92 (.iaS 1 (tm 90) (tm 91)),
 lD 93 92,
 fA 94 3 10,
 lD 95 94,
 O 96 (.eq (B .eql A9) (tm 93) (tm 95))]
def c8C:List CO:= [
  mV 97 14,
 mV 13 97]
def b01:List CO:= [
  mV 88 14,
 O 89 (.add (B .add d5) (tm 88) (.cst (iv 1))),
 mV 14 89]
def b0o:List CO:= [
  O 15 (.mv (.cst (iv 0))),
 O 16 (.mv (.cst (iv 0)))]
def Y3:List CO:= [
  fA 98 0 10,
 lD 99 98]
def X8:List CO:= [
  O 101 (.eq (B .eql d5) (tm 99) (.cst (iv 2))),
 mV 100 101]
def b0x:List CO:= [
  mV 102 6,
 mV 103 5,
 O 104 (.loadN 12 (tm 3)),
 fA 105 3 10,
 lD 106 105,
 fA 107 2 10,
 lD 108 107,
 C 109 a0f [(tm 102),(tm 103),(tm 104),(.cst (iv 3)),(tm 106),(tm 108)],
 mV 15 109]
def b02:List CO:= [
  mV 110 13,
 O 111 (.ge (B .geq d5) (tm 110) (.cst (iv 0)))]
def c1i:List CO:= [
  O 16 (.mv (.cst (iv 12)))]
def c2U:List CO:= [
  mV 112 7,
 fA 113 3 10,
 lD 114 113,
 O 115 (.bslice A9 1 1 [(tv [])] [(0,1,(tm 114))]),
 O 116 (.app A9 1 16 [(tv [])] (tm 112) (tm 115)),
 mV 7 116]
def c7C:List CO:= [
  mV 117 8,
 fA 118 2 10,
 lD 119 118,
 O 120 (.bslice d5 1 1 [(iv 0)] [(0,1,(tm 119))]),
 O 121 (.app d5 1 8 [(iv 0)] (tm 117) (tm 120)),
 mV 8 121]
def a1q:List CO:= [
  O 123 (.eq (B .eql d5) (tm 99) (.cst (iv 3))),
 mV 122 123]
def b0e:List CO:= [
  mV 124 6,
 mV 125 5,
 O 126 (.loadN 12 (tm 3)),
 fA 127 3 10,
 lD 128 127,
 fA 129 2 10,
 lD 130 129,
 C 131 a0j [(tm 124),(tm 125),(tm 126),(.cst (iv 3)),(tm 128),(tm 130)],
 mV 15 131]
def b0Q:List CO:= [
  mV 132 13,
 O 133 (.lt (B .lss d5) (tm 132) (.cst (iv 0)))]
def d0n:List CO:= [
  O 16 (.mv (.cst (iv 11)))]
def c3K:List CO:= [
  mV 134 8,
 mV 135 13,
 fA 136 2 10,
 lD 137 136,
 O 138 (.iaS 1 (tm 134) (tm 135)),
 .op none none (.store 1 (tm 138) (tm 137))]
def a4Z:List CO:= [
  O 140 (.eq (B .eql d5) (tm 99) (.cst (iv 4))),
 mV 139 140]
def b1b:List CO:= [
  mV 141 6,
 mV 142 5,
 O 143 (.loadN 12 (tm 3)),
 fA 144 3 10,
 lD 145 144,
 C 146 a16 [(tm 141),(tm 142),(tm 143),(.cst (iv 3)),(tm 145)],
 mV 15 146]
def b0T:List CO:= [
  mV 147 13,
 O 148 (.lt (B .lss d5) (tm 147) (.cst (iv 0)))]
def c51:List CO:= [
  O 16 (.mv (.cst (iv 11)))]
def c1Y:List CO:= [
  O 149 (.bslice A9 0 0 [(tv [])] []),
 mV 150 7,
 mV 151 13,
 O 152 (.sl 1 false (tm 150) none (some (tm 151)) none),
 O 153 (.app A9 1 16 [(tv [])] (tm 149) (tm 152)),
 mV 154 7,
 mV 155 13,
 O 156 (.add (B .add d5) (tm 155) (.cst (iv 1))),
 O 157 (.sl 1 false (tm 154) (some (tm 156)) none none),
 O 158 (.app A9 1 16 [(tv [])] (tm 153) (tm 157)),
 mV 7 158]
def d1V:List CO:= [
  O 159 (.bslice d5 0 0 [(iv 0)] []),
 mV 160 8,
 mV 161 13,
 O 162 (.sl 1 false (tm 160) none (some (tm 161)) none),
 O 163 (.app d5 1 8 [(iv 0)] (tm 159) (tm 162)),
 mV 164 8,
 mV 165 13,
 O 166 (.add (B .add d5) (tm 165) (.cst (iv 1))),
 O 167 (.sl 1 false (tm 164) (some (tm 166)) none none),
 O 168 (.app d5 1 8 [(iv 0)] (tm 163) (tm 167)),
 mV 8 168]
def c9S:List CO:= [
  mV 169 15,
 mV 170 16,
 O 171 (.ne (B .neq j8) (tm 169) (tm 170)),
 mV 172 171,
 G 173 172 false (.mv (tm 6)),
 G 174 172 false (.mv (tm 5)),
 G 175 172 false (.loadN 12 (tm 3)),
 G 176 172 false (.mv (tm 7)),
 G 177 172 false (.mv (tm 8)),
 .call (some (pth 178)) (some (pth 172,false)) (.cst (.func a7g [])) [(tm 173),(tm 174),(tm 175),(tm 176),(tm 177)],
 G 179 172 false (.un .not (tm 178)),
 O 180 (.pick (tm 172) (.cst (.b true)) (tm 179))]
def g0W:List CO:= [
  O 2 (.mv (.cst (.b false)))]
def b1m:List CO:= [
  mV 34 9,
 O 35 (.add (B .add d5) (tm 34) (.cst (iv 1))),
 mV 9 35]
def b0C:List CO:= [
  O 2 (.mv (.cst (.b true)))]
def b1S:List CO:= [
  O 8 (.box v7 (tm 2)),
 O 12 (.mv (.cst (iv 0)))]
def b2m:List CO:= [
  mV 13 0,
 mV 14 1,
 O 15 (.loadN 12 (tm 8)),
 mV 16 3,
 mV 17 4,
 mV 18 5,
 C 19 a06 [(tm 13),(tm 14),(tm 15),(tm 16),(tm 17),(tm 18),(.cst (.b true))],
 mV 12 19]
def d5K:List CO:= [
  O 6 (.box v7 (tm 2)),
 O 8 (.mv (.cst j7)),
 O 9 (.mv (.cst (iv 0)))]
def e61:List CO:= [
  mV 13 0,
 mV 14 1,
 O 15 (.loadN 12 (tm 6)),
 mV 16 3,
 C 17 a4B [(tm 13),(tm 14),(tm 15),(tm 16)],
 mV 12 17,
 eX 18 0 12,
 eX 19 1 12,
 mV 10 18,
 mV 11 19]
def e8l:List CO:= [
  mV 20 11,
 O 21 (.ne (B .neq j8) (tm 20) (.cst (iv 0)))]
def g2x:List CO:= [
  mV 22 11,
 O 8 (.mv (.cst j7)),
 mV 9 22]
def e4o:List CO:= [
  mV 23 10,
 nL 24 23,
 fA 25 15 24,
 lD 26 25,
 C 27 a6W [(tm 26),(.cst (.func u9 []))]]
def d54:List CO:= [
  mV 28 10,
 nL 29 28,
 fA 30 15 29,
 lD 31 30,
 mV 8 31,
 O 9 (.mv (.cst (iv 0)))]
def b2X:List CO:= [
  O 7 (.box v7 (tm 2)),
 O 10 (.mv (.cst (iv 0)))]
def b2v:List CO:= [
  mV 17 0,
 mV 18 1,
 O 19 (.loadN 12 (tm 7)),
 mV 20 3,
 mV 21 4,
 C 22 L7 [(tm 17),(tm 18),(tm 19),(tm 20),(tm 21)],
 mV 16 22,
 eX 23 0 16,
 eX 24 1 16,
 eX 25 2 16,
 mV 11 23,
 mV 12 24,
 mV 13 25]
def b16:List CO:= [
  mV 27 13,
 O 28 (.ne (B .neq j8) (tm 27) (.cst (iv 0))),
 mV 26 28]
def g3e:List CO:= [
  mV 29 13,
 mV 10 29]
def b2u:List CO:= [
  mV 31 12,
 O 32 (.lt (B .lss d5) (tm 31) (.cst (iv 0))),
 mV 30 32]
def e9H:List CO:= [
  O 10 (.mv (.cst (iv 11)))]
def d7z:List CO:= [
  mV 33 11,
 nL 34 33,
 fA 35 15 34,
 lD 36 35,
 O 37 (.len false (tm 36)),
 O 38 (.sub (B .sub d5) (tm 37) (.cst (iv 1))),
 mV 14 38]
def e7i:List CO:= [
  mV 39 11,
 mV 40 12,
 mV 41 11,
 nL 42 41,
 fA 43 15 42,
 lD 44 43,
 mV 45 14,
 O 46 (.iaS 2 (tm 44) (tm 45)),
 O 47 (.loadN 2 (tm 46)),
 C 48 a7k [(tm 39),(tm 40),(tm 47)],
 mV 15 48]
def d6J:List CO:= [
  mV 49 15,
 O 50 (.ne (B .neq j8) (tm 49) (.cst (iv 0)))]
def g2j:List CO:= [
  mV 51 15,
 mV 10 51]
def c80:List CO:= [
  mV 52 0,
 mV 53 1,
 O 54 (.loadN 12 (tm 7)),
 mV 55 3,
 mV 56 14,
 O 57 (.mul (B .mul d5) (tm 56) (.cst (iv 16))),
 C 58 a7s [(tm 52),(tm 53),(tm 54),(tm 55),(tm 57)],
 mV 10 58]
def d91:List CO:= [
  O 6 (.alloc A3 13 [(iv 0),(iv 0),(iv 0),(iv 0),(iv 0),(iv 0),(iv 0),(iv 0),(iv 0),(iv 0),(iv 0),(iv 0),(iv 0)]),
 O 7 (.mv (.cst (iv 0)))]
def e6c:List CO:= [
  mV 13 0,
 O 14 (.eqp false (B .eql G3) (tm 13) (.cst s9))]
def g4E:List CO:= [
  O 15 (.build [(iv 0),(iv 0),(iv 0),(iv 0),(iv 0),(iv 0),(iv 0),(iv 0),(iv 0),(iv 0),(iv 0),(iv 0),(iv 0)] []),
 .op none none (.store 13 (tm 6) (tm 15)),
 O 7 (.mv (.cst (iv 1)))]
def e9A:List CO:= [
  mV 17 0,
 mV 18 1,
 mV 19 2,
 C 20 a67 [(tm 17),(tm 18),(tm 19)],
 mV 16 20,
 eX 21 0 16,
 eX 22 1 16,
 eX 23 2 16,
 eX 24 3 16,
 mV 8 21,
 mV 9 22,
 mV 10 23,
 mV 11 24]
def d6g:List CO:= [
  mV 25 11,
 O 26 (.ne (B .neq j8) (tm 25) (.cst (iv 0)))]
def g2h:List CO:= [
  O 27 (.build [(iv 0),(iv 0),(iv 0),(iv 0),(iv 0),(iv 0),(iv 0),(iv 0),(iv 0),(iv 0),(iv 0),(iv 0),(iv 0)] []),
 mV 28 11,
 .op none none (.store 13 (tm 6) (tm 27)),
 mV 7 28]
def d7r:List CO:= [
  mV 30 10,
 mV 31 9,
 mV 32 9,
 O 33 (.add (B .add d5) (tm 32) (.cst (iv 32))),
 O 34 (.sl 1 false (tm 30) (some (tm 31)) (some (tm 33)) none),
 C 35 a6Q [(tm 34)],
 mV 29 35,
 eX 36 0 29,
 eX 37 1 29,
 O 12 (.alloc A3 13 [(iv 0),(iv 0),(iv 0),(iv 0),(iv 0),(iv 0),(iv 0),(iv 0),(iv 0),(iv 0),(iv 0),(iv 0),(iv 0)]),
 .op none none (.store 13 (tm 12) (tm 36)),
 mV 11 37]
def e8s:List CO:= [
  mV 38 11,
 O 39 (.ne (B .neq j8) (tm 38) (.cst (iv 0)))]
def g3O:List CO:= [
  O 40 (.build [(iv 0),(iv 0),(iv 0),(iv 0),(iv 0),(iv 0),(iv 0),(iv 0),(iv 0),(iv 0),(iv 0),(iv 0),(iv 0)] []),
 .op none none (.store 13 (tm 6) (tm 40)),
 O 7 (.mv (.cst (iv 9)))]
def e7w:List CO:= [
  O 41 (.loadN 13 (tm 12)),
 .op none none (.store 13 (tm 6) (tm 41)),
 O 7 (.mv (.cst (iv 0)))]
def b2i:List CO:= [
  O 8 (.box v7 (tm 2)),
 O 12 (.mv (.cst (iv 0)))]
def b1F:List CO:= [
  mV 13 0,
 mV 14 1,
 O 15 (.loadN 12 (tm 8)),
 mV 16 3,
 mV 17 4,
 mV 18 5,
 C 19 a06 [(tm 13),(tm 14),(tm 15),(tm 16),(tm 17),(tm 18),(.cst (.b false))],
 mV 12 19]
def d3h:List CO:= [
  O 7 (.box v7 (tm 2)),
 O 10 (.mv (.cst (.b false)))]
def d8l:List CO:= [
  mV 20 0,
 mV 21 1,
 O 22 (.loadN 12 (tm 7)),
 C 23 a6P [(tm 20),(tm 21),(tm 22),(.cst (iv 3))],
 mV 19 23,
 eX 24 0 19,
 eX 25 1 19,
 mV 11 24,
 mV 12 25]
def d5p:List CO:= [
  mV 27 1,
 mV 28 0,
 C 29 R1 [(tm 27),(tm 28),(.cst (iv 3))],
 mV 26 29,
 eX 30 0 26,
 eX 31 1 26,
 O 13 (.alloc A3 13 [(iv 0),(iv 0),(iv 0),(iv 0),(iv 0),(iv 0),(iv 0),(iv 0),(iv 0),(iv 0),(iv 0),(iv 0),(iv 0)]),
 .op none none (.store 13 (tm 13) (tm 30)),
 mV 14 31]
def d4A:List CO:= [
  mV 32 12,
 O 33 (.ne (B .neq j8) (tm 32) (.cst (iv 0))),
 mV 34 33,
 G 35 34 false (.mv (tm 14)),
 G 36 34 false (.ne (B .neq j8) (tm 35) (.cst (iv 0))),
 O 37 (.pick (tm 34) (.cst (.b true)) (tm 36)),
 mV 38 37,
 G 39 38 false (.mv (tm 11)),
 G 40 38 false (.len false (tm 39)),
 G 41 38 false (.mv (tm 3)),
 G 42 38 false (.len false (tm 41)),
 G 43 38 false (.ne (B .neq d5) (tm 40) (tm 42)),
 O 44 (.pick (tm 38) (.cst (.b true)) (tm 43)),
 mV 45 44,
 G 46 45 false (.fa 2 (tm 13)),
 G 47 45 false (.load (tm 46)),
 G 48 45 false (.mv (tm 3)),
 G 49 45 false (.len false (tm 48)),
 G 50 45 false (.mul (B .mul d5) (.cst (iv 16)) (tm 49)),
 G 51 45 false (.ne (B .neq d5) (tm 47) (tm 50)),
 O 52 (.pick (tm 45) (.cst (.b true)) (tm 51))]
def g2J:List CO:= [
  O 10 (.mv (.cst (.b false)))]
def d56:List CO:= [
  O 15 (.mv (.cst (iv 1)))]
def b1k:List CO:= [
  mV 53 15,
 mV 54 11,
 O 55 (.len false (tm 54)),
 O 56 (.lt (B .lss d5) (tm 53) (tm 55))]
def e5h:List CO:= [
  mV 59 11,
 mV 60 15,
 O 61 (.sub (B .sub d5) (tm 60) (.cst (iv 1))),
 O 62 (.iaS 2 (tm 59) (tm 61)),
 fA 63 1 62,
 lD 64 63,
 mV 65 11,
 mV 66 15,
 O 67 (.iaS 2 (tm 65) (tm 66)),
 fA 68 1 67,
 lD 69 68,
 O 70 (.ge (B .geq A9) (tm 64) (tm 69))]
def g2r:List CO:= [
  O 10 (.mv (.cst (.b false)))]
def d7u:List CO:= [
  mV 57 15,
 O 58 (.add (B .add d5) (tm 57) (.cst (iv 1))),
 mV 15 58]
def c1Q:List CO:= [
  O 16 (.mv (.cst (iv 0)))]
def b0i:List CO:= [
  mV 71 16,
 mV 72 3,
 O 73 (.len false (tm 72)),
 O 74 (.lt (B .lss d5) (tm 71) (tm 73))]
def c8R:List CO:= [
  mV 78 0,
 mV 79 1,
 O 80 (.loadN 12 (tm 7)),
 mV 81 3,
 mV 82 16,
 O 83 (.iaS 1 (tm 81) (tm 82)),
 lD 84 83,
 C 85 a7o [(tm 78),(tm 79),(tm 80),(.cst (iv 3)),(tm 84)],
 mV 77 85,
 eX 86 0 77,
 eX 87 1 77,
 mV 17 86,
 mV 18 87]
def c1w:List CO:= [
  mV 88 18,
 O 89 (.ne (B .neq j8) (tm 88) (.cst (iv 0))),
 mV 90 89,
 G 91 90 false (.mv (tm 17)),
 G 92 90 false (.mv (tm 4)),
 G 93 90 false (.mv (tm 16)),
 G 94 90 false (.iaS 1 (tm 92) (tm 93)),
 G 95 90 false (.load (tm 94)),
 G 96 90 false (.ne (B .neq d5) (tm 91) (tm 95)),
 O 97 (.pick (tm 90) (.cst (.b true)) (tm 96))]
def g1I:List CO:= [
  O 10 (.mv (.cst (.b false)))]
def c5b:List CO:= [
  mV 75 16,
 O 76 (.add (B .add d5) (tm 75) (.cst (iv 1))),
 mV 16 76]
def c4J:List CO:= [
  O 10 (.mv (.cst (.b true)))]
def e2v:List CO:= [
  O 7 (.box v7 (tm 2)),
 O 10 (.mv (.cst (iv 0))),
 O 11 (.mv (.cst (iv 0)))]
def d8c:List CO:= [
  mV 16 0,
 mV 17 1,
 O 18 (.loadN 12 (tm 7)),
 mV 19 3,
 mV 20 4,
 C 21 L7 [(tm 16),(tm 17),(tm 18),(tm 19),(tm 20)],
 mV 15 21,
 eX 22 0 15,
 eX 23 1 15,
 eX 24 2 15,
 mV 12 22,
 mV 13 23,
 mV 14 24]
def e9G:List CO:= [
  mV 26 14,
 O 27 (.ne (B .neq j8) (tm 26) (.cst (iv 0))),
 mV 25 27]
def g3d:List CO:= [
  mV 28 14,
 O 10 (.mv (.cst (iv 0))),
 mV 11 28]
def e2x:List CO:= [
  mV 30 13,
 O 31 (.lt (B .lss d5) (tm 30) (.cst (iv 0))),
 mV 29 31]
def g2U:List CO:= [
  O 10 (.mv (.cst (iv 0))),
 O 11 (.mv (.cst (iv 11)))]
def e0r:List CO:= [
  mV 32 12,
 nL 33 32,
 fA 34 15 33,
 lD 35 34,
 mV 36 13,
 O 37 (.iaS 2 (tm 35) (tm 36)),
 fA 38 0 37,
 lD 39 38,
 mV 10 39,
 O 11 (.mv (.cst (iv 0)))]
def d3t:List CO:= [
  O 7 (.box A3 (tm 3)),
 O 8 (.mv (.cst (iv 0)))]
def e0f:List CO:= [
  mV 17 0,
 O 18 (.eqp false (B .eql G3) (tm 17) (.cst s9))]
def g2m:List CO:= [
  O 8 (.mv (.cst (iv 1)))]
def e32:List CO:= [
  mV 20 0,
 nL 21 20,
 fA 22 1 21,
 O 23 (.loadN 12 (tm 22)),
 mV 24 2,
 C 25 a4u [(tm 23),(tm 24)],
 mV 19 25,
 eX 26 0 19,
 eX 27 1 19,
 eX 28 2 19,
 mV 9 26,
 mV 10 27,
 mV 11 28]
def e1D:List CO:= [
  mV 29 11,
 O 30 (.ne (B .neq j8) (tm 29) (.cst (iv 0)))]
def g2Y:List CO:= [
  mV 31 11,
 mV 8 31]
def e91:List CO:= [
  O 33 (.loadN 13 (tm 7)),
 C 34 a7n [(tm 33)],
 mV 32 34,
 eX 35 0 32,
 eX 36 1 32,
 mV 12 35,
 mV 13 36]
def d9x:List CO:= [
  mV 37 13,
 O 38 (.ne (B .neq j8) (tm 37) (.cst (iv 0)))]
def g23:List CO:= [
  mV 39 13,
 mV 8 39]
def e8a:List CO:= [
  mV 41 0,
 mV 42 1,
 mV 43 2,
 C 44 a67 [(tm 41),(tm 42),(tm 43)],
 mV 40 44,
 eX 45 0 40,
 eX 46 1 40,
 eX 47 2 40,
 eX 48 3 40,
 mV 14 45,
 mV 15 46,
 mV 16 47,
 mV 13 48]
def c0r:List CO:= [
  mV 49 13,
 O 50 (.ne (B .neq j8) (tm 49) (.cst (iv 0)))]
def g0k:List CO:= [
  mV 51 13,
 mV 8 51]
def c01:List CO:= [
  mV 52 16,
 mV 53 15,
 O 54 (.sl 1 false (tm 52) (some (tm 53)) none none),
 mV 55 12,
 O 56 (.copy 1 (tm 54) (tm 55))]
def c4w:List CO:= [
  mV 57 1,
 mV 58 14,
 mV 59 16,
 C 60 a00 [(tm 57),(tm 58),(tm 59)],
 mV 8 60]
def a3u:List CO:= [
  O 9 (.box v7 (tm 2)),
 O 14 (.mv (.cst (iv 0)))]
def a3s:List CO:= [
  mV 19 4,
 C 20 a3B [(tm 19)],
 mV 15 20]
def a3n:List CO:= [
  mV 21 15,
 O 22 (.ne (B .neq j8) (tm 21) (.cst (iv 0)))]
def g3f:List CO:= [
  mV 23 15,
 mV 14 23]
def a3q:List CO:= [
  mV 24 5,
 O 25 (.lt (B .lss d5) (tm 24) (.cst (iv 1))),
 mV 26 25,
 G 27 26 false (.mv (tm 5)),
 G 28 26 false (.gt (B .gtr d5) (tm 27) (.cst (iv 65535))),
 O 29 (.pick (tm 26) (.cst (.b true)) (tm 28))]
def g2L:List CO:= [
  O 14 (.mv (.cst (iv 3)))]
def a3h:List CO:= [
  mV 31 0,
 mV 32 1,
 O 33 (.loadN 12 (tm 9)),
 mV 34 3,
 mV 35 4,
 C 36 L7 [(tm 31),(tm 32),(tm 33),(tm 34),(tm 35)],
 mV 30 36,
 eX 37 0 30,
 eX 38 1 30,
 eX 39 2 30,
 mV 16 37,
 mV 17 38,
 mV 18 39]
def a3b:List CO:= [
  mV 41 18,
 O 42 (.ne (B .neq j8) (tm 41) (.cst (iv 0))),
 mV 40 42]
def g3Y:List CO:= [
  mV 43 18,
 mV 14 43]
def a3i:List CO:= [
  mV 45 6,
 mV 46 45,
 G 47 46 true (.mv (tm 17)),
 G 48 46 true (.ge (B .geq d5) (tm 47) (.cst (iv 0))),
 O 49 (.pick (tm 46) (tm 48) (.cst (.b false))),
 mV 44 49]
def c8E:List CO:= [
  O 14 (.mv (.cst (iv 12)))]
def a5B:List CO:= [
  mV 51 6,
 mV 50 51]
def c9o:List CO:= [
  mV 52 16,
 nL 53 52,
 fA 54 15 53,
 lD 55 54,
 O 56 (.len false (tm 55)),
 mV 17 56]
def b0P:List CO:= [
  mV 58 17,
 O 59 (.lt (B .lss d5) (tm 58) (.cst (iv 0))),
 mV 57 59]
def c9A:List CO:= [
  O 14 (.mv (.cst (iv 11)))]
def a9Y:List CO:= [
  mV 60 16,
 mV 61 17,
 mV 62 5,
 mV 63 4,
 O 64 (.build [(iv 0),(tv [])] [(0,1,(tm 62)),(1,1,(tm 63))]),
 C 65 a7k [(tm 60),(tm 61),(tm 64)],
 mV 14 65]
def a8N:List CO:= [
  O 6 (.box v7 (tm 2)),
 O 8 (.alloc a0v 1 [s9]),
 O 9 (.alloc j8 1 [(iv 0)])]
def a8L:List CO:= [
  mV 20 1,
 mV 21 0,
 mV 22 3,
 C 23 R1 [(tm 20),(tm 21),(tm 22)],
 mV 19 23,
 eX 24 0 19,
 eX 25 1 19,
 O 10 (.alloc A3 13 [(iv 0),(iv 0),(iv 0),(iv 0),(iv 0),(iv 0),(iv 0),(iv 0),(iv 0),(iv 0),(iv 0),(iv 0),(iv 0)]),
 .op none none (.store 13 (tm 10) (tm 24)),
 mV 11 25]
def a8R:List CO:= [
  mV 27 11,
 O 28 (.ne (B .neq j8) (tm 27) (.cst (iv 0))),
 mV 26 28]
def b7x:List CO:= [
  mV 29 11,
 .op none none (.store 1 (tm 8) (.cst s9)),
 .op none none (.store 1 (tm 9) (tm 29))]
def a8P:List CO:= [
  fA 31 0 10,
 lD 32 31,
 O 33 (.eq (B .eql d5) (tm 32) (.cst (iv 0))),
 mV 30 33]
def b7F:List CO:= [
  .op none none (.store 1 (tm 8) (.cst s9)),
 .op none none (.store 1 (tm 9) (.cst (iv 11)))]
def a8M:List CO:= [
  fA 35 0 10,
 lD 36 35,
 O 37 (.ne (B .neq d5) (tm 36) (.cst (iv 2))),
 mV 34 37]
def b7s:List CO:= [
  .op none none (.store 1 (tm 8) (.cst s9)),
 .op none none (.store 1 (tm 9) (.cst (iv 13)))]
def a8I:List CO:= [
  fA 39 2 10,
 lD 40 39,
 O 41 (.rem (B .rem d5) (tm 40) (.cst (iv 16))),
 O 42 (.ne (B .neq d5) (tm 41) (.cst (iv 0))),
 mV 38 42]
def b7A:List CO:= [
  .op none none (.store 1 (tm 8) (.cst s9)),
 .op none none (.store 1 (tm 9) (.cst (iv 9)))]
def a8p:List CO:= [
  mV 43 0,
 mV 44 1,
 O 45 (.loadN 12 (tm 6)),
 mV 46 3,
 O 47 (.build [s9,s9,(iv 0),(iv 0),(iv 0),(iv 0),(iv 0),(iv 0),(iv 0),(iv 0),(iv 0),(iv 0),(iv 0),(iv 0),(iv 0),j7] [(0,1,(tm 43)),(1,1,(tm 44)),(2,12,(tm 45)),(14,1,(tm 46))]),
 O 48 (.box P1 (tm 47)),
 O 12 (.alloc a0v 1 [s9]),
 .op none none (.store 1 (tm 12) (tm 48))]
def a8D:List CO:= [
  O 13 (.mv (.cst (iv 0)))]
def a4v:List CO:= [
  mV 49 13,
 fA 50 2 10,
 lD 51 50,
 O 52 (.lt (B .lss d5) (tm 49) (tm 51))]
def a8w:List CO:= [
  mV 58 0,
 mV 59 1,
 O 60 (.loadN 12 (tm 6)),
 mV 61 3,
 mV 62 13,
 fA 63 0 6,
 lD 64 63,
 C 65 a8K [(tm 58),(tm 59),(tm 60),(tm 61),(tm 62),(tm 64)],
 mV 57 65,
 eX 66 0 57,
 eX 67 1 57,
 mV 14 66,
 mV 15 67]
def a8A:List CO:= [
  mV 68 15,
 O 69 (.ne (B .neq j8) (tm 68) (.cst (iv 0)))]
def b64:List CO:= [
  mV 70 15,
 .op none none (.store 1 (tm 8) (.cst s9)),
 .op none none (.store 1 (tm 9) (tm 70))]
def a8v:List CO:= [
  mV 71 14,
 C 72 b3F [(tm 71),(.cst (iv 16))]]
def f5x:List CO:= [
  mV 16 73]
def a8t:List CO:= [
  mV 75 16,
 C 76 b3c [(tm 75)],
 mV 74 76,
 eX 77 0 74,
 eX 78 1 74,
 O 17 (.alloc x7 2 [(iv 0),(tv [])]),
 .op none none (.store 2 (tm 17) (tm 77)),
 mV 18 78]
def a8C:List CO:= [
  mV 79 18,
 O 80 (.ne (B .neq j8) (tm 79) (.cst (iv 0))),
 mV 81 80,
 G 82 81 false (.fa 0 (tm 17)),
 G 83 81 false (.load (tm 82)),
 G 84 81 false (.eq (B .eql d5) (tm 83) (.cst (iv 0))),
 O 85 (.pick (tm 81) (.cst (.b true)) (tm 84))]
def b66:List CO:= [
  .op none none (.store 1 (tm 8) (.cst s9)),
 .op none none (.store 1 (tm 9) (.cst (iv 9)))]
def a8x:List CO:= [
  lD 86 12,
 lD 87 12,
 nL 88 87,
 fA 89 15 88,
 lD 90 89,
 O 91 (.loadN 2 (tm 17)),
 O 92 (.bslice x7 1 2 [(iv 0),(tv [])] [(0,2,(tm 91))]),
 O 93 (.app x7 2 24 [(iv 0),(tv [])] (tm 90) (tm 92)),
 nL 94 86,
 fA 95 15 94,
 .op none none (.store 1 (tm 95) (tm 93))]
def a8F:List CO:= [
  mV 53 13,
 fA 54 0 6,
 lD 55 54,
 O 56 (.add (B .add d5) (tm 53) (tm 55)),
 mV 13 56]
def a8u:List CO:= [
  lD 96 12,
 .op none none (.store 1 (tm 8) (tm 96)),
 .op none none (.store 1 (tm 9) (.cst (iv 0)))]
noncomputable def B7:Code:=a6e (Tryz.prog.funcs[29]?)
noncomputable def b7n:CC:=(.reg a8N)
theorem f5H:j9 Tryz.prog ((sL B7))=b7n:=by kernel_rfl
noncomputable def b7h:CC:=(.reg a8L)
theorem f5G:j9 Tryz.prog ((sL (sR B7)))=b7h:=by kernel_rfl
noncomputable def b7b:CC:=(.block 0 (.seq (.reg a8R) (.cond (tm 26) (.seq (.reg b7x) .ret) (.seq (.reg a8P) (.cond (tm 30) (.seq (.reg b7F) .ret) (.seq (.reg a8M) (.cond (tm 34) (.seq (.reg b7s) .ret) (.seq (.reg a8I) (.cond (tm 38) (.seq (.reg b7A) .ret) .skip)))))))))
theorem f5J:j9 Tryz.prog ((sL (sR (sR B7))))=b7b:=by kernel_rfl
noncomputable def b7m:CC:=(.reg a8p)
theorem f5L:j9 Tryz.prog ((sL (sR (sR (sR B7)))))=b7m:=by kernel_rfl
noncomputable def b63:CC:=(.reg a8D)
theorem f5I:j9 Tryz.prog ((sL (sL (sR (sR (sR (sR B7)))))))=b63:=by kernel_rfl
noncomputable def b7c:CC:=(.seq (.reg a4v) (.cond (tm 52) .skip (.exit 1)))
theorem f5y:j9 Tryz.prog ((sL (lB (bB (sR (sL (sR (sR (sR (sR B7))))))))))=b7c:=by kernel_rfl
noncomputable def b7k:CC:=(.reg a8w)
theorem f5B:j9 Tryz.prog ((sL (bB (sL (sR (lB (bB (sR (sL (sR (sR (sR (sR B7)))))))))))))=b7k:=by kernel_rfl
noncomputable def b7i:CC:=(.seq (.reg a8A) (.cond (tm 69) (.seq (.reg b64) .ret) .skip))
theorem f5A:j9 Tryz.prog ((sL (sR (bB (sL (sR (lB (bB (sR (sL (sR (sR (sR (sR B7))))))))))))))=b7i:=by kernel_rfl
noncomputable def b7l:CC:=(.reg a8v)
theorem f5M:j9 Tryz.prog ((sL (sR (sR (bB (sL (sR (lB (bB (sR (sL (sR (sR (sR (sR B7)))))))))))))))=b7l:=by kernel_rfl
noncomputable def f5K:CC:=(.reg f5x)
theorem f5C:j9 Tryz.prog ((rAs (bB (sR (sR (sR (bB (sL (sR (lB (bB (sR (sL (sR (sR (sR (sR B7)))))))))))))))))=f5K:=by kernel_rfl
noncomputable def a8h:CC:=(.block 4 (.seq (.reg a8t) (.seq (.seq (.reg a8C) (.cond (tm 85) (.seq (.reg b66) .ret) .skip)) (.drawn a8x [(0,0),(0,7),(0,8),(1,0),(1,7),(4,0),(4,7),(5,0)]))))
theorem f5k:j9 Tryz.prog ((rBd (bB (sR (sR (sR (bB (sL (sR (lB (bB (sR (sL (sR (sR (sR (sR B7)))))))))))))))))=a8h:=by kernel_rfl
theorem f5n:cO (rF (bB (sR (sR (sR (bB (sL (sR (lB (bB (sR (sL (sR (sR (sR (sR B7))))))))))))))))=(tm 72):=by kernel_rfl
theorem f5j:(rPs (bB (sR (sR (sR (bB (sL (sR (lB (bB (sR (sL (sR (sR (sR (sR B7)))))))))))))))).toList= [73] :=by kernel_rfl
noncomputable def b6S:CC:=(.reg a8F)
theorem f5q:j9 Tryz.prog ((sR (sR (lB (bB (sR (sL (sR (sR (sR (sR B7)))))))))))=b6S:=by kernel_rfl
noncomputable def b62:CC:=(.seq (.reg a8u) .ret)
theorem f5l:j9 Tryz.prog ((sR (sR (sR (sR (sR B7))))))=b62:=by kernel_rfl
noncomputable def b6F:Code:=(.seq (sL B7) (.seq (sL (sR B7)) (.seq (sL (sR (sR B7))) (.seq (sL (sR (sR (sR B7)))) (.seq (.seq (sL (sL (sR (sR (sR (sR B7)))))) (.block 1 (.loop (.seq (sL (lB (bB (sR (sL (sR (sR (sR (sR B7))))))))) (.seq (.block 2 (.seq (sL (bB (sL (sR (lB (bB (sR (sL (sR (sR (sR (sR B7)))))))))))) (.seq (sL (sR (bB (sL (sR (lB (bB (sR (sL (sR (sR (sR (sR B7))))))))))))) (.seq (sL (sR (sR (bB (sL (sR (lB (bB (sR (sL (sR (sR (sR (sR B7)))))))))))))) (.block 3 (.rangeFunc (rF (bB (sR (sR (sR (bB (sL (sR (lB (bB (sR (sL (sR (sR (sR (sR B7)))))))))))))))) (rPs (bB (sR (sR (sR (bB (sL (sR (lB (bB (sR (sL (sR (sR (sR (sR B7)))))))))))))))) (rAs (bB (sR (sR (sR (bB (sL (sR (lB (bB (sR (sL (sR (sR (sR (sR B7)))))))))))))))) (rBd (bB (sR (sR (sR (bB (sL (sR (lB (bB (sR (sL (sR (sR (sR (sR B7)))))))))))))))))))))) (sR (sR (lB (bB (sR (sL (sR (sR (sR (sR B7))))))))))))))) (sR (sR (sR (sR (sR B7))))))))))
theorem f4t:Tryz.f29.body=some b6F:=by kernel_rfl
theorem f4g:y9 Tryz.f29.ntmps b6F=true:=by kernel_rfl
theorem f5r:A7 (pth 29) tb.fs=some Tryz.f29:=by rw[i7];exact a0H Tryz.func29
theorem f4J:Tryz.f29.results.toList= [.cell 8 a0v,.cell 9 j8] :=rfl
def a6G:List CO:= [
  mV 4 0,
 mV 5 0,
 O 6 (.len false (tm 5)),
 mV 7 1,
 C 8 V4 [(tm 4),(tm 6),(tm 7)]]
def e7Y:List CO:= [
  O 2 (.box x7 (tm 0)),
 O 3 (.box x7 (tm 1)),
 O 4 (.mv (.cst (iv 0)))]
def d8S:List CO:= [
  fA 5 1 2,
 lD 6 5,
 fA 7 1 3,
 lD 8 7,
 C 9 b3Z [(tm 6),(tm 8)],
 mV 4 9]
def a6l:List CO:= [
  O 4 (.mv (.cst (iv 0)))]
def a6B:List CO:= [
  mV 7 0,
 C 8 a6N [(tm 7)],
 mV 5 8]
def a5O:List CO:= [
  mV 9 1,
 C 10 a6N [(tm 9)],
 mV 6 10]
def a6C:List CO:= [
  mV 11 5]
def g2E:List CO:= [
  mV 12 6]
def g4e:List CO:= [
  O 4 (.mv (.cst (iv 0)))]
def g4i:List CO:= [
  O 4 (.mv (.cst (iv (-1))))]
def a5J:List CO:= [
  mV 13 6]
def g2g:List CO:= [
  O 4 (.mv (.cst (iv 1)))]
def a5L:List CO:= [
  mV 14 0,
 mV 15 1,
 O 16 (.lt (B .lss A9) (tm 14) (tm 15))]
def d2T:List CO:= [
  O 4 (.mv (.cst (iv (-1))))]
def b1d:List CO:= [
  mV 17 0,
 mV 18 1,
 O 19 (.gt (B .gtr A9) (tm 17) (tm 18))]
def c0V:List CO:= [
  O 4 (.mv (.cst (iv 1)))]
def c1Z:List CO:= [
  O 4 (.mv (.cst (iv 0)))]
def d5Q:List CO:= [
  O 6 (.box v7 (tm 2)),
 O 8 (.mv (.cst s9)),
 O 9 (.mv (.cst (iv 0)))]
def e1Q:List CO:= [
  mV 13 1,
 mV 14 0,
 mV 15 3,
 C 16 R1 [(tm 13),(tm 14),(tm 15)],
 mV 12 16,
 eX 17 0 12,
 eX 18 1 12,
 O 10 (.alloc A3 13 [(iv 0),(iv 0),(iv 0),(iv 0),(iv 0),(iv 0),(iv 0),(iv 0),(iv 0),(iv 0),(iv 0),(iv 0),(iv 0)]),
 .op none none (.store 13 (tm 10) (tm 17)),
 mV 11 18]
def e82:List CO:= [
  mV 20 11,
 O 21 (.ne (B .neq j8) (tm 20) (.cst (iv 0))),
 mV 19 21]
def g2c:List CO:= [
  mV 22 11,
 O 8 (.mv (.cst s9)),
 mV 9 22]
def e5E:List CO:= [
  fA 24 0 10,
 lD 25 24,
 O 26 (.eq (B .eql d5) (tm 25) (.cst (iv 0))),
 mV 23 26]
def g4h:List CO:= [
  O 8 (.mv (.cst s9)),
 O 9 (.mv (.cst (iv 11)))]
def d55:List CO:= [
  mV 27 0,
 mV 28 1,
 O 29 (.loadN 12 (tm 6)),
 mV 30 3,
 O 31 (.loadN 13 (tm 10)),
 O 32 (.build [s9,s9,(iv 0),(iv 0),(iv 0),(iv 0),(iv 0),(iv 0),(iv 0),(iv 0),(iv 0),(iv 0),(iv 0),(iv 0),(iv 0),(iv 0),(iv 0),(iv 0),(iv 0),(iv 0),(iv 0),(iv 0),(iv 0),(iv 0),(iv 0),(iv 0),(iv 0),(iv 0)] [(0,1,(tm 27)),(1,1,(tm 28)),(2,12,(tm 29)),(14,1,(tm 30)),(15,13,(tm 31))]),
 O 33 (.box W9 (tm 32)),
 mV 8 33,
 O 9 (.mv (.cst (iv 0)))]
def e65:List CO:= [
  O 7 (.box v7 (tm 2)),
 O 9 (.box A9 (tm 4)),
 O 10 (.mv (.cst s9)),
 O 11 (.mv (.cst (iv 0))),
 O 12 (.mv (.cst (iv 0)))]
def d6Q:List CO:= [
  lD 16 9,
 C 17 a3B [(tm 16)],
 mV 13 17]
def d4O:List CO:= [
  mV 18 13,
 O 19 (.ne (B .neq j8) (tm 18) (.cst (iv 0)))]
def g4r:List CO:= [
  mV 20 13,
 O 10 (.mv (.cst s9)),
 O 11 (.mv (.cst (iv 0))),
 mV 12 20]
def e78:List CO:= [
  mV 22 0,
 mV 23 1,
 O 24 (.loadN 12 (tm 7)),
 mV 25 3,
 C 26 a4B [(tm 22),(tm 23),(tm 24),(tm 25)],
 mV 21 26,
 eX 27 0 21,
 eX 28 1 21,
 mV 14 27,
 mV 15 28]
def d33:List CO:= [
  mV 29 15,
 O 30 (.ne (B .neq j8) (tm 29) (.cst (iv 0)))]
def g3Z:List CO:= [
  mV 31 15,
 O 10 (.mv (.cst s9)),
 O 11 (.mv (.cst (iv 0))),
 mV 12 31]
def d8Z:List CO:= [
  mV 32 14,
 mV 33 14,
 nL 34 33,
 fA 35 15 34,
 lD 36 35,
 O 37 (.fn a1Y [(tm 9)]),
 C 38 a6T [(tm 36),(tm 37)],
 mV 10 32,
 mV 11 38,
 O 12 (.mv (.cst (iv 0)))]
def d6u:List CO:= [
  O 5 (.box x7 (tm 2)),
 O 6 (.mv (.cst (iv 0)))]
def e5z:List CO:= [
  O 10 (.loadN 2 (tm 5)),
 C 11 a6U [(tm 10)],
 mV 9 11,
 eX 12 0 9,
 eX 13 1 9,
 mV 7 12,
 mV 8 13]
def e4E:List CO:= [
  mV 14 8,
 O 15 (.ne (B .neq j8) (tm 14) (.cst (iv 0)))]
def g4t:List CO:= [
  mV 16 8,
 mV 6 16]
def d9L:List CO:= [
  mV 17 0,
 nL 18 17,
 fA 19 0 18,
 lD 20 19,
 mV 21 0,
 nL 22 21,
 fA 23 1 22,
 lD 24 23,
 mV 25 0,
 nL 26 25,
 fA 27 2 26,
 O 28 (.loadN 12 (tm 27)),
 mV 29 0,
 nL 30 29,
 fA 31 14 30,
 lD 32 31,
 mV 33 1,
 O 34 (.mul (B .mul d5) (tm 33) (.cst (iv 16))),
 mV 35 7,
 C 36 a4t [(tm 20),(tm 24),(tm 28),(tm 32),(tm 34),(tm 35)],
 mV 6 36]
def e6U:List CO:= [
  O 7 (.box v7 (tm 2)),
 O 10 (.mv (.cst (iv 0)))]
def d58:List CO:= [
  mV 16 4,
 O 17 (.lt (B .lss d5) (tm 16) (.cst (iv 0)))]
def g4B:List CO:= [
  O 10 (.mv (.cst (iv 1)))]
def d3F:List CO:= [
  O 19 (.loadN 12 (tm 7)),
 C 20 W8 [(tm 19)],
 mV 18 20,
 eX 21 0 18,
 eX 22 1 18,
 mV 11 21,
 mV 12 22]
def d68:List CO:= [
  mV 23 12,
 O 24 (.ne (B .neq j8) (tm 23) (.cst (iv 0))),
 mV 25 24,
 G 26 25 false (.mv (tm 4)),
 G 27 25 false (.mv (tm 11)),
 G 28 25 false (.gt (B .gtr d5) (tm 26) (tm 27)),
 O 29 (.pick (tm 25) (.cst (.b true)) (tm 28))]
def g2V:List CO:= [
  O 10 (.mv (.cst (iv 5)))]
def e0h:List CO:= [
  mV 31 0,
 mV 32 1,
 O 33 (.loadN 12 (tm 7)),
 mV 34 3,
 C 35 a3J [(tm 31),(tm 32),(tm 33),(tm 34)],
 mV 30 35,
 eX 36 0 30,
 eX 37 1 30,
 mV 13 36,
 mV 14 37]
def e8g:List CO:= [
  mV 38 14,
 O 39 (.ne (B .neq j8) (tm 38) (.cst (iv 0)))]
def g3J:List CO:= [
  mV 40 14,
 mV 10 40]
def e08:List CO:= [
  mV 41 1,
 mV 42 0,
 mV 43 3,
 mV 44 4,
 C 45 a66 [(tm 41),(tm 42),(tm 43),(tm 44)],
 mV 15 45]
def d0r:List CO:= [
  mV 46 15,
 O 47 (.ne (B .neq j8) (tm 46) (.cst (iv 0)))]
def g0X:List CO:= [
  mV 48 15,
 mV 10 48]
def c9P:List CO:= [
  mV 49 13,
 mV 50 4,
 mV 51 13,
 nL 52 51,
 fA 53 15 52,
 fA 54 2 53,
 lD 55 54,
 O 56 (.min (tm 50) (tm 55)),
 C 57 a65 [(tm 49),(tm 56)],
 mV 10 57]
def e9e:List CO:= [
  O 6 (.mv (.cst (iv 0))),
 O 7 (.mv (.cst (iv 0))),
 O 8 (.mv (.cst j7)),
 O 9 (.mv (.cst (iv 0)))]
def e57:List CO:= [
  mV 11 0,
 nL 12 11,
 fA 13 1 12,
 O 14 (.loadN 12 (tm 13)),
 mV 15 2,
 C 16 a4u [(tm 14),(tm 15)],
 mV 10 16,
 eX 17 0 10,
 eX 18 1 10,
 eX 19 2 10,
 mV 6 17,
 mV 7 18,
 mV 9 19]
def e2M:List CO:= [
  mV 20 9,
 O 21 (.eq (B .eql j8) (tm 20) (.cst (iv 0)))]
def e43:List CO:= [
  mV 23 1,
 mV 24 6,
 C 25 O6 [(tm 23),(tm 24)],
 mV 22 25,
 eX 26 0 22,
 eX 27 1 22,
 mV 8 26,
 mV 9 27]
def d9B:List CO:= [
  mV 28 6,
 mV 29 7,
 mV 30 8,
 mV 31 9,
 mV 6 28,
 mV 7 29,
 mV 8 30,
 mV 9 31]
def d5A:List CO:= [
  O 2 (.alloc A3 13 [(iv 0),(iv 0),(iv 0),(iv 0),(iv 0),(iv 0),(iv 0),(iv 0),(iv 0),(iv 0),(iv 0),(iv 0),(iv 0)]),
 O 3 (.mv (.cst (iv 0)))]
def d9N:List CO:= [
  mV 10 0,
 O 11 (.len false (tm 10)),
 O 12 (.ne (B .neq d5) (tm 11) (.cst (iv 32)))]
def g27:List CO:= [
  O 13 (.build [(iv 0),(iv 0),(iv 0),(iv 0),(iv 0),(iv 0),(iv 0),(iv 0),(iv 0),(iv 0),(iv 0),(iv 0),(iv 0)] []),
 .op none none (.store 13 (tm 2) (tm 13)),
 O 3 (.mv (.cst (iv 4)))]
def d7Q:List CO:= [
  O 4 (.alloc A3 13 [(iv 0),(iv 0),(iv 0),(iv 0),(iv 0),(iv 0),(iv 0),(iv 0),(iv 0),(iv 0),(iv 0),(iv 0),(iv 0)])]
def d3H:List CO:= [
  O 5 (.alloc d5 1 [(iv 0)])]
def d8C:List CO:= [
  mV 14 0,
 O 15 (.build [j7,(iv 0)] [(0,1,(tm 14)),(1,1,(.cst (iv 0)))]),
 O 16 (.box J2 (tm 15)),
 mV 6 16]
def d6r:List CO:= [
  mV 17 6,
 fA 18 0 4,
 O 19 (.bslice P8 2 2 [s9] [(0,1,(tm 18)),(1,1,(tm 5))]),
 C 20 a0m [(tm 17),(.cst (iv 1)),(tm 19)]]
def e9b:List CO:= [
  mV 21 6,
 fA 22 1 4,
 O 23 (.bslice P8 1 1 [s9] [(0,1,(tm 22))]),
 C 24 a0m [(tm 21),(.cst (iv 2)),(tm 23)]]
def d5W:List CO:= [
  mV 25 6,
 fA 26 2 4,
 O 27 (.bslice P8 1 1 [s9] [(0,1,(tm 26))]),
 C 28 a0m [(tm 25),(.cst (iv 4)),(tm 27)]]
def d8T:List CO:= [
  O 29 (.mv (.cst (iv 0)))]
def a9X:List CO:= [
  O 30 (.lt (B .lss d5) (tm 29) (.cst (iv 8)))]
def c9b:List CO:= [
  mV 31 29,
 mV 7 31]
def c4z:List CO:= [
  mV 32 7,
 mV 33 6,
 C 34 a3L [(tm 33),(.cst (iv 2))],
 fA 35 3 4,
 O 36 (.iaA 8 1 (tm 35) (tm 32)),
 .op none none (.store 1 (tm 36) (tm 34))]
def c3d:List CO:= [
  O 37 (.add (B .add d5) (tm 29) (.cst (iv 1))),
 mV 29 37]
def c7c:List CO:= [
  mV 38 6,
 fA 39 11 4,
 fA 40 12 4,
 O 41 (.bslice P8 2 2 [s9] [(0,1,(tm 39)),(1,1,(tm 40))]),
 C 42 a0m [(tm 38),(.cst (iv 2)),(tm 41)]]
def c4l:List CO:= [
  O 44 (.loadN 13 (tm 4)),
 C 45 a7n [(tm 44)],
 mV 43 45,
 eX 46 0 43,
 eX 47 1 43,
 mV 8 46,
 mV 9 47]
def d2w:List CO:= [
  O 48 (.loadN 13 (tm 4)),
 mV 49 0,
 mV 50 8,
 mV 51 9,
 C 52 b3C [(tm 48),(tm 49),(tm 50),(tm 51)],
 eX 53 0 52,
 eX 54 1 52,
 .op none none (.store 13 (tm 2) (tm 53)),
 mV 3 54]
def e3S:List CO:= [
  O 6 (.mv (.cst (iv 0)))]
def e6a:List CO:= [
  mV 7 0,
 mV 8 1,
 mV 9 2,
 C 10 a0c [(tm 7),(.cst (.func a0h [])),(.cst (.func a0d [])),(tm 8),(tm 9)],
 mV 6 10]
def e3X:List CO:= [
  O 1 (.box A3 (tm 0)),
 O 2 (.mv (.cst j7)),
 O 3 (.mv (.cst (iv 0)))]
def d7P:List CO:= [
  fA 5 0 1,
 lD 6 5,
 O 7 (.lt (B .lss d5) (tm 6) (.cst (iv 0))),
 mV 8 7,
 G 9 8 false (.fa 0 (tm 1)),
 G 10 8 false (.load (tm 9)),
 G 11 8 false (.gt (B .gtr d5) (tm 10) (.cst (iv 2))),
 O 12 (.pick (tm 8) (.cst (.b true)) (tm 11)),
 mV 13 12,
 G 14 13 false (.fa 0 (tm 1)),
 G 15 13 false (.load (tm 14)),
 G 16 13 false (.eq (B .eql d5) (tm 15) (.cst (iv 0))),
 G 17 13 false (.mv (tm 16)),
 G 18 17 true (.loadN 13 (tm 1)),
 G 19 17 true (.build [(iv 0),(iv 0),(iv 0),(iv 0),(iv 0),(iv 0),(iv 0),(iv 0),(iv 0),(iv 0),(iv 0),(iv 0),(iv 0)] []),
 G 20 17 true (.ne (B .neq A3) (tm 18) (tm 19)),
 G 21 13 false (.pick (tm 17) (tm 20) (.cst (.b false))),
 O 22 (.pick (tm 13) (.cst (.b true)) (tm 21))]
def g2I:List CO:= [
  O 2 (.mv (.cst j7)),
 O 3 (.mv (.cst (iv 4)))]
def d7n:List CO:= [
  O 23 (.build [j7,(iv 0)] []),
 O 24 (.box a1e (tm 23)),
 mV 4 24]
def e5Y:List CO:= [
  mV 25 4,
 fA 26 0 1,
 lD 27 26,
 O 28 (.bslice d5 2 2 [(iv 0)] [(0,1,(tm 27)),(1,1,(.cst (iv 0)))]),
 C 29 a0o [(tm 25),(.cst (iv 1)),(tm 28)]]
def d4V:List CO:= [
  mV 30 4,
 fA 31 1 1,
 lD 32 31,
 C 33 a2a [(tm 30),(.cst (iv 2)),(tm 32)]]
def e1h:List CO:= [
  mV 34 4,
 fA 35 2 1,
 lD 36 35,
 C 37 a2a [(tm 34),(.cst (iv 4)),(tm 36)]]
def e5U:List CO:= [
  mV 38 4,
 fA 39 3 1,
 O 40 (.sla 8 1 (tm 39) none none none),
 C 41 a0o [(tm 38),(.cst (iv 2)),(tm 40)]]
def e7c:List CO:= [
  mV 42 4,
 fA 43 11 1,
 lD 44 43,
 fA 45 12 1,
 lD 46 45,
 O 47 (.bslice d5 2 2 [(iv 0)] [(0,1,(tm 44)),(1,1,(tm 46))]),
 C 48 a0o [(tm 42),(.cst (iv 2)),(tm 47)]]
def e1u:List CO:= [
  mV 49 4,
 C 50 a7r [(tm 49),(.cst (iv 32))],
 eX 51 0 50,
 eX 52 1 50,
 mV 2 51,
 mV 3 52]
def e27:List CO:= [
  O 2 (.mv (.cst (iv 0)))]
def e7y:List CO:= [
  O 3 (.mv (.cst (.func a0g [])))]
def e7H:List CO:= [
  mV 4 0,
 O 5 (.eq (B .eql A9) (tm 4) (.cst (tv []))),
 mV 6 5,
 G 7 6 false (.mv (tm 0)),
 G 8 6 false (.len true (tm 7)),
 G 9 6 false (.gt (B .gtr d5) (tm 8) (.cst (iv 13))),
 O 10 (.pick (tm 6) (.cst (.b true)) (tm 9)),
 mV 11 10,
 G 12 11 false (.mv (tm 0)),
 G 13 11 false (.eq (B .eql A9) (tm 12) (.cst (tv [46]))),
 O 14 (.pick (tm 11) (.cst (.b true)) (tm 13)),
 mV 15 14,
 G 16 15 false (.mv (tm 0)),
 G 17 15 false (.eq (B .eql A9) (tm 16) (.cst (tv [46,46]))),
 O 18 (.pick (tm 15) (.cst (.b true)) (tm 17)),
 mV 19 18,
 G 20 19 false (.mv (tm 0)),
 G 21 19 false (.mv (tm 3)),
 .call (some (pth 22)) (some (pth 19,false)) (.cst (.func b3M [])) [(tm 20),(tm 21)],
 O 23 (.pick (tm 19) (.cst (.b true)) (tm 22))]
def g4q:List CO:= [
  O 2 (.mv (.cst (iv 16)))]
def d9A:List CO:= [
  O 2 (.mv (.cst (iv 0)))]
def a8z:List CO:= [
  O 6 (.box G4 (tm 0)),
 O 7 (.box G3 (tm 1)),
 O 8 (.box v7 (tm 2)),
 O 9 (.box d5 (tm 3)),
 O 10 (.box d5 (tm 4)),
 O 11 (.box d5 (tm 5)),
 O 12 (.alloc C7 1 [j7]),
 O 13 (.alloc j8 1 [(iv 0)])]
def a8G:List CO:= [
  lD 20 10,
 O 21 (.lt (B .lss d5) (tm 20) (.cst (iv 0))),
 mV 22 21,
 G 23 22 false (.load (tm 11)),
 G 24 22 false (.lt (B .lss d5) (tm 23) (.cst (iv 0))),
 O 25 (.pick (tm 22) (.cst (.b true)) (tm 24)),
 mV 19 25]
def b68:List CO:= [
  .op none none (.store 1 (tm 12) (.cst j7)),
 .op none none (.store 1 (tm 13) (.cst (iv 1)))]
def a8y:List CO:= [
  lD 27 11,
 O 28 (.gt (B .gtr d5) (tm 27) (.cst (iv 4096))),
 mV 26 28]
def b7q:List CO:= [
  .op none none (.store 1 (tm 12) (.cst j7)),
 .op none none (.store 1 (tm 13) (.cst (iv 5)))]
def a8r:List CO:= [
  lD 30 6,
 lD 31 7,
 O 32 (.loadN 12 (tm 8)),
 lD 33 9,
 C 34 a3J [(tm 30),(tm 31),(tm 32),(tm 33)],
 mV 29 34,
 eX 35 0 29,
 eX 36 1 29,
 mV 14 35,
 .op none none (.store 1 (tm 13) (tm 36))]
def a8E:List CO:= [
  lD 37 13,
 O 38 (.ne (B .neq j8) (tm 37) (.cst (iv 0)))]
def b7e:List CO:= [
  lD 39 13,
 .op none none (.store 1 (tm 12) (.cst j7)),
 .op none none (.store 1 (tm 13) (tm 39))]
def a8B:List CO:= [
  lD 40 11,
 mV 41 14,
 nL 42 41,
 fA 43 15 42,
 fA 44 2 43,
 lD 45 44,
 lD 46 10,
 O 47 (.sub (B .sub d5) (tm 45) (tm 46)),
 O 48 (.max (.cst (iv 0)) (tm 47)),
 O 49 (.min (tm 40) (tm 48)),
 .op none none (.store 1 (tm 11) (tm 49))]
def a8s:List CO:= [
  lD 50 11,
 O 51 (.mksl l3 1 1 [(.y 0)] (tm 50) (tm 50)),
 .op none none (.store 1 (tm 12) (tm 51))]
def a8c:List CO:= [
  O 52 (.fn a7q [(tm 8),(tm 10),(tm 11)])]
def f5h:List CO:= [
  O 15 (.alloc M6 4 [(iv 0),(iv 0),(iv 0),(iv 0)]),
 .op none none (.store 4 (tm 15) (tm 53))]
def a4r:List CO:= [
  lD 55 7,
 lD 56 6,
 lD 57 9,
 fA 58 0 15,
 lD 59 58,
 C 60 a3U [(tm 55),(tm 56),(tm 57),(tm 59)],
 mV 54 60,
 eX 61 0 54,
 eX 62 1 54,
 mV 16 61,
 mV 17 62]
def a4m:List CO:= [
  mV 63 17,
 O 64 (.ne (B .neq j8) (tm 63) (.cst (iv 0)))]
def b6R:List CO:= [
  mV 65 17,
 .op none none (.store 1 (tm 12) (.cst j7)),
 .op none none (.store 1 (tm 13) (tm 65))]
def a4o:List CO:= [
  mV 66 16,
 O 67 (.eq (B .eql d5) (tm 66) (.cst (iv 0)))]
def a8n:List CO:= [
  lD 69 6,
 mV 70 16,
 C 71 O6 [(tm 69),(tm 70)],
 mV 68 71,
 eX 72 0 68,
 eX 73 1 68,
 mV 18 72,
 mV 17 73]
def a8m:List CO:= [
  mV 74 17,
 O 75 (.ne (B .neq j8) (tm 74) (.cst (iv 0)))]
def b6M:List CO:= [
  mV 76 17,
 .op none none (.store 1 (tm 12) (.cst j7)),
 .op none none (.store 1 (tm 13) (tm 76))]
def a8l:List CO:= [
  lD 77 12,
 fA 78 3 15,
 lD 79 78,
 O 80 (.sl 1 false (tm 77) (some (tm 79)) none none),
 mV 81 18,
 fA 82 1 15,
 lD 83 82,
 fA 84 2 15,
 lD 85 84,
 O 86 (.sl 1 false (tm 81) (some (tm 83)) (some (tm 85)) none),
 O 87 (.copy 1 (tm 80) (tm 86))]
def a8o:List CO:= [
  lD 88 12,
 .op none none (.store 1 (tm 12) (tm 88)),
 .op none none (.store 1 (tm 13) (.cst (iv 0)))]
noncomputable def C6:Code:=a6e (Tryz.prog.funcs[59]?)
noncomputable def b6Q:CC:=(.reg a8z)
theorem f5a:j9 Tryz.prog ((sL C6))=b6Q:=by kernel_rfl
noncomputable def b6V:CC:=(.block 0 (.seq (.reg a8G) (.cond (tm 19) (.seq (.reg b68) .ret) (.seq (.reg a8y) (.cond (tm 26) (.seq (.reg b7q) .ret) .skip)))))
theorem f5f:j9 Tryz.prog ((sL (sR C6)))=b6V:=by kernel_rfl
noncomputable def b61:CC:=(.reg a8r)
theorem f5u:j9 Tryz.prog ((sL (sR (sR C6))))=b61:=by kernel_rfl
noncomputable def b6N:CC:=(.seq (.reg a8E) (.cond (tm 38) (.seq (.drawn b7e [(0,0),(0,2)]) .ret) .skip))
theorem f5s:j9 Tryz.prog ((sL (sR (sR (sR C6)))))=b6N:=by kernel_rfl
noncomputable def b6O:CC:=(.drawn a8B [(0,0),(5,0),(6,0)])
theorem f5e:j9 Tryz.prog ((sL (sR (sR (sR (sR C6))))))=b6O:=by kernel_rfl
noncomputable def b6Y:CC:=(.reg a8s)
theorem f5d:j9 Tryz.prog ((sL (sR (sR (sR (sR (sR C6)))))))=b6Y:=by kernel_rfl
noncomputable def b6P:CC:=(.reg a8c)
theorem f5p:j9 Tryz.prog ((sL (sL (sR (sR (sR (sR (sR (sR C6)))))))))=b6P:=by kernel_rfl
noncomputable def f5o:CC:=(.reg f5h)
theorem f5c:j9 Tryz.prog ((rAs (bB (sR (sL (sR (sR (sR (sR (sR (sR C6)))))))))))=f5o:=by kernel_rfl
noncomputable def a8f:CC:=(.block 2 (.seq (.reg a4r) (.seq (.seq (.reg a4m) (.cond (tm 64) (.seq (.reg b6R) .ret) .skip)) (.seq (.seq (.reg a4o) (.cond (tm 67) (.exit 2) .skip)) (.seq (.reg a8n) (.seq (.seq (.reg a8m) (.cond (tm 75) (.seq (.reg b6M) .ret) .skip)) (.drawn a8l [(0,0),(2,0),(3,0),(6,0),(8,0),(9,0)])))))))
theorem f5t:j9 Tryz.prog ((rBd (bB (sR (sL (sR (sR (sR (sR (sR (sR C6)))))))))))=a8f:=by kernel_rfl
theorem f45:cO (rF (bB (sR (sL (sR (sR (sR (sR (sR (sR C6))))))))))=(tm 52):=by kernel_rfl
theorem f4R:(rPs (bB (sR (sL (sR (sR (sR (sR (sR (sR C6)))))))))).toList= [53] :=by kernel_rfl
noncomputable def b6U:CC:=(.seq (.reg a8o) .ret)
theorem f5i:j9 Tryz.prog ((sR (sR (sR (sR (sR (sR (sR C6))))))))=b6U:=by kernel_rfl
noncomputable def b6n:Code:=(.seq (sL C6) (.seq (sL (sR C6)) (.seq (sL (sR (sR C6))) (.seq (sL (sR (sR (sR C6)))) (.seq (sL (sR (sR (sR (sR C6))))) (.seq (sL (sR (sR (sR (sR (sR C6)))))) (.seq (.seq (sL (sL (sR (sR (sR (sR (sR (sR C6)))))))) (.block 1 (.rangeFunc (rF (bB (sR (sL (sR (sR (sR (sR (sR (sR C6)))))))))) (rPs (bB (sR (sL (sR (sR (sR (sR (sR (sR C6)))))))))) (rAs (bB (sR (sL (sR (sR (sR (sR (sR (sR C6)))))))))) (rBd (bB (sR (sL (sR (sR (sR (sR (sR (sR C6))))))))))))) (sR (sR (sR (sR (sR (sR (sR C6))))))))))))))
theorem f4j:Tryz.f59.body=some b6n:=by kernel_rfl
theorem f4d:y9 Tryz.f59.ntmps b6n=true:=by kernel_rfl
theorem f4P:A7 (pth 59) tb.fs=some Tryz.f59:=by rw[i7];exact a0H Tryz.func59
theorem f4C:Tryz.f59.results.toList= [.cell 12 C7,.cell 13 j8] :=rfl
def e7t:List CO:= [
  O 2 (.box C7 (tm 0)),
 O 3 (.box d5 (tm 1)),
 O 4 (.mv (.cst b4d))]
def e1M:List CO:= [
  lD 5 3,
 O 6 (.lt (B .lss d5) (tm 5) (.cst (iv 1)))]
def g4a:List CO:= [
  O 7 (.mkI A9 (.cst (tv [99,97,110,110,111,116,32,98,101,32,108,101,115,115,32,116,104,97,110,32,49]))),
 .op none none (.none)]
def e4Q:List CO:= [
  O 8 (.fn a17 [(tm 2),(tm 3)]),
 mV 4 8]
def e2h:List CO:= [
  O 2 (.alloc x7 2 [(iv 0),(tv [])]),
 O 3 (.mv (.cst (iv 0)))]
def e5N:List CO:= [
  mV 9 0,
 O 10 (.len false (tm 9)),
 O 11 (.ne (B .neq d5) (tm 10) (.cst (iv 16)))]
def g4p:List CO:= [
  O 12 (.build [(iv 0),(tv [])] []),
 .op none none (.store 2 (tm 2) (tm 12)),
 O 3 (.mv (.cst (iv 4)))]
def e7z:List CO:= [
  mV 14 0,
 C 15 b3f [(tm 14),(.cst (iv 2)),(.cst (iv 13))],
 mV 13 15,
 eX 16 0 13,
 eX 17 1 13,
 mV 4 16,
 mV 5 17]
def d7F:List CO:= [
  mV 18 5,
 O 19 (.ne (B .neq j8) (tm 18) (.cst (iv 0)))]
def g4F:List CO:= [
  O 20 (.build [(iv 0),(tv [])] []),
 .op none none (.store 2 (tm 2) (tm 20)),
 O 3 (.mv (.cst (iv 4)))]
def e9Y:List CO:= [
  mV 21 0,
 O 22 (.build [j7,(iv 0)] [(0,1,(tm 21)),(1,1,(.cst (iv 0)))]),
 O 23 (.box J2 (tm 22)),
 mV 6 23]
def e1k:List CO:= [
  mV 24 6,
 C 25 a3L [(tm 24),(.cst (iv 2))],
 mV 26 4,
 O 27 (.build [(iv 0),(tv [])] [(0,1,(tm 25)),(1,1,(tm 26))]),
 O 7 (.alloc x7 2 [(iv 0),(tv [])]),
 .op none none (.store 2 (tm 7) (tm 27))]
def e0u:List CO:= [
  O 29 (.loadN 2 (tm 7)),
 C 30 a6U [(tm 29)],
 mV 28 30,
 eX 31 0 28,
 eX 32 1 28,
 mV 8 31,
 mV 5 32]
def e88:List CO:= [
  O 33 (.loadN 2 (tm 7)),
 mV 34 0,
 mV 35 8,
 mV 36 5,
 C 37 b3z [(tm 33),(tm 34),(tm 35),(tm 36)],
 eX 38 0 37,
 eX 39 1 37,
 .op none none (.store 2 (tm 2) (tm 38)),
 mV 3 39]
def a3d:List CO:= [
  O 6 (.mv (.cst (iv 20)))]
def a3v:List CO:= [
  mV 10 6,
 O 7 (.mv (.cst (iv 0))),
 mV 8 10]
def a0R:List CO:= [
  mV 11 8,
 mV 12 1,
 O 13 (.le (B .leq d5) (tm 11) (tm 12))]
def b1l:List CO:= [
  mV 14 0,
 mV 15 7,
 mV 16 8,
 mV 17 2,
 C 18 O7 [(tm 14),(tm 15),(tm 16),(tm 17)]]
def b2N:List CO:= [
  mV 19 8,
 mV 7 19]
def b2p:List CO:= [
  mV 20 8,
 mV 21 6,
 O 22 (.add (B .add d5) (tm 20) (tm 21)),
 mV 8 22]
def a3k:List CO:= [
  mV 23 0,
 mV 24 7,
 mV 25 1,
 mV 26 2,
 C 27 O7 [(tm 23),(tm 24),(tm 25),(tm 26)]]
def a1Q:List CO:= [
  mV 28 6,
 mV 29 1,
 O 30 (.lt (B .lss d5) (tm 28) (tm 29))]
def e2T:List CO:= [
  mV 31 6,
 O 32 (.mul (B .mul d5) (.cst (iv 2)) (tm 31)),
 O 7 (.mv (.cst (iv 0))),
 mV 8 32]
def e5u:List CO:= [
  mV 33 8,
 mV 34 1,
 O 35 (.le (B .leq d5) (tm 33) (tm 34))]
def g1k:List CO:= [
  mV 36 0,
 mV 37 7,
 mV 38 7,
 mV 39 6,
 O 40 (.add (B .add d5) (tm 38) (tm 39)),
 mV 41 8,
 mV 42 2,
 C 43 J7 [(tm 36),(tm 37),(tm 40),(tm 41),(tm 42)]]
def g08:List CO:= [
  mV 44 8,
 mV 7 44]
def g0y:List CO:= [
  mV 45 8,
 mV 46 6,
 O 47 (.mul (B .mul d5) (.cst (iv 2)) (tm 46)),
 O 48 (.add (B .add d5) (tm 45) (tm 47)),
 mV 8 48]
def c6A:List CO:= [
  mV 49 7,
 mV 50 6,
 O 51 (.add (B .add d5) (tm 49) (tm 50)),
 mV 9 51]
def c1F:List CO:= [
  mV 52 9,
 mV 53 1,
 O 54 (.lt (B .lss d5) (tm 52) (tm 53))]
def c3e:List CO:= [
  mV 55 0,
 mV 56 7,
 mV 57 9,
 mV 58 1,
 mV 59 2,
 C 60 J7 [(tm 55),(tm 56),(tm 57),(tm 58),(tm 59)]]
def c7Z:List CO:= [
  mV 61 6,
 O 62 (.mul (B .mul d5) (tm 61) (.cst (iv 2))),
 mV 6 62]
def e2Z:List CO:= [
  O 2 (.mv (.cst (.b false)))]
def e46:List CO:= [
  mV 3 0,
 mV 4 0,
 O 5 (.ne (B .neq A9) (tm 3) (tm 4)),
 mV 2 5]
def b2T:List CO:= [
  O 5 (.box D6 (tm 2)),
 O 6 (.mv (.cst (iv 0))),
 O 7 (.mv (.cst (iv 0)))]
def b14:List CO:= [
  fA 12 1 5,
 lD 13 12,
 O 14 (.eq (B .eql d5) (tm 13) (.cst (iv 0)))]
def e71:List CO:= [
  mV 16 0,
 mV 17 1,
 fA 18 0 5,
 lD 19 18,
 C 20 R1 [(tm 16),(tm 17),(tm 19)],
 mV 15 20,
 eX 21 0 15,
 eX 22 1 15,
 O 8 (.alloc A3 13 [(iv 0),(iv 0),(iv 0),(iv 0),(iv 0),(iv 0),(iv 0),(iv 0),(iv 0),(iv 0),(iv 0),(iv 0),(iv 0)]),
 .op none none (.store 13 (tm 8) (tm 21)),
 mV 9 22]
def e1L:List CO:= [
  fA 23 2 5,
 lD 24 23,
 C 25 a7j [(tm 8),(tm 24)],
 nL 26 25,
 lD 27 26,
 mV 28 9,
 mV 6 27,
 mV 7 28]
def d9i:List CO:= [
  mV 30 1,
 fA 31 1 5,
 lD 32 31,
 C 33 O6 [(tm 30),(tm 32)],
 mV 29 33,
 eX 34 0 29,
 eX 35 1 29,
 mV 10 34,
 mV 11 35]
def d31:List CO:= [
  mV 36 11,
 O 37 (.ne (B .neq j8) (tm 36) (.cst (iv 0)))]
def g34:List CO:= [
  mV 38 11,
 O 6 (.mv (.cst (iv 0))),
 mV 7 38]
def d9u:List CO:= [
  mV 39 10,
 fA 40 2 5,
 lD 41 40,
 O 42 (.mul (B .mul d5) (.cst (iv 2)) (tm 41)),
 C 43 a4w [(tm 39),(tm 42),(.cst (iv 2))],
 eX 44 0 43,
 eX 45 1 43,
 mV 6 44,
 mV 7 45]
def a5P:List CO:= [
  O 4 (.mv (.cst s9))]
def a6y:List CO:= [
  mV 5 1]
def a5U:List CO:= [
  O 7 (.eq (B .eql d5) (tm 5) (.cst (iv 8))),
 mV 6 7]
def d6s:List CO:= [
  mV 8 0,
 nL 9 8,
 fA 10 11 9,
 mV 4 10]
def b2D:List CO:= [
  O 12 (.eq (B .eql d5) (tm 5) (.cst (iv 9))),
 mV 11 12]
def d5e:List CO:= [
  mV 13 0,
 nL 14 13,
 fA 15 12 14,
 mV 4 15]
def d5l:List CO:= [
  mV 16 0,
 mV 17 1,
 nL 18 16,
 fA 19 3 18,
 O 20 (.iaA 8 1 (tm 19) (tm 17)),
 mV 4 20]
def e4P:List CO:= [
  O 4 (.mv (.cst (iv 0)))]
def e5m:List CO:= [
  mV 6 0,
 O 7 (.len false (tm 6)),
 O 8 (.mv (.cst (iv 0)))]
def a6x:List CO:= [
  O 9 (.lt (B .lss d5) (tm 8) (tm 7))]
def b1s:List CO:= [
  mV 10 8,
 mV 5 10]
def b2P:List CO:= [
  mV 11 1,
 mV 12 0,
 mV 13 5,
 O 14 (.iaS 2 (tm 12) (tm 13)),
 O 15 (.loadN 2 (tm 14)),
 .call (some (pth 16)) none (tm 11) [(tm 15)]]
def d3n:List CO:= [
  mV 17 5,
 mV 4 17]
def e1n:List CO:= [
  O 18 (.add (B .add d5) (tm 8) (.cst (iv 1))),
 mV 8 18]
def d9H:List CO:= [
  O 4 (.mv (.cst (iv (-1))))]
def d35:List CO:= [
  O 2 (.box x7 (tm 0)),
 O 3 (.mv (.cst (.b false)))]
def e0x:List CO:= [
  fA 4 1 2,
 lD 5 4,
 lD 6 1,
 O 7 (.eq (B .eql A9) (tm 5) (tm 6)),
 mV 3 7]
def d9l:List CO:= [
  O 1 (.box x7 (tm 0)),
 O 2 (.mv (.cst j7)),
 O 3 (.mv (.cst (iv 0)))]
def e4Z:List CO:= [
  fA 6 0 1,
 lD 7 6,
 O 8 (.eq (B .eql d5) (tm 7) (.cst (iv 0))),
 mV 9 8,
 G 10 9 true (.fa 1 (tm 1)),
 G 11 9 true (.load (tm 10)),
 G 12 9 true (.ne (B .neq A9) (tm 11) (.cst (tv []))),
 O 13 (.pick (tm 9) (tm 12) (.cst (.b false))),
 mV 5 13]
def g3D:List CO:= [
  O 2 (.mv (.cst j7)),
 O 3 (.mv (.cst (iv 4)))]
def d7x:List CO:= [
  fA 15 0 1,
 lD 16 15,
 O 17 (.ne (B .neq d5) (tm 16) (.cst (iv 0))),
 mV 18 17,
 G 19 18 true (.fa 1 (tm 1)),
 G 20 18 true (.load (tm 19)),
 .call (some (pth 21)) (some (pth 18,true)) (.cst (.func a3B [])) [(tm 20)],
 G 22 18 true (.ne (B .neq j8) (tm 21) (.cst (iv 0))),
 O 23 (.pick (tm 18) (tm 22) (.cst (.b false))),
 mV 14 23]
def g2Z:List CO:= [
  O 2 (.mv (.cst j7)),
 O 3 (.mv (.cst (iv 16)))]
def e3m:List CO:= [
  O 24 (.build [j7,(iv 0)] []),
 O 25 (.box a1e (tm 24)),
 mV 4 25]
def e02:List CO:= [
  mV 26 4,
 fA 27 0 1,
 lD 28 27,
 C 29 a2a [(tm 26),(.cst (iv 2)),(tm 28)]]
def e6t:List CO:= [
  mV 30 4,
 mV 31 4,
 nL 32 31,
 fA 33 0 32,
 lD 34 33,
 fA 35 1 1,
 lD 36 35,
 O 37 (.app l3 1 1 [(.y 0)] (tm 34) (tm 36)),
 nL 38 30,
 fA 39 0 38,
 .op none none (.store 1 (tm 39) (tm 37))]
def d6M:List CO:= [
  mV 40 4,
 C 41 a7r [(tm 40),(.cst (iv 16))],
 eX 42 0 41,
 eX 43 1 41,
 mV 2 42,
 mV 3 43]
def a8j:List CO:= [
  O 6 (.box G4 (tm 0)),
 O 7 (.box G3 (tm 1)),
 O 8 (.box v7 (tm 2)),
 O 9 (.box d5 (tm 3)),
 O 10 (.box d5 (tm 4)),
 O 11 (.box C7 (tm 5)),
 O 12 (.alloc j8 1 [(iv 0)])]
def a8k:List CO:= [
  lD 24 10,
 O 25 (.lt (B .lss d5) (tm 24) (.cst (iv 0)))]
def b6W:List CO:= [
  .op none none (.store 1 (tm 12) (.cst (iv 1)))]
def a8e:List CO:= [
  O 27 (.loadN 12 (tm 8)),
 C 28 W8 [(tm 27)],
 mV 26 28,
 eX 29 0 26,
 eX 30 1 26,
 mV 13 29,
 mV 14 30]
def a8d:List CO:= [
  mV 31 14,
 O 32 (.ne (B .neq j8) (tm 31) (.cst (iv 0))),
 mV 33 32,
 G 34 33 false (.load (tm 11)),
 G 35 33 false (.len false (tm 34)),
 G 36 33 false (.gt (B .gtr d5) (tm 35) (.cst (iv 4096))),
 O 37 (.pick (tm 33) (.cst (.b true)) (tm 36)),
 mV 38 37,
 G 39 38 false (.load (tm 10)),
 G 40 38 false (.mv (tm 13)),
 G 41 38 false (.load (tm 11)),
 G 42 38 false (.len false (tm 41)),
 G 43 38 false (.sub (B .sub d5) (tm 40) (tm 42)),
 G 44 38 false (.gt (B .gtr d5) (tm 39) (tm 43)),
 O 45 (.pick (tm 38) (.cst (.b true)) (tm 44))]
def b6T:List CO:= [
  .op none none (.store 1 (tm 12) (.cst (iv 5)))]
def a8g:List CO:= [
  lD 47 6,
 lD 48 7,
 O 49 (.loadN 12 (tm 8)),
 lD 50 9,
 C 51 a3J [(tm 47),(tm 48),(tm 49),(tm 50)],
 mV 46 51,
 eX 52 0 46,
 eX 53 1 46,
 O 15 (.alloc a2n 1 [s9]),
 .op none none (.store 1 (tm 15) (tm 52)),
 mV 16 53]
def a8i:List CO:= [
  mV 54 16,
 O 55 (.ne (B .neq j8) (tm 54) (.cst (iv 0))),
 mV 56 55,
 G 57 56 false (.load (tm 11)),
 G 58 56 false (.len false (tm 57)),
 G 59 56 false (.eq (B .eql d5) (tm 58) (.cst (iv 0))),
 O 60 (.pick (tm 56) (.cst (.b true)) (tm 59))]
def b6X:List CO:= [
  mV 61 16,
 .op none none (.store 1 (tm 12) (tm 61))]
def a4n:List CO:= [
  lD 62 10,
 lD 63 11,
 O 64 (.len false (tm 63)),
 O 65 (.add (B .add d5) (tm 62) (tm 64)),
 lD 66 15,
 nL 67 66,
 fA 68 15 67,
 fA 69 2 68,
 lD 70 69,
 O 71 (.gt (B .gtr d5) (tm 65) (tm 70))]
def a8a:List CO:= [
  lD 72 15,
 lD 73 15,
 nL 74 73,
 fA 75 15 74,
 fA 76 2 75,
 lD 77 76,
 C 78 a65 [(tm 72),(tm 77)],
 mV 17 78]
def a74:List CO:= [
  mV 79 17,
 O 80 (.ne (B .neq j8) (tm 79) (.cst (iv 0)))]
def b6E:List CO:= [
  mV 81 17,
 .op none none (.store 1 (tm 12) (tm 81))]
def a7W:List CO:= [
  O 82 (.fn a6M [(tm 8),(tm 10),(tm 11)])]
def f49:List CO:= [
  O 18 (.alloc M6 4 [(iv 0),(iv 0),(iv 0),(iv 0)]),
 .op none none (.store 4 (tm 18) (tm 83))]
def a71:List CO:= [
  lD 85 7,
 lD 86 6,
 lD 87 9,
 fA 88 0 18,
 lD 89 88,
 C 90 b3W [(tm 85),(tm 86),(tm 87),(tm 89)],
 mV 84 90,
 eX 91 0 84,
 eX 92 1 84,
 eX 93 2 84,
 mV 19 91,
 mV 20 92,
 mV 21 93]
def a2o:List CO:= [
  mV 94 21,
 O 95 (.ne (B .neq j8) (tm 94) (.cst (iv 0)))]
def a73:List CO:= [
  mV 96 21,
 .op none none (.store 1 (tm 12) (tm 96))]
def a4h:List CO:= [
  fA 97 0 8,
 lD 98 97,
 O 99 (.mksl l3 1 1 [(.y 0)] (tm 98) (tm 98)),
 mV 22 99]
def a4j:List CO:= [
  mV 100 20,
 O 101 (.un .not (tm 100))]
def a72:List CO:= [
  lD 103 6,
 mV 104 19,
 C 105 O6 [(tm 103),(tm 104)],
 mV 102 105,
 eX 106 0 102,
 eX 107 1 102,
 mV 22 106,
 mV 21 107]
def a75:List CO:= [
  mV 108 21,
 O 109 (.ne (B .neq j8) (tm 108) (.cst (iv 0)))]
def b6I:List CO:= [
  mV 110 21,
 .op none none (.store 1 (tm 12) (tm 110))]
def a4i:List CO:= [
  mV 111 22,
 fA 112 1 18,
 lD 113 112,
 fA 114 2 18,
 lD 115 114,
 O 116 (.sl 1 false (tm 111) (some (tm 113)) (some (tm 115)) none),
 lD 117 11,
 fA 118 3 18,
 lD 119 118,
 O 120 (.sl 1 false (tm 117) (some (tm 119)) none none),
 O 121 (.copy 1 (tm 116) (tm 120))]
def a7V:List CO:= [
  lD 122 15,
 mV 123 19,
 mV 124 22,
 C 125 a7t [(tm 122),(tm 123),(tm 124)],
 mV 23 125]
def a70:List CO:= [
  mV 126 23,
 O 127 (.ne (B .neq j8) (tm 126) (.cst (iv 0)))]
def b6A:List CO:= [
  mV 128 23,
 .op none none (.store 1 (tm 12) (tm 128))]
def a76:List CO:= [
  lD 129 6,
 lD 130 7,
 lD 131 9,
 lD 132 10,
 lD 133 11,
 O 134 (.len false (tm 133)),
 O 135 (.add (B .add d5) (tm 132) (tm 134)),
 C 136 b3U [(tm 129),(tm 130),(tm 131),(tm 135)],
 .op none none (.store 1 (tm 12) (tm 136))]
noncomputable def B6:Code:=a6e (Tryz.prog.funcs[73]?)
noncomputable def b6L:CC:=(.reg a8j)
theorem f48:j9 Tryz.prog ((sL B6))=b6L:=by kernel_rfl
noncomputable def b6H:CC:=(.seq (.reg a8k) (.cond (tm 25) (.seq (.reg b6W) .ret) .skip))
theorem f43:j9 Tryz.prog ((sL (sR B6)))=b6H:=by kernel_rfl
noncomputable def b6B:CC:=(.seq (.reg a8e) (.seq (.reg a8d) (.cond (tm 45) (.seq (.reg b6T) .ret) .skip)))
theorem f4U:j9 Tryz.prog ((sL (sR (sR B6))))=b6B:=by kernel_rfl
noncomputable def b6x:CC:=(.reg a8g)
theorem f46:j9 Tryz.prog ((sL (sR (sR (sR B6)))))=b6x:=by kernel_rfl
noncomputable def b6z:CC:=(.seq (.reg a8i) (.cond (tm 60) (.seq (.reg b6X) .ret) .skip))
theorem f4Y:j9 Tryz.prog ((sL (sR (sR (sR (sR B6))))))=b6z:=by kernel_rfl
noncomputable def b6J:CC:=(.seq (.drawn a4n [(0,0),(1,0),(4,0),(8,0)]) (.cond (tm 71) (.seq (.drawn a8a [(0,0),(1,0),(5,0)]) (.seq (.reg a74) (.cond (tm 80) (.seq (.reg b6E) .ret) .skip))) .skip))
theorem f4W:j9 Tryz.prog ((sL (sR (sR (sR (sR (sR B6)))))))=b6J:=by kernel_rfl
noncomputable def b6K:CC:=(.reg a7W)
theorem f4V:j9 Tryz.prog ((sL (sL (sR (sR (sR (sR (sR (sR B6)))))))))=b6K:=by kernel_rfl
noncomputable def f4X:CC:=(.reg f49)
theorem f47:j9 Tryz.prog ((rAs (bB (sR (sL (sR (sR (sR (sR (sR (sR B6)))))))))))=f4X:=by kernel_rfl
noncomputable def a78:CC:=(.block 1 (.seq (.reg a71) (.seq (.seq (.reg a2o) (.cond (tm 95) (.seq (.reg a73) .ret) .skip)) (.seq (.reg a4h) (.seq (.seq (.reg a4j) (.cond (tm 101) (.seq (.reg a72) (.seq (.reg a75) (.cond (tm 109) (.seq (.reg b6I) .ret) .skip))) .skip)) (.seq (.drawn a4i [(2,0),(4,0),(5,0),(6,0),(8,0),(9,0)]) (.seq (.reg a7V) (.seq (.reg a70) (.cond (tm 127) (.seq (.reg b6A) .ret) .skip)))))))))
theorem f42:j9 Tryz.prog ((rBd (bB (sR (sL (sR (sR (sR (sR (sR (sR B6)))))))))))=a78:=by kernel_rfl
theorem f4x:cO (rF (bB (sR (sL (sR (sR (sR (sR (sR (sR B6))))))))))=(tm 82):=by kernel_rfl
theorem f4q:(rPs (bB (sR (sL (sR (sR (sR (sR (sR (sR B6)))))))))).toList= [83] :=by kernel_rfl
noncomputable def b6y:CC:=(.seq (.reg a76) .ret)
theorem f4Z:j9 Tryz.prog ((sR (sR (sR (sR (sR (sR (sR B6))))))))=b6y:=by kernel_rfl
noncomputable def b53:Code:=(.seq (sL B6) (.seq (sL (sR B6)) (.seq (sL (sR (sR B6))) (.seq (sL (sR (sR (sR B6)))) (.seq (sL (sR (sR (sR (sR B6))))) (.seq (sL (sR (sR (sR (sR (sR B6)))))) (.seq (.seq (sL (sL (sR (sR (sR (sR (sR (sR B6)))))))) (.block 0 (.rangeFunc (rF (bB (sR (sL (sR (sR (sR (sR (sR (sR B6)))))))))) (rPs (bB (sR (sL (sR (sR (sR (sR (sR (sR B6)))))))))) (rAs (bB (sR (sL (sR (sR (sR (sR (sR (sR B6)))))))))) (rBd (bB (sR (sL (sR (sR (sR (sR (sR (sR B6))))))))))))) (sR (sR (sR (sR (sR (sR (sR B6))))))))))))))
theorem f4c:Tryz.f73.body=some b53:=by kernel_rfl
theorem f4b:y9 Tryz.f73.ntmps b53=true:=by kernel_rfl
theorem f4B:A7 (pth 73) tb.fs=some Tryz.f73:=by rw[i7];exact a0H Tryz.func73
theorem f4i:Tryz.f73.results.toList= [.cell 12 j8] :=rfl
def d7o:List CO:= [
  O 8 (.mv (.cst (iv 0)))]
def e3L:List CO:= [
  mV 20 0,
 O 21 (.eqp false (B .eql G3) (tm 20) (.cst s9))]
def g3x:List CO:= [
  O 8 (.mv (.cst (iv 1)))]
def d6I:List CO:= [
  mV 23 0,
 nL 24 23,
 fA 25 1 24,
 O 26 (.loadN 12 (tm 25)),
 mV 27 2,
 C 28 a4u [(tm 26),(tm 27)],
 mV 22 28,
 eX 29 0 22,
 eX 30 1 22,
 eX 31 2 22,
 mV 9 29,
 mV 10 30,
 mV 11 31]
def d9R:List CO:= [
  mV 33 0,
 nL 34 33,
 fA 35 1 34,
 O 36 (.loadN 12 (tm 35)),
 C 37 W8 [(tm 36)],
 mV 32 37,
 eX 38 0 32,
 eX 39 1 32,
 mV 12 38,
 mV 13 39]
def e8F:List CO:= [
  mV 40 11,
 O 41 (.ne (B .neq j8) (tm 40) (.cst (iv 0))),
 mV 42 41,
 G 43 42 false (.mv (tm 13)),
 G 44 42 false (.ne (B .neq j8) (tm 43) (.cst (iv 0))),
 O 45 (.pick (tm 42) (.cst (.b true)) (tm 44)),
 mV 46 45,
 G 47 46 false (.mv (tm 3)),
 G 48 46 false (.lt (B .lss d5) (tm 47) (.cst (iv 0))),
 O 49 (.pick (tm 46) (.cst (.b true)) (tm 48)),
 mV 50 49,
 G 51 50 false (.mv (tm 3)),
 G 52 50 false (.mv (tm 12)),
 G 53 50 false (.gt (B .gtr d5) (tm 51) (tm 52)),
 O 54 (.pick (tm 50) (.cst (.b true)) (tm 53))]
def g4N:List CO:= [
  O 8 (.mv (.cst (iv 2)))]
def e7o:List CO:= [
  mV 55 3,
 mV 56 0,
 nL 57 56,
 fA 58 1 57,
 fA 59 0 58,
 lD 60 59,
 O 61 (.add (B .add d5) (tm 55) (tm 60)),
 O 62 (.sub (B .sub d5) (tm 61) (.cst (iv 1))),
 mV 63 0,
 nL 64 63,
 fA 65 1 64,
 fA 66 0 65,
 lD 67 66,
 O 68 (.quo (B .quo d5) (tm 62) (tm 67)),
 mV 14 68]
def e2G:List CO:= [
  O 69 (.mv (.cst (iv 0)))]
def b1x:List CO:= [
  O 70 (.lt (B .lss d5) (tm 69) (.cst (iv 8)))]
def c4K:List CO:= [
  mV 71 69,
 mV 15 71]
def c0q:List CO:= [
  mV 72 0,
 mV 73 1,
 mV 74 2,
 mV 75 15,
 O 76 (.build [(iv 0),(iv 0),(iv 0)] [(0,1,(tm 74)),(2,1,(tm 75))]),
 mV 77 15,
 mV 78 14,
 C 79 R0 [(tm 72),(tm 73),(tm 76),(tm 77),(tm 78),(.cst (iv 0))],
 mV 16 79]
def c99:List CO:= [
  mV 80 16,
 O 81 (.ne (B .neq j8) (tm 80) (.cst (iv 0)))]
def g0s:List CO:= [
  mV 82 16,
 mV 8 82]
def d1Y:List CO:= [
  O 83 (.add (B .add d5) (tm 69) (.cst (iv 1))),
 mV 69 83]
def d2s:List CO:= [
  mV 84 0,
 mV 85 1,
 mV 86 2,
 O 87 (.build [(iv 0),(iv 0),(iv 0)] [(0,1,(tm 86)),(2,1,(.cst (iv 8)))]),
 mV 88 14,
 C 89 R0 [(tm 84),(tm 85),(tm 87),(.cst (iv 8)),(tm 88),(.cst (iv 1))],
 mV 17 89]
def c6C:List CO:= [
  mV 90 17,
 O 91 (.ne (B .neq j8) (tm 90) (.cst (iv 0)))]
def g1U:List CO:= [
  mV 92 17,
 mV 8 92]
def c6h:List CO:= [
  mV 93 0,
 mV 94 1,
 mV 95 2,
 O 96 (.build [(iv 0),(iv 0),(iv 0)] [(0,1,(tm 95)),(2,1,(.cst (iv 9)))]),
 mV 97 0,
 nL 98 97,
 fA 99 13 98,
 lD 100 99,
 O 101 (.add (B .add d5) (.cst (iv 8)) (tm 100)),
 mV 102 14,
 C 103 R0 [(tm 93),(tm 94),(tm 96),(tm 101),(tm 102),(.cst (iv 2))],
 mV 18 103]
def c8e:List CO:= [
  mV 104 18,
 O 105 (.ne (B .neq j8) (tm 104) (.cst (iv 0)))]
def g1s:List CO:= [
  mV 106 18,
 mV 8 106]
def c04:List CO:= [
  mV 108 0,
 mV 109 1,
 mV 110 2,
 C 111 R1 [(tm 108),(tm 109),(tm 110)],
 mV 107 111,
 eX 112 0 107,
 eX 113 1 107,
 O 19 (.alloc A3 13 [(iv 0),(iv 0),(iv 0),(iv 0),(iv 0),(iv 0),(iv 0),(iv 0),(iv 0),(iv 0),(iv 0),(iv 0),(iv 0)]),
 .op none none (.store 13 (tm 19) (tm 112)),
 mV 11 113]
def c6R:List CO:= [
  mV 114 11,
 O 115 (.ne (B .neq j8) (tm 114) (.cst (iv 0)))]
def g1P:List CO:= [
  mV 116 11,
 mV 8 116]
def c7e:List CO:= [
  mV 117 3,
 fA 118 2 19,
 .op none none (.store 1 (tm 118) (tm 117))]
def c6Z:List CO:= [
  mV 119 0,
 mV 120 1,
 mV 121 2,
 O 122 (.loadN 13 (tm 19)),
 C 123 a3V [(tm 119),(tm 120),(tm 121),(tm 122)],
 mV 8 123]
def a5Q:List CO:= [
  O 4 (.mv (.cst (iv 0)))]
def a5H:List CO:= [
  mV 9 1,
 mV 10 0,
 nL 11 10,
 fA 12 2 11,
 fA 13 0 12,
 lD 14 13,
 O 15 (.rem (B .rem d5) (tm 9) (tm 14)),
 mV 5 15]
def a6h:List CO:= [
  mV 16 5,
 O 17 (.eq (B .eql d5) (tm 16) (.cst (iv 0)))]
def d7l:List CO:= [
  O 4 (.mv (.cst (iv 0)))]
def b1f:List CO:= [
  mV 19 0,
 nL 20 19,
 fA 21 1 20,
 lD 22 21,
 mV 23 0,
 nL 24 23,
 fA 25 0 24,
 lD 26 25,
 mV 27 0,
 nL 28 27,
 fA 29 14 28,
 lD 30 29,
 mV 31 1,
 mV 32 0,
 nL 33 32,
 fA 34 2 33,
 fA 35 0 34,
 lD 36 35,
 O 37 (.quo (B .quo d5) (tm 31) (tm 36)),
 C 38 a3U [(tm 22),(tm 26),(tm 30),(tm 37)],
 mV 18 38,
 eX 39 0 18,
 eX 40 1 18,
 mV 6 39,
 mV 7 40]
def b2Y:List CO:= [
  mV 41 7,
 O 42 (.ne (B .neq j8) (tm 41) (.cst (iv 0))),
 mV 43 42,
 G 44 43 false (.mv (tm 6)),
 G 45 43 false (.eq (B .eql d5) (tm 44) (.cst (iv 0))),
 O 46 (.pick (tm 43) (.cst (.b true)) (tm 45))]
def e48:List CO:= [
  mV 47 7,
 mV 4 47]
def e0c:List CO:= [
  mV 49 0,
 nL 50 49,
 fA 51 0 50,
 lD 52 51,
 mV 53 6,
 C 54 O6 [(tm 52),(tm 53)],
 mV 48 54,
 eX 55 0 48,
 eX 56 1 48,
 mV 8 55,
 mV 7 56]
def d5g:List CO:= [
  mV 57 7,
 O 58 (.ne (B .neq j8) (tm 57) (.cst (iv 0)))]
def g3K:List CO:= [
  mV 59 7,
 mV 4 59]
def c6X:List CO:= [
  mV 60 8,
 mV 61 5,
 O 62 (.sl 1 false (tm 60) (some (tm 61)) none none),
 .op none none (.clrs [(.y 0)] (tm 62))]
def c4t:List CO:= [
  mV 63 0,
 mV 64 6,
 mV 65 8,
 C 66 a7t [(tm 63),(tm 64),(tm 65)],
 mV 4 66]
def a5S:List CO:= [
  O 4 (.mv (.cst j7)),
 O 5 (.mv (.cst (iv 0)))]
def a6a:List CO:= [
  mV 11 0,
 C 12 a3I [(tm 11)],
 mV 6 12]
def a5I:List CO:= [
  mV 13 6,
 O 14 (.ne (B .neq j8) (tm 13) (.cst (iv 0)))]
def g3g:List CO:= [
  mV 15 6,
 O 4 (.mv (.cst j7)),
 mV 5 15]
def a6j:List CO:= [
  mV 16 0,
 nL 17 16,
 fA 18 1 17,
 lD 19 18,
 mV 20 0,
 nL 21 20,
 fA 22 2 21,
 lD 23 22,
 O 24 (.bslice b6G 2 2 [b35] [(0,1,(tm 19)),(1,1,(tm 23))]),
 O 25 (.len false (tm 24)),
 O 26 (.mv (.cst (iv 0)))]
def a0Q:List CO:= [
  O 27 (.lt (B .lss d5) (tm 26) (tm 25))]
def a1z:List CO:= [
  O 28 (.iaS 1 (tm 24) (tm 26)),
 lD 29 28,
 mV 8 29]
def a1y:List CO:= [
  mV 31 8,
 mV 32 1,
 O 33 (.look (some .i64) j7 true (tm 31) (tm 32)),
 mV 30 33,
 eX 34 0 30,
 eX 35 1 30,
 mV 9 34,
 mV 10 35]
def a1H:List CO:= [
  mV 36 10]
def b1w:List CO:= [
  mV 37 9,
 C 38 a0n [(tm 37)],
 mV 4 38,
 O 5 (.mv (.cst (iv 0)))]
def a4X:List CO:= [
  O 39 (.add (B .add d5) (tm 26) (.cst (iv 1))),
 mV 26 39]
def d2C:List CO:= [
  mV 40 0,
 nL 41 40,
 fA 42 0 41,
 lD 43 42,
 mV 44 1,
 C 45 b3J [(tm 43),(tm 44)],
 eX 46 0 45,
 eX 47 1 45,
 mV 4 46,
 mV 5 47]
def b2x:List CO:= [
  mV 8 2,
 O 9 (.len false (tm 8)),
 O 10 (.mv (.cst (iv 0)))]
def a1K:List CO:= [
  O 11 (.lt (B .lss d5) (tm 10) (tm 9))]
def a59:List CO:= [
  O 12 (.iaS 1 (tm 8) (tm 10)),
 lD 13 12,
 mV 7 13]
def a5T:List CO:= [
  mV 14 7,
 mV 15 0,
 mV 16 1,
 C 17 a3L [(tm 15),(tm 16)],
 nL 18 14,
 .op none none (.store 1 (tm 18) (tm 17))]
def a6n:List CO:= [
  O 19 (.add (B .add d5) (tm 10) (.cst (iv 1))),
 mV 10 19]
def e9O:List CO:= [
  O 4 (.mv (.cst (iv 0)))]
def d5n:List CO:= [
  mV 8 0,
 nL 9 8,
 fA 10 0 9,
 lD 11 10,
 mV 12 0,
 nL 13 12,
 fA 14 1 13,
 lD 15 14,
 mV 16 1,
 C 17 a4w [(tm 11),(tm 15),(tm 16)],
 mV 7 17,
 eX 18 0 7,
 eX 19 1 7,
 mV 5 18,
 mV 6 19]
def d9b:List CO:= [
  mV 20 0,
 nL 21 20,
 fA 22 1 21,
 lD 23 22,
 mV 24 1,
 O 25 (.add (B .add d5) (tm 23) (tm 24)),
 nL 26 20,
 fA 27 1 26,
 .op none none (.store 1 (tm 27) (tm 25))]
def d9Q:List CO:= [
  mV 28 5,
 mV 4 28]
def e6M:List CO:= [
  O 4 (.box A3 (tm 0)),
 O 8 (.alloc A3 13 [(iv 0),(iv 0),(iv 0),(iv 0),(iv 0),(iv 0),(iv 0),(iv 0),(iv 0),(iv 0),(iv 0),(iv 0),(iv 0)]),
 O 9 (.mv (.cst (iv 0)))]
def e28:List CO:= [
  mV 11 3,
 O 12 (.ne (B .neq j8) (tm 11) (.cst (iv 0))),
 mV 13 12,
 G 14 13 false (.mv (tm 1)),
 G 15 13 false (.mv (tm 2)),
 .call (some (pth 16)) (some (pth 13,false)) (.cst (.func a7c [])) [(tm 14),(tm 15)],
 G 17 13 false (.un .not (tm 16)),
 O 18 (.pick (tm 13) (.cst (.b true)) (tm 17))]
def g3w:List CO:= [
  O 10 (.alloc A3 13 [(iv 0),(iv 0),(iv 0),(iv 0),(iv 0),(iv 0),(iv 0),(iv 0),(iv 0),(iv 0),(iv 0),(iv 0),(iv 0)])]
def g4L:List CO:= [
  O 19 (.loadN 13 (tm 10)),
 .op none none (.store 13 (tm 8) (tm 19)),
 O 9 (.mv (.cst (iv 4)))]
def e9E:List CO:= [
  O 20 (.loadN 13 (tm 4)),
 .op none none (.store 13 (tm 8) (tm 20)),
 O 9 (.mv (.cst (iv 0)))]
def d3Q:List CO:= [
  mV 9 1,
 O 10 (.mksl l3 1 1 [(.y 0)] (tm 9) (tm 9)),
 mV 11 1,
 mV 12 2,
 C 13 a1Z [(tm 10),(.cst (iv 0)),(tm 11),(tm 12)],
 mV 8 13,
 eX 14 0 8,
 eX 15 1 8,
 mV 6 14,
 mV 7 15]
def d5T:List CO:= [
  mV 16 7,
 O 17 (.ne (B .neq j8) (tm 16) (.cst (iv 0))),
 mV 18 17,
 G 19 18 true (.mv (tm 0)),
 G 20 18 true (.nil (tm 19)),
 G 21 18 true (.fa 1 (tm 20)),
 G 22 18 true (.load (tm 21)),
 G 23 18 true (.eq (B .eql j8) (tm 22) (.cst (iv 0))),
 O 24 (.pick (tm 18) (tm 23) (.cst (.b false)))]
def g2k:List CO:= [
  mV 25 0,
 mV 26 7,
 nL 27 25,
 fA 28 1 27,
 .op none none (.store 1 (tm 28) (tm 26))]
def e0X:List CO:= [
  mV 29 0,
 mV 30 0,
 nL 31 30,
 fA 32 0 31,
 lD 33 32,
 mV 34 6,
 O 35 (.app l3 1 1 [(.y 0)] (tm 33) (tm 34)),
 nL 36 29,
 fA 37 0 36,
 .op none none (.store 1 (tm 37) (tm 35))]
def b20:List CO:= [
  mV 8 2,
 O 9 (.len false (tm 8)),
 O 10 (.mv (.cst (iv 0)))]
def a3g:List CO:= [
  O 11 (.lt (B .lss d5) (tm 10) (tm 9))]
def b2o:List CO:= [
  O 12 (.iaS 1 (tm 8) (tm 10)),
 lD 13 12,
 mV 7 13]
def b1v:List CO:= [
  mV 14 0,
 mV 15 1,
 mV 16 7,
 C 17 a2a [(tm 14),(tm 15),(tm 16)]]
def b1T:List CO:= [
  O 18 (.add (B .add d5) (tm 10) (.cst (iv 1))),
 mV 10 18]
def d4R:List CO:= [
  O 4 (.mv (.cst j7)),
 O 5 (.mv (.cst (iv 0)))]
def d3k:List CO:= [
  mV 6 0,
 nL 7 6,
 fA 8 1 7,
 lD 9 8,
 O 10 (.ne (B .neq j8) (tm 9) (.cst (iv 0)))]
def g3k:List CO:= [
  mV 11 0,
 nL 12 11,
 fA 13 1 12,
 lD 14 13,
 O 4 (.mv (.cst j7)),
 mV 5 14]
def e5s:List CO:= [
  mV 15 0,
 nL 16 15,
 fA 17 0 16,
 lD 18 17,
 mV 19 1,
 mV 20 0,
 nL 21 20,
 fA 22 0 21,
 lD 23 22,
 O 24 (.len false (tm 23)),
 O 25 (.sub (B .sub d5) (tm 19) (tm 24)),
 O 26 (.appz l3 1 1 [(.y 0)] (tm 18) (tm 25)),
 mV 4 26,
 O 5 (.mv (.cst (iv 0)))]
def d9p:List CO:= [
  O 2 (.mv (.cst j7))]
def e3u:List CO:= [
  mV 3 0,
 O 4 (.eq (B .eql C7) (tm 3) (.cst j7))]
def g4O:List CO:= [
  O 2 (.mv (.cst j7))]
def e6z:List CO:= [
  O 5 (.bslice l3 0 0 [(.y 0)] []),
 mV 6 0,
 O 7 (.app l3 1 1 [(.y 0)] (tm 5) (tm 6)),
 mV 2 7]
def b2U:List CO:= [
  O 10 (.mv (.cst (iv 0)))]
def b2Q:List CO:= [
  mV 12 0,
 C 13 a3I [(tm 12)],
 mV 11 13]
def b2d:List CO:= [
  mV 15 11,
 O 16 (.ne (B .neq j8) (tm 15) (.cst (iv 0))),
 mV 14 16]
def g4D:List CO:= [
  mV 17 11,
 mV 10 17]
def b1h:List CO:= [
  mV 19 3,
 mV 20 2,
 mV 21 0,
 nL 22 21,
 fA 23 0 22,
 lD 24 23,
 nL 25 24,
 fA 26 3 25,
 O 27 (.loadN 12 (tm 26)),
 .call (some (pth 28)) none (tm 20) [(tm 27)],
 O 29 (.lt (B .lss d5) (tm 19) (tm 28)),
 mV 30 29,
 G 31 30 false (.mv (tm 3)),
 G 32 30 false (.mv (tm 0)),
 G 33 30 false (.nil (tm 32)),
 G 34 30 false (.fa 0 (tm 33)),
 G 35 30 false (.load (tm 34)),
 G 36 30 false (.nil (tm 35)),
 G 37 30 false (.fa 3 (tm 36)),
 G 38 30 false (.fa 1 (tm 37)),
 G 39 30 false (.load (tm 38)),
 G 40 30 false (.ge (B .geq d5) (tm 31) (tm 39)),
 O 41 (.pick (tm 30) (.cst (.b true)) (tm 40)),
 mV 18 41]
def g4x:List CO:= [
  O 10 (.mv (.cst (iv 2)))]
def b2g:List CO:= [
  mV 43 4,
 O 44 (.len false (tm 43)),
 mV 45 0,
 nL 46 45,
 fA 47 0 46,
 lD 48 47,
 nL 49 48,
 fA 50 3 49,
 fA 51 0 50,
 lD 52 51,
 O 53 (.ne (B .neq d5) (tm 44) (tm 52)),
 mV 42 53]
def g4C:List CO:= [
  O 10 (.mv (.cst (iv 1)))]
def b1D:List CO:= [
  mV 54 0,
 mV 55 3,
 C 56 a6O [(tm 54),(tm 55)]]
def b2k:List CO:= [
  mV 57 1,
 mV 58 0,
 .call (some (pth 59)) none (tm 57) [(tm 58)],
 mV 60 3,
 mV 61 4,
 C 62 a0n [(tm 61)],
 .op none none (.mupd (some .i64) (tm 59) (tm 60) (tm 62))]
def b0a:List CO:= [
  O 10 (.mv (.cst (iv 0)))]
def d9c:List CO:= [
  O 2 (.mv (.cst b35))]
def d3D:List CO:= [
  mV 3 0,
 nL 4 3,
 fA 5 1 4,
 lD 6 5,
 mV 2 6]
def e7K:List CO:= [
  O 1 (.box v7 (tm 0)),
 O 2 (.mv (.cst (iv 0)))]
def d9t:List CO:= [
  fA 3 5 1,
 lD 4 3,
 mV 2 4]
def b1t:List CO:= [
  O 6 (.mv (.cst (.b false)))]
def b1R:List CO:= [
  mV 7 0,
 mV 8 1,
 O 9 (.ge (B .geq d5) (tm 7) (tm 8)),
 mV 10 9,
 G 11 10 true (.mv (tm 0)),
 G 12 10 true (.mv (tm 2)),
 G 13 10 true (.le (B .leq d5) (tm 11) (tm 12)),
 O 14 (.pick (tm 10) (tm 13) (.cst (.b false))),
 mV 6 14]
def e5J:List CO:= [
  O 2 (.mv (.cst (.b false)))]
def e3E:List CO:= [
  mV 3 0,
 O 4 (.ge (B .geq a0C) (tm 3) (.cst (.p (.int .i32 (97))))),
 mV 5 4,
 G 6 5 true (.mv (tm 0)),
 G 7 5 true (.le (B .leq a0C) (tm 6) (.cst (.p (.int .i32 (122))))),
 O 8 (.pick (tm 5) (tm 7) (.cst (.b false))),
 mV 9 8,
 G 10 9 false (.mv (tm 0)),
 G 11 9 false (.ge (B .geq a0C) (tm 10) (.cst (.p (.int .i32 (48))))),
 G 12 9 false (.mv (tm 11)),
 G 13 12 true (.mv (tm 0)),
 G 14 12 true (.le (B .leq a0C) (tm 13) (.cst (.p (.int .i32 (57))))),
 G 15 9 false (.pick (tm 12) (tm 14) (.cst (.b false))),
 O 16 (.pick (tm 9) (.cst (.b true)) (tm 15)),
 mV 17 16,
 G 18 17 false (.mv (tm 0)),
 G 19 17 false (.eq (B .eql a0C) (tm 18) (.cst (.p (.int .i32 (46))))),
 O 20 (.pick (tm 17) (.cst (.b true)) (tm 19)),
 mV 21 20,
 G 22 21 false (.mv (tm 0)),
 G 23 21 false (.eq (B .eql a0C) (tm 22) (.cst (.p (.int .i32 (95))))),
 O 24 (.pick (tm 21) (.cst (.b true)) (tm 23)),
 mV 25 24,
 G 26 25 false (.mv (tm 0)),
 G 27 25 false (.eq (B .eql a0C) (tm 26) (.cst (.p (.int .i32 (45))))),
 O 28 (.pick (tm 25) (.cst (.b true)) (tm 27)),
 O 29 (.un .not (tm 28)),
 mV 2 29]
def d6G:List CO:= [
  O 4 (.mv (.cst (.b false)))]
def e0s:List CO:= [
  mV 5 0,
 mV 6 1,
 C 7 b3D [(tm 5),(tm 6)],
 O 8 (.ge (B .geq d5) (tm 7) (.cst (iv 0))),
 mV 4 8]
def e6R:List CO:= [
  fA 5 0 1,
 lD 6 5,
 lD 7 2,
 lD 8 3,
 mV 9 0,
 C 10 a09 [(tm 6),(tm 7),(tm 8),(tm 9)]]
def e6J:List CO:= [
  O 8 (.mv (.cst (iv 0)))]
def b2f:List CO:= [
  mV 11 8,
 mV 12 2,
 O 13 (.lt (B .lss d5) (tm 11) (tm 12))]
def d62:List CO:= [
  mV 14 1,
 mV 15 8,
 O 16 (.add (B .add d5) (tm 14) (tm 15)),
 mV 17 0,
 O 18 (.rem (B .rem d5) (tm 16) (tm 17)),
 mV 9 18]
def d8u:List CO:= [
  mV 19 0,
 mV 20 9,
 mV 21 2,
 O 22 (.add (B .add d5) (tm 20) (tm 21)),
 mV 23 8,
 O 24 (.sub (B .sub d5) (tm 22) (tm 23)),
 O 25 (.min (tm 19) (tm 24)),
 mV 10 25]
def e1O:List CO:= [
  mV 26 3,
 mV 27 1,
 mV 28 8,
 O 29 (.add (B .add d5) (tm 27) (tm 28)),
 mV 30 0,
 O 31 (.quo (B .quo d5) (tm 29) (tm 30)),
 mV 32 9,
 mV 33 10,
 mV 34 8,
 O 35 (.build [(iv 0),(iv 0),(iv 0),(iv 0)] [(0,1,(tm 31)),(1,1,(tm 32)),(2,1,(tm 33)),(3,1,(tm 34))]),
 .call (some (pth 36)) none (tm 26) [(tm 35)],
 O 37 (.un .not (tm 36))]
def e7j:List CO:= [
  mV 38 8,
 mV 39 10,
 mV 40 9,
 O 41 (.sub (B .sub d5) (tm 39) (tm 40)),
 O 42 (.add (B .add d5) (tm 38) (tm 41)),
 mV 8 42]
def d6E:List CO:= [
  O 8 (.mv (.cst (iv 0))),
 O 9 (.mv (.cst (iv 0)))]
def d3m:List CO:= [
  mV 14 0,
 O 15 (.eqp false (B .eql G3) (tm 14) (.cst s9))]
def g3S:List CO:= [
  O 8 (.mv (.cst (iv 0))),
 O 9 (.mv (.cst (iv 1)))]
def d4E:List CO:= [
  mV 17 0,
 nL 18 17,
 fA 19 1 18,
 O 20 (.loadN 12 (tm 19)),
 mV 21 3,
 C 22 a6X [(tm 20),(tm 21)],
 mV 16 22,
 eX 23 0 16,
 eX 24 1 16,
 mV 10 23,
 mV 11 24]
def d4u:List CO:= [
  mV 25 11,
 O 26 (.ne (B .neq j8) (tm 25) (.cst (iv 0)))]
def g2u:List CO:= [
  mV 27 11,
 O 8 (.mv (.cst (iv 0))),
 mV 9 27]
def e4e:List CO:= [
  mV 28 2,
 O 29 (.build [(iv 0),(iv 0),(iv 0)] [(0,1,(tm 28))]),
 O 12 (.alloc D6 3 [(iv 0),(iv 0),(iv 0)]),
 .op none none (.store 3 (tm 12) (tm 29))]
def d4W:List CO:= [
  O 13 (.mv (.cst (iv 0)))]
def d4o:List CO:= [
  mV 30 10,
 O 31 (.len false (tm 30)),
 O 32 (.mv (.cst (iv 0)))]
def a6f:List CO:= [
  O 33 (.lt (B .lss d5) (tm 32) (tm 31))]
def b0I:List CO:= [
  O 34 (.iaS 1 (tm 30) (tm 32)),
 lD 35 34,
 fA 36 2 12,
 .op none none (.store 1 (tm 36) (tm 35))]
def b0X:List CO:= [
  mV 38 0,
 mV 39 1,
 O 40 (.loadN 3 (tm 12)),
 C 41 a0V [(tm 38),(tm 39),(tm 40)],
 mV 37 41,
 eX 42 0 37,
 eX 43 1 37,
 mV 13 42,
 mV 11 43]
def b0z:List CO:= [
  mV 44 11,
 O 45 (.ne (B .neq j8) (tm 44) (.cst (iv 0)))]
def g0o:List CO:= [
  mV 46 11,
 O 8 (.mv (.cst (iv 0))),
 mV 9 46]
def a9W:List CO:= [
  mV 47 13,
 O 48 (.eq (B .eql d5) (tm 47) (.cst (iv 0)))]
def c7M:List CO:= [
  mV 49 13,
 fA 50 1 12,
 .op none none (.store 1 (tm 50) (tm 49))]
def c17:List CO:= [
  O 51 (.add (B .add d5) (tm 32) (.cst (iv 1))),
 mV 32 51]
def b0v:List CO:= [
  mV 52 13,
 mV 8 52,
 O 9 (.mv (.cst (iv 0)))]
def d3x:List CO:= [
  O 4 (.mv (.cst (iv 0)))]
def b2G:List CO:= [
  mV 6 4,
 lD 7 1,
 O 8 (.len false (tm 7)),
 O 9 (.lt (B .lss d5) (tm 6) (tm 8))]
def d6f:List CO:= [
  lD 13 2,
 lD 14 1,
 mV 15 4,
 O 16 (.sl 1 false (tm 14) (some (tm 15)) none none),
 O 17 (.len false (tm 16)),
 O 18 (.min (tm 13) (tm 17)),
 mV 5 18]
def e4l:List CO:= [
  mV 19 0,
 lD 20 1,
 mV 21 4,
 mV 22 4,
 mV 23 5,
 O 24 (.add (B .add d5) (tm 22) (tm 23)),
 mV 25 4,
 mV 26 5,
 O 27 (.add (B .add d5) (tm 25) (tm 26)),
 O 28 (.sl 1 true (tm 20) (some (tm 21)) (some (tm 24)) (some (tm 27))),
 .call (some (pth 29)) none (tm 19) [(tm 28)],
 O 30 (.un .not (tm 29))]
def e3z:List CO:= [
  mV 10 4,
 lD 11 2,
 O 12 (.add (B .add d5) (tm 10) (tm 11)),
 mV 4 12]
def e5c:List CO:= [
  O 6 (.mv (.cst (tv []))),
 O 7 (.mv (.cst (iv 0)))]
def d5E:List CO:= [
  mV 14 0,
 mV 15 1,
 mV 16 2,
 C 17 b3B [(tm 14),(tm 15),(tm 16)],
 mV 13 17,
 eX 18 0 13,
 eX 19 1 13,
 mV 8 18,
 mV 9 19]
def e8n:List CO:= [
  mV 20 9,
 O 21 (.ne (B .neq j8) (tm 20) (.cst (iv 0)))]
def g3U:List CO:= [
  mV 22 9,
 O 6 (.mv (.cst (tv []))),
 mV 7 22]
def e8c:List CO:= [
  mV 24 8,
 O 25 (.b2s (tm 24)),
 C 26 b3i [(tm 25),(.cst (tv [0]))],
 mV 23 26,
 eX 27 0 23,
 eX 28 1 23,
 eX 29 2 23,
 mV 10 27,
 mV 11 28,
 mV 12 29]
def e7e:List CO:= [
  mV 30 11,
 C 31 b3G [(tm 30),(.cst (tv [0]))],
 O 32 (.ne (B .neq A9) (tm 31) (.cst (tv [])))]
def g2N:List CO:= [
  O 6 (.mv (.cst (tv []))),
 O 7 (.mv (.cst (iv 4)))]
def e6x:List CO:= [
  mV 33 10,
 mV 6 33,
 O 7 (.mv (.cst (iv 0)))]
def d4t:List CO:= [
  O 4 (.box x7 (tm 0)),
 O 8 (.alloc x7 2 [(iv 0),(tv [])]),
 O 9 (.mv (.cst (iv 0)))]
def d4d:List CO:= [
  mV 11 3,
 O 12 (.ne (B .neq j8) (tm 11) (.cst (iv 0))),
 mV 13 12,
 G 14 13 false (.mv (tm 1)),
 G 15 13 false (.mv (tm 2)),
 .call (some (pth 16)) (some (pth 13,false)) (.cst (.func a7c [])) [(tm 14),(tm 15)],
 G 17 13 false (.un .not (tm 16)),
 O 18 (.pick (tm 13) (.cst (.b true)) (tm 17))]
def g3C:List CO:= [
  O 10 (.alloc x7 2 [(iv 0),(tv [])])]
def g4b:List CO:= [
  O 19 (.loadN 2 (tm 10)),
 .op none none (.store 2 (tm 8) (tm 19)),
 O 9 (.mv (.cst (iv 4)))]
def e5L:List CO:= [
  O 20 (.loadN 2 (tm 4)),
 .op none none (.store 2 (tm 8) (tm 20)),
 O 9 (.mv (.cst (iv 0)))]
def b2I:List CO:= [
  mV 10 1,
 O 11 (.add (B .add d5) (tm 10) (.cst (iv 1))),
 mV 8 11]
def a6q:List CO:= [
  mV 12 8,
 mV 13 2,
 O 14 (.lt (B .lss d5) (tm 12) (tm 13))]
def e2w:List CO:= [
  mV 17 8,
 mV 9 17]
def a6o:List CO:= [
  mV 18 9,
 mV 19 1,
 O 20 (.gt (B .gtr d5) (tm 18) (tm 19)),
 mV 21 20,
 G 22 21 true (.mv (tm 3)),
 G 23 21 true (.mv (tm 0)),
 G 24 21 true (.mv (tm 9)),
 G 25 21 true (.iaS 2 (tm 23) (tm 24)),
 G 26 21 true (.loadN 2 (tm 25)),
 G 27 21 true (.mv (tm 0)),
 G 28 21 true (.mv (tm 9)),
 G 29 21 true (.sub (B .sub d5) (tm 28) (.cst (iv 1))),
 G 30 21 true (.iaS 2 (tm 27) (tm 29)),
 G 31 21 true (.loadN 2 (tm 30)),
 .call (some (pth 32)) (some (pth 21,true)) (tm 22) [(tm 26),(tm 31)],
 G 33 21 true (.lt (B .lss d5) (tm 32) (.cst (iv 0))),
 O 34 (.pick (tm 21) (tm 33) (.cst (.b false)))]
def d7C:List CO:= [
  mV 37 0,
 mV 38 9,
 mV 39 0,
 mV 40 9,
 O 41 (.sub (B .sub d5) (tm 40) (.cst (iv 1))),
 mV 42 0,
 mV 43 9,
 O 44 (.sub (B .sub d5) (tm 43) (.cst (iv 1))),
 O 45 (.iaS 2 (tm 42) (tm 44)),
 O 46 (.loadN 2 (tm 45)),
 mV 47 0,
 mV 48 9,
 O 49 (.iaS 2 (tm 47) (tm 48)),
 O 50 (.loadN 2 (tm 49)),
 O 51 (.iaS 2 (tm 37) (tm 38)),
 .op none none (.store 2 (tm 51) (tm 46)),
 O 52 (.iaS 2 (tm 39) (tm 41)),
 .op none none (.store 2 (tm 52) (tm 50))]
def d9d:List CO:= [
  mV 35 9,
 O 36 (.sub (B .sub d5) (tm 35) (.cst (iv 1))),
 mV 9 36]
def b1n:List CO:= [
  mV 15 8,
 O 16 (.add (B .add d5) (tm 15) (.cst (iv 1))),
 mV 8 16]
def a5V:List CO:= [
  mV 25 2,
 mV 26 1,
 O 27 (.sub (B .sub d5) (tm 25) (tm 26)),
 O 28 (.eq (B .eql d5) (tm 27) (.cst (iv 1)))]
def d7s:List CO:= [
  mV 29 2,
 mV 10 29]
def e0G:List CO:= [
  mV 30 3,
 mV 11 30]
def a6F:List CO:= [
  mV 31 10,
 mV 32 11,
 O 33 (.lt (B .lss d5) (tm 31) (tm 32))]
def b1X:List CO:= [
  mV 34 10,
 mV 35 11,
 O 36 (.add (B .add d5) (tm 34) (tm 35)),
 O 37 (.convI .u64 (tm 36)),
 O 38 (.slow (B .shr a5n) (tm 37) (.cst (.p (.int .u64 (1))))),
 O 39 (.convI .i64 (tm 38)),
 mV 12 39]
def b1i:List CO:= [
  mV 40 4,
 mV 41 0,
 mV 42 12,
 O 43 (.iaS 2 (tm 41) (tm 42)),
 O 44 (.loadN 2 (tm 43)),
 mV 45 0,
 mV 46 1,
 O 47 (.iaS 2 (tm 45) (tm 46)),
 O 48 (.loadN 2 (tm 47)),
 .call (some (pth 49)) none (tm 40) [(tm 44),(tm 48)],
 O 50 (.lt (B .lss d5) (tm 49) (.cst (iv 0)))]
def d41:List CO:= [
  mV 51 12,
 O 52 (.add (B .add d5) (tm 51) (.cst (iv 1))),
 mV 10 52]
def e5R:List CO:= [
  mV 53 12,
 mV 11 53]
def e2c:List CO:= [
  mV 54 1,
 mV 13 54]
def b1j:List CO:= [
  mV 55 13,
 mV 56 10,
 O 57 (.sub (B .sub d5) (tm 56) (.cst (iv 1))),
 O 58 (.lt (B .lss d5) (tm 55) (tm 57))]
def c2j:List CO:= [
  mV 61 0,
 mV 62 13,
 mV 63 0,
 mV 64 13,
 O 65 (.add (B .add d5) (tm 64) (.cst (iv 1))),
 mV 66 0,
 mV 67 13,
 O 68 (.add (B .add d5) (tm 67) (.cst (iv 1))),
 O 69 (.iaS 2 (tm 66) (tm 68)),
 O 70 (.loadN 2 (tm 69)),
 mV 71 0,
 mV 72 13,
 O 73 (.iaS 2 (tm 71) (tm 72)),
 O 74 (.loadN 2 (tm 73)),
 O 75 (.iaS 2 (tm 61) (tm 62)),
 .op none none (.store 2 (tm 75) (tm 70)),
 O 76 (.iaS 2 (tm 63) (tm 65)),
 .op none none (.store 2 (tm 76) (tm 74))]
def d3a:List CO:= [
  mV 59 13,
 O 60 (.add (B .add d5) (tm 59) (.cst (iv 1))),
 mV 13 60]
def b0f:List CO:= [
  mV 77 3,
 mV 78 2,
 O 79 (.sub (B .sub d5) (tm 77) (tm 78)),
 O 80 (.eq (B .eql d5) (tm 79) (.cst (iv 1)))]
def c8r:List CO:= [
  mV 81 1,
 mV 14 81]
def c0u:List CO:= [
  mV 82 2,
 mV 15 82]
def a5b:List CO:= [
  mV 83 14,
 mV 84 15,
 O 85 (.lt (B .lss d5) (tm 83) (tm 84))]
def b0A:List CO:= [
  mV 86 14,
 mV 87 15,
 O 88 (.add (B .add d5) (tm 86) (tm 87)),
 O 89 (.convI .u64 (tm 88)),
 O 90 (.slow (B .shr a5n) (tm 89) (.cst (.p (.int .u64 (1))))),
 O 91 (.convI .i64 (tm 90)),
 mV 16 91]
def b03:List CO:= [
  mV 92 4,
 mV 93 0,
 mV 94 2,
 O 95 (.iaS 2 (tm 93) (tm 94)),
 O 96 (.loadN 2 (tm 95)),
 mV 97 0,
 mV 98 16,
 O 99 (.iaS 2 (tm 97) (tm 98)),
 O 100 (.loadN 2 (tm 99)),
 .call (some (pth 101)) none (tm 92) [(tm 96),(tm 100)],
 O 102 (.lt (B .lss d5) (tm 101) (.cst (iv 0))),
 O 103 (.un .not (tm 102))]
def c12:List CO:= [
  mV 104 16,
 O 105 (.add (B .add d5) (tm 104) (.cst (iv 1))),
 mV 14 105]
def c56:List CO:= [
  mV 106 16,
 mV 15 106]
def c5I:List CO:= [
  mV 107 2,
 mV 17 107]
def b0s:List CO:= [
  mV 108 17,
 mV 109 14,
 O 110 (.gt (B .gtr d5) (tm 108) (tm 109))]
def c98:List CO:= [
  mV 113 0,
 mV 114 17,
 mV 115 0,
 mV 116 17,
 O 117 (.sub (B .sub d5) (tm 116) (.cst (iv 1))),
 mV 118 0,
 mV 119 17,
 O 120 (.sub (B .sub d5) (tm 119) (.cst (iv 1))),
 O 121 (.iaS 2 (tm 118) (tm 120)),
 O 122 (.loadN 2 (tm 121)),
 mV 123 0,
 mV 124 17,
 O 125 (.iaS 2 (tm 123) (tm 124)),
 O 126 (.loadN 2 (tm 125)),
 O 127 (.iaS 2 (tm 113) (tm 114)),
 .op none none (.store 2 (tm 127) (tm 122)),
 O 128 (.iaS 2 (tm 115) (tm 117)),
 .op none none (.store 2 (tm 128) (tm 126))]
def d2z:List CO:= [
  mV 111 17,
 O 112 (.sub (B .sub d5) (tm 111) (.cst (iv 1))),
 mV 17 112]
def b0Z:List CO:= [
  mV 129 1,
 mV 130 3,
 O 131 (.add (B .add d5) (tm 129) (tm 130)),
 O 132 (.convI .u64 (tm 131)),
 O 133 (.slow (B .shr a5n) (tm 132) (.cst (.p (.int .u64 (1))))),
 O 134 (.convI .i64 (tm 133)),
 mV 18 134]
def a96:List CO:= [
  mV 135 18,
 mV 136 2,
 O 137 (.add (B .add d5) (tm 135) (tm 136)),
 mV 19 137]
def b0J:List CO:= [
  O 20 (.mv (.cst (iv 0))),
 O 21 (.mv (.cst (iv 0)))]
def b08:List CO:= [
  mV 138 2,
 mV 139 18,
 O 140 (.gt (B .gtr d5) (tm 138) (tm 139))]
def c5k:List CO:= [
  mV 141 19,
 mV 142 3,
 O 143 (.sub (B .sub d5) (tm 141) (tm 142)),
 mV 20 143]
def d0H:List CO:= [
  mV 144 18,
 mV 21 144]
def c52:List CO:= [
  mV 145 1,
 mV 20 145]
def c5Y:List CO:= [
  mV 146 2,
 mV 21 146]
def b0u:List CO:= [
  mV 147 19,
 O 148 (.sub (B .sub d5) (tm 147) (.cst (iv 1))),
 mV 22 148]
def a5t:List CO:= [
  mV 149 20,
 mV 150 21,
 O 151 (.lt (B .lss d5) (tm 149) (tm 150))]
def a97:List CO:= [
  mV 152 20,
 mV 153 21,
 O 154 (.add (B .add d5) (tm 152) (tm 153)),
 O 155 (.convI .u64 (tm 154)),
 O 156 (.slow (B .shr a5n) (tm 155) (.cst (.p (.int .u64 (1))))),
 O 157 (.convI .i64 (tm 156)),
 mV 23 157]
def a9R:List CO:= [
  mV 158 4,
 mV 159 0,
 mV 160 22,
 mV 161 23,
 O 162 (.sub (B .sub d5) (tm 160) (tm 161)),
 O 163 (.iaS 2 (tm 159) (tm 162)),
 O 164 (.loadN 2 (tm 163)),
 mV 165 0,
 mV 166 23,
 O 167 (.iaS 2 (tm 165) (tm 166)),
 O 168 (.loadN 2 (tm 167)),
 .call (some (pth 169)) none (tm 158) [(tm 164),(tm 168)],
 O 170 (.lt (B .lss d5) (tm 169) (.cst (iv 0))),
 O 171 (.un .not (tm 170))]
def c0J:List CO:= [
  mV 172 23,
 O 173 (.add (B .add d5) (tm 172) (.cst (iv 1))),
 mV 20 173]
def c5j:List CO:= [
  mV 174 23,
 mV 21 174]
def b0F:List CO:= [
  mV 175 19,
 mV 176 20,
 O 177 (.sub (B .sub d5) (tm 175) (tm 176)),
 mV 24 177]
def a5m:List CO:= [
  mV 178 20,
 mV 179 2,
 O 180 (.lt (B .lss d5) (tm 178) (tm 179)),
 mV 181 180,
 G 182 181 true (.mv (tm 2)),
 G 183 181 true (.mv (tm 24)),
 G 184 181 true (.lt (B .lss d5) (tm 182) (tm 183)),
 O 185 (.pick (tm 181) (tm 184) (.cst (.b false)))]
def c8I:List CO:= [
  mV 186 0,
 mV 187 20,
 mV 188 2,
 mV 189 24,
 mV 190 4,
 C 191 a6R [(tm 186),(tm 187),(tm 188),(tm 189),(tm 190)]]
def a5e:List CO:= [
  mV 192 1,
 mV 193 20,
 O 194 (.lt (B .lss d5) (tm 192) (tm 193)),
 mV 195 194,
 G 196 195 true (.mv (tm 20)),
 G 197 195 true (.mv (tm 18)),
 G 198 195 true (.lt (B .lss d5) (tm 196) (tm 197)),
 O 199 (.pick (tm 195) (tm 198) (.cst (.b false)))]
def c6b:List CO:= [
  mV 200 0,
 mV 201 1,
 mV 202 20,
 mV 203 18,
 mV 204 4,
 C 205 J7 [(tm 200),(tm 201),(tm 202),(tm 203),(tm 204)]]
def a5j:List CO:= [
  mV 206 18,
 mV 207 24,
 O 208 (.lt (B .lss d5) (tm 206) (tm 207)),
 mV 209 208,
 G 210 209 true (.mv (tm 24)),
 G 211 209 true (.mv (tm 3)),
 G 212 209 true (.lt (B .lss d5) (tm 210) (tm 211)),
 O 213 (.pick (tm 209) (tm 212) (.cst (.b false)))]
def c71:List CO:= [
  mV 214 0,
 mV 215 18,
 mV 216 24,
 mV 217 3,
 mV 218 4,
 C 219 J7 [(tm 214),(tm 215),(tm 216),(tm 217),(tm 218)]]
def b7f:List CO:= [
  O 6 (.mv (.cst (iv 0))),
 O 7 (.mv (.cst (iv 0)))]
def b67:List CO:= [
  mV 14 0,
 mV 15 1,
 mV 16 2,
 C 17 a6V [(tm 14),(tm 15),(tm 16)],
 mV 13 17,
 eX 18 0 13,
 eX 19 1 13,
 mV 8 18,
 mV 9 19]
def b7g:List CO:= [
  O 10 (.alloc d5 1 [(iv 0)]),
 .op none none (.store 1 (tm 10) (.cst (iv 0)))]
def b7j:List CO:= [
  mV 20 8,
 C 21 b3T [(tm 20)]]
def a4s:List CO:= [
  mV 12 23]
def a8q:List CO:= [
  lD 24 10,
 O 25 (.slow (B .shl d5) (tm 24) (.cst (.p (.int .u64 (8))))),
 mV 26 12,
 O 27 (.convI .i64 (tm 26)),
 O 28 (.slow (B .or d5) (tm 25) (tm 27)),
 .op none none (.store 1 (tm 10) (tm 28))]
def b69:List CO:= [
  lD 29 10,
 mV 30 9,
 mV 6 29,
 mV 7 30]
def d69:List CO:= [
  fA 5 0 1,
 lD 6 5,
 lD 7 2,
 lD 8 3,
 O 9 (.len false (tm 8)),
 mV 10 0,
 C 11 a09 [(tm 6),(tm 7),(tm 9),(tm 10)]]
def d3u:List CO:= [
  O 8 (.mv (.cst (iv 0))),
 O 9 (.mv (.cst (.b false))),
 O 10 (.mv (.cst (iv 0)))]
def d7b:List CO:= [
  mV 15 0,
 O 16 (.eqp false (B .eql G3) (tm 15) (.cst s9))]
def g2n:List CO:= [
  O 8 (.mv (.cst (iv 0))),
 O 9 (.mv (.cst (.b false))),
 O 10 (.mv (.cst (iv 1)))]
def e5n:List CO:= [
  mV 18 0,
 nL 19 18,
 fA 20 1 19,
 O 21 (.loadN 12 (tm 20)),
 mV 22 3,
 C 23 a6X [(tm 21),(tm 22)],
 mV 17 23,
 eX 24 0 17,
 eX 25 1 17,
 mV 11 24,
 mV 10 25]
def e1g:List CO:= [
  mV 26 10,
 O 27 (.ne (B .neq j8) (tm 26) (.cst (iv 0)))]
def g3t:List CO:= [
  mV 28 10,
 O 8 (.mv (.cst (iv 0))),
 O 9 (.mv (.cst (.b false))),
 mV 10 28]
def e81:List CO:= [
  mV 29 2,
 O 30 (.build [(iv 0),(iv 0),(iv 0)] [(0,1,(tm 29))]),
 O 12 (.alloc D6 3 [(iv 0),(iv 0),(iv 0)]),
 .op none none (.store 3 (tm 12) (tm 30))]
def e5k:List CO:= [
  mV 31 11,
 O 32 (.len false (tm 31)),
 O 33 (.mv (.cst (iv 0)))]
def a6v:List CO:= [
  O 34 (.lt (B .lss d5) (tm 33) (tm 32))]
def b1Z:List CO:= [
  mV 35 33,
 O 36 (.iaS 1 (tm 31) (tm 33)),
 lD 37 36,
 mV 13 35,
 mV 14 37]
def b00:List CO:= [
  mV 38 14,
 fA 39 2 12,
 .op none none (.store 1 (tm 39) (tm 38))]
def b0c:List CO:= [
  mV 40 9,
 mV 41 40,
 G 42 41 true (.mv (tm 13)),
 G 43 41 true (.gt (B .gtr d5) (tm 42) (.cst (iv 0))),
 O 44 (.pick (tm 41) (tm 43) (.cst (.b false)))]
def c8o:List CO:= [
  mV 45 1,
 fA 46 1 12,
 lD 47 46,
 mV 48 0,
 nL 49 48,
 fA 50 1 49,
 fA 51 0 50,
 lD 52 51,
 O 53 (.mksl l3 1 1 [(.y 0)] (tm 52) (tm 52)),
 C 54 a00 [(tm 45),(tm 47),(tm 53)],
 mV 10 54]
def c48:List CO:= [
  mV 55 10,
 O 56 (.ne (B .neq j8) (tm 55) (.cst (iv 0)))]
def g1w:List CO:= [
  mV 57 10,
 O 8 (.mv (.cst (iv 0))),
 O 9 (.mv (.cst (.b false))),
 mV 10 57]
def a5l:List CO:= [
  mV 59 0,
 mV 60 1,
 O 61 (.loadN 3 (tm 12)),
 C 62 a0V [(tm 59),(tm 60),(tm 61)],
 mV 58 62,
 eX 63 0 58,
 eX 64 1 58,
 mV 8 63,
 mV 10 64]
def a5p:List CO:= [
  mV 65 10,
 O 66 (.ne (B .neq j8) (tm 65) (.cst (iv 0)))]
def f9S:List CO:= [
  mV 67 10,
 O 8 (.mv (.cst (iv 0))),
 O 9 (.mv (.cst (.b false))),
 mV 10 67]
def a5g:List CO:= [
  mV 68 8,
 O 69 (.eq (B .eql d5) (tm 68) (.cst (iv 0))),
 mV 9 69]
def a5k:List CO:= [
  mV 70 9]
def a93:List CO:= [
  mV 72 0,
 nL 73 72,
 fA 74 0 73,
 lD 75 74,
 mV 76 1,
 C 77 a7u [(tm 75),(tm 76)],
 mV 71 77,
 eX 78 0 71,
 eX 79 1 71,
 mV 8 78,
 mV 10 79]
def b0Y:List CO:= [
  mV 80 10,
 O 81 (.ne (B .neq j8) (tm 80) (.cst (iv 0)))]
def c2I:List CO:= [
  mV 82 10,
 O 8 (.mv (.cst (iv 0))),
 O 9 (.mv (.cst (.b false))),
 mV 10 82]
def c6D:List CO:= [
  mV 83 0,
 mV 84 1,
 O 85 (.loadN 3 (tm 12)),
 mV 86 8,
 C 87 a0k [(tm 83),(tm 84),(tm 85),(tm 86)],
 mV 10 87]
def d29:List CO:= [
  mV 88 10,
 O 89 (.ne (B .neq j8) (tm 88) (.cst (iv 0)))]
def g1q:List CO:= [
  mV 90 10,
 O 8 (.mv (.cst (iv 0))),
 O 9 (.mv (.cst (.b false))),
 mV 10 90]
def b0S:List CO:= [
  mV 91 8,
 fA 92 1 12,
 .op none none (.store 1 (tm 92) (tm 91))]
def a98:List CO:= [
  O 93 (.add (B .add d5) (tm 33) (.cst (iv 1))),
 mV 33 93]
def c6U:List CO:= [
  mV 94 8,
 mV 95 9,
 mV 8 94,
 mV 9 95,
 O 10 (.mv (.cst (iv 0)))]
def b1q:List CO:= [
  O 6 (.mv (.cst (iv 0)))]
def b2r:List CO:= [
  mV 7 0,
 nL 8 7,
 fA 9 15 8,
 fA 10 0 9,
 lD 11 10,
 O 12 (.eq (B .eql d5) (tm 11) (.cst (iv 2)))]
def d4Q:List CO:= [
  mV 13 0,
 nL 14 13,
 fA 15 0 14,
 lD 16 15,
 mV 17 1,
 mV 18 2,
 C 19 a00 [(tm 16),(tm 17),(tm 18)],
 mV 6 19]
def e7T:List CO:= [
  mV 20 0,
 nL 21 20,
 fA 22 0 21,
 lD 23 22,
 mV 24 1,
 mV 25 2,
 C 26 b3g [(tm 23),(tm 24),(tm 25)],
 mV 6 26]
def b2c:List CO:= [
  O 8 (.mv (.cst (iv 0)))]
def b2A:List CO:= [
  mV 12 1,
 mV 13 0,
 mV 14 2,
 C 15 R1 [(tm 12),(tm 13),(tm 14)],
 mV 11 15,
 eX 16 0 11,
 eX 17 1 11,
 O 9 (.alloc A3 13 [(iv 0),(iv 0),(iv 0),(iv 0),(iv 0),(iv 0),(iv 0),(iv 0),(iv 0),(iv 0),(iv 0),(iv 0),(iv 0)]),
 .op none none (.store 13 (tm 9) (tm 16)),
 mV 10 17]
def b19:List CO:= [
  mV 18 10,
 O 19 (.ne (B .neq j8) (tm 18) (.cst (iv 0))),
 mV 20 19,
 G 21 20 false (.mv (tm 3)),
 G 22 20 false (.fa 2 (tm 9)),
 G 23 20 false (.load (tm 22)),
 G 24 20 false (.le (B .leq d5) (tm 21) (tm 23)),
 O 25 (.pick (tm 20) (.cst (.b true)) (tm 24))]
def e1T:List CO:= [
  mV 26 10,
 mV 8 26]
def e5w:List CO:= [
  mV 27 3,
 fA 28 2 9,
 .op none none (.store 1 (tm 28) (tm 27))]
def e6A:List CO:= [
  mV 29 1,
 mV 30 0,
 mV 31 2,
 O 32 (.loadN 13 (tm 9)),
 C 33 a3V [(tm 29),(tm 30),(tm 31),(tm 32)],
 mV 8 33]
def b2z:List CO:= [
  O 8 (.box D6 (tm 2)),
 O 12 (.mv (.cst (iv 0)))]
def b2H:List CO:= [
  mV 20 0,
 mV 21 1,
 O 22 (.loadN 3 (tm 8)),
 C 23 a0V [(tm 20),(tm 21),(tm 22)],
 mV 19 23,
 eX 24 0 19,
 eX 25 1 19,
 mV 13 24,
 mV 14 25]
def b1o:List CO:= [
  mV 26 14,
 O 27 (.ne (B .neq j8) (tm 26) (.cst (iv 0))),
 mV 28 27,
 G 29 28 false (.mv (tm 13)),
 G 30 28 false (.eq (B .eql d5) (tm 29) (.cst (iv 0))),
 O 31 (.pick (tm 28) (.cst (.b true)) (tm 30))]
def e2I:List CO:= [
  mV 32 14,
 mV 12 32]
def e9C:List CO:= [
  O 15 (.mv (.cst (iv 1)))]
def e0P:List CO:= [
  mV 33 5,
 O 34 (.mv (.cst (iv 0)))]
def a3c:List CO:= [
  O 35 (.lt (B .lss d5) (tm 34) (tm 33))]
def e5l:List CO:= [
  mV 36 15,
 mV 37 0,
 nL 38 37,
 fA 39 13 38,
 lD 40 39,
 O 41 (.mul (B .mul d5) (tm 36) (tm 40)),
 mV 15 41]
def e8N:List CO:= [
  O 42 (.add (B .add d5) (tm 34) (.cst (iv 1))),
 mV 34 42]
def a6i:List CO:= [
  mV 43 3,
 mV 44 15,
 O 45 (.add (B .add d5) (tm 43) (tm 44)),
 mV 46 4,
 O 47 (.le (B .leq d5) (tm 45) (tm 46))]
def c4h:List CO:= [
  O 12 (.mv (.cst (iv 0)))]
def a9S:List CO:= [
  mV 48 5,
 O 49 (.gt (B .gtr d5) (tm 48) (.cst (iv 0)))]
def c6E:List CO:= [
  mV 50 0,
 nL 51 50,
 fA 52 13 51,
 lD 53 52,
 O 54 (.mv (.cst (iv 0)))]
def a5r:List CO:= [
  O 55 (.lt (B .lss d5) (tm 54) (tm 53))]
def d2o:List CO:= [
  mV 56 54,
 mV 16 56]
def c5D:List CO:= [
  mV 57 0,
 mV 58 1,
 fA 59 0 8,
 lD 60 59,
 mV 61 13,
 mV 62 16,
 O 63 (.build [(iv 0),(iv 0),(iv 0)] [(0,1,(tm 60)),(1,1,(tm 61)),(2,1,(tm 62))]),
 mV 64 3,
 mV 65 16,
 mV 66 15,
 O 67 (.mul (B .mul d5) (tm 65) (tm 66)),
 mV 68 0,
 nL 69 68,
 fA 70 13 69,
 lD 71 70,
 O 72 (.quo (B .quo d5) (tm 67) (tm 71)),
 O 73 (.add (B .add d5) (tm 64) (tm 72)),
 mV 74 4,
 mV 75 5,
 O 76 (.sub (B .sub d5) (tm 75) (.cst (iv 1))),
 C 77 R0 [(tm 57),(tm 58),(tm 63),(tm 73),(tm 74),(tm 76)],
 mV 17 77]
def c7A:List CO:= [
  mV 78 17,
 O 79 (.ne (B .neq j8) (tm 78) (.cst (iv 0)))]
def g1S:List CO:= [
  mV 80 17,
 mV 12 80]
def c0G:List CO:= [
  O 81 (.add (B .add d5) (tm 54) (.cst (iv 1))),
 mV 54 81]
def a5q:List CO:= [
  mV 82 3,
 mV 83 4,
 O 84 (.lt (B .lss d5) (tm 82) (tm 83))]
def d0L:List CO:= [
  O 12 (.mv (.cst (iv 0)))]
def a95:List CO:= [
  mV 85 0,
 mV 86 1,
 O 87 (.loadN 3 (tm 8)),
 C 88 a0k [(tm 85),(tm 86),(tm 87),(.cst (iv 0))],
 mV 18 88]
def b09:List CO:= [
  mV 89 18,
 O 90 (.ne (B .neq j8) (tm 89) (.cst (iv 0)))]
def f9Y:List CO:= [
  mV 91 18,
 mV 12 91]
def a9V:List CO:= [
  mV 92 0,
 nL 93 92,
 fA 94 0 93,
 lD 95 94,
 mV 96 1,
 mV 97 13,
 C 98 a6Z [(tm 95),(tm 96),(tm 97)],
 mV 12 98]
def e69:List CO:= [
  O 2 (.mv (.cst (iv 0)))]
def e0U:List CO:= [
  mV 4 0,
 O 5 (.eqp false (B .eql G4) (tm 4) (.cst s9)),
 mV 3 5]
def g21:List CO:= [
  O 2 (.mv (.cst (iv 1)))]
def d5V:List CO:= [
  mV 7 0,
 nL 8 7,
 fA 9 0 8,
 lD 10 9,
 nL 11 10,
 fA 12 17 11,
 lD 13 12,
 mV 14 0,
 O 15 (.eqp true (B .neq G4) (tm 13) (tm 14)),
 mV 6 15]
def g3A:List CO:= [
  O 2 (.mv (.cst (iv 22)))]
def d4q:List CO:= [
  O 2 (.mv (.cst (iv 0)))]
def d9q:List CO:= [
  O 4 (.mv (.cst j7)),
 O 5 (.mv (.cst (iv 0)))]
def e8y:List CO:= [
  mV 11 0,
 O 12 (.eqp false (B .eql a77) (tm 11) (.cst s9)),
 mV 10 12]
def g2q:List CO:= [
  O 4 (.mv (.cst j7)),
 O 5 (.mv (.cst (iv 1)))]
def e24:List CO:= [
  mV 14 1,
 O 15 (.lt (B .lss d5) (tm 14) (.cst (iv 0))),
 mV 16 15,
 G 17 16 false (.mv (tm 1)),
 G 18 16 false (.mv (tm 0)),
 G 19 16 false (.nil (tm 18)),
 G 20 16 false (.fa 3 (tm 19)),
 G 21 16 false (.fa 1 (tm 20)),
 G 22 16 false (.load (tm 21)),
 G 23 16 false (.ge (B .geq d5) (tm 17) (tm 22)),
 O 24 (.pick (tm 16) (.cst (.b true)) (tm 23)),
 mV 13 24]
def g3p:List CO:= [
  O 4 (.mv (.cst j7)),
 O 5 (.mv (.cst (iv 2)))]
def e6X:List CO:= [
  mV 26 0,
 nL 27 26,
 fA 28 15 27,
 lD 29 28,
 mV 30 1,
 O 31 (.look (some .i64) j7 true (tm 29) (tm 30)),
 mV 25 31,
 eX 32 0 25,
 eX 33 1 25,
 mV 6 32,
 mV 7 33]
def e4G:List CO:= [
  mV 34 7]
def e0t:List CO:= [
  mV 35 6,
 C 36 a0n [(tm 35)],
 mV 4 36,
 O 5 (.mv (.cst (iv 0)))]
def g2P:List CO:= [
  mV 38 0,
 mV 39 1,
 C 40 a6Y [(tm 38),(tm 39)],
 mV 37 40,
 eX 41 0 37,
 eX 42 1 37,
 mV 8 41,
 mV 9 42]
def g2s:List CO:= [
  mV 43 9]
def g1l:List CO:= [
  mV 44 8,
 mV 4 44,
 O 5 (.mv (.cst (iv 0)))]
def g0Z:List CO:= [
  mV 45 0,
 nL 46 45,
 fA 47 2 46,
 lD 48 47,
 mV 49 1,
 C 50 f7M [(tm 48),(tm 49)],
 eX 51 0 50,
 eX 52 1 50,
 mV 4 51,
 mV 5 52]
def d5S:List CO:= [
  O 4 (.mv (.cst (.b false)))]
def d3i:List CO:= [
  mV 5 0,
 O 6 (.b2s (tm 5)),
 mV 7 1,
 O 8 (.b2s (tm 7)),
 O 9 (.eq (B .eql A9) (tm 6) (tm 8)),
 mV 4 9]
def b2q:List CO:= [
  O 8 (.mv (.cst j7)),
 O 9 (.mv (.cst (iv 0)))]
def b1K:List CO:= [
  mV 15 0,
 mV 16 1,
 mV 17 2,
 C 18 a6V [(tm 15),(tm 16),(tm 17)],
 mV 14 18,
 eX 19 0 14,
 eX 20 1 14,
 mV 10 19,
 mV 11 20]
def b2K:List CO:= [
  mV 21 11,
 O 22 (.ne (B .neq j8) (tm 21) (.cst (iv 0)))]
def g4l:List CO:= [
  mV 23 11,
 O 8 (.mv (.cst j7)),
 mV 9 23]
def b2M:List CO:= [
  mV 24 3,
 O 25 (.lt (B .lss d5) (tm 24) (.cst (iv 0))),
 mV 26 25,
 G 27 26 false (.mv (tm 3)),
 G 28 26 false (.mv (tm 2)),
 G 29 26 false (.mul (B .mul d5) (.cst (iv 8)) (tm 28)),
 G 30 26 false (.slow (B .shr d5) (tm 27) (tm 29)),
 G 31 26 false (.ne (B .neq d5) (tm 30) (.cst (iv 0))),
 O 32 (.pick (tm 26) (.cst (.b true)) (tm 31))]
def g3W:List CO:= [
  O 8 (.mv (.cst j7)),
 O 9 (.mv (.cst (iv 3)))]
def b2t:List CO:= [
  mV 33 0,
 C 34 a0n [(tm 33)],
 mV 12 34]
def b2W:List CO:= [
  mV 35 2,
 O 36 (.mv (.cst (iv 0)))]
def a1B:List CO:= [
  O 37 (.lt (B .lss d5) (tm 36) (tm 35))]
def a6L:List CO:= [
  mV 38 36,
 mV 13 38]
def a48:List CO:= [
  mV 39 12,
 mV 40 1,
 mV 41 13,
 O 42 (.add (B .add d5) (tm 40) (tm 41)),
 mV 43 3,
 mV 44 13,
 O 45 (.mul (B .mul d5) (.cst (iv 8)) (tm 44)),
 O 46 (.slow (B .shr d5) (tm 43) (tm 45)),
 O 47 (.convI .u8 (tm 46)),
 O 48 (.iaS 1 (tm 39) (tm 42)),
 .op none none (.store 1 (tm 48) (tm 47))]
def a5f:List CO:= [
  O 49 (.add (B .add d5) (tm 36) (.cst (iv 1))),
 mV 36 49]
def b0h:List CO:= [
  mV 50 12,
 mV 8 50,
 O 9 (.mv (.cst (iv 0)))]
def e9D:List CO:= [
  mV 4 0,
 nL 5 4,
 fA 6 1 5,
 lD 7 6,
 mV 8 1,
 .op none none (.mdel (some .i64) (tm 7) (tm 8))]
def d83:List CO:= [
  mV 9 0,
 nL 10 9,
 fA 11 2 10,
 lD 12 11,
 mV 13 1,
 .op none none (.mdel (some .i64) (tm 12) (tm 13))]
def e4h:List CO:= [
  mV 14 0,
 nL 15 14,
 fA 16 3 15,
 lD 17 16,
 mV 18 1,
 .op none none (.mdel (some .i64) (tm 17) (tm 18))]
def d6m:List CO:= [
  O 4 (.mv (.cst (iv 0)))]
def e5f:List CO:= [
  mV 5 0,
 mV 6 1,
 C 7 a6S [(tm 5),(tm 6),(.cst (.b true))],
 mV 4 7]
def a6p:List CO:= [
  O 2 (.box v7 (tm 0)),
 O 4 (.mv (.cst j7)),
 O 5 (.mv (.cst (iv 0)))]
def a54:List CO:= [
  O 11 (.loadN 12 (tm 2)),
 C 12 W8 [(tm 11)],
 mV 10 12,
 eX 13 0 10,
 eX 14 1 10,
 mV 6 13,
 mV 7 14]
def a6K:List CO:= [
  mV 15 7,
 O 16 (.ne (B .neq j8) (tm 15) (.cst (iv 0)))]
def g4j:List CO:= [
  mV 17 7,
 O 4 (.mv (.cst j7)),
 mV 5 17]
def a50:List CO:= [
  mV 18 1,
 mV 19 6,
 O 20 (.sub (B .sub d5) (tm 19) (.cst (iv 1))),
 fA 21 0 2,
 lD 22 21,
 O 23 (.quo (B .quo d5) (tm 20) (tm 22)),
 C 24 b3H [(tm 18),(.cst (iv 0)),(tm 23)],
 O 25 (.un .not (tm 24))]
def g3P:List CO:= [
  O 4 (.mv (.cst j7)),
 O 5 (.mv (.cst (iv 2)))]
def a6t:List CO:= [
  fA 26 0 2,
 lD 27 26,
 O 28 (.quo (B .quo d5) (tm 27) (.cst (iv 2))),
 mV 8 28]
def a6z:List CO:= [
  mV 29 1,
 O 30 (.sub (B .sub d5) (tm 29) (.cst (iv 8))),
 mV 9 30]
def a5h:List CO:= [
  mV 42 9,
 O 43 (.lt (B .lss d5) (tm 42) (.cst (iv 0))),
 mV 41 43]
def c7F:List CO:= [
  mV 44 1,
 O 45 (.bslice d5 1 1 [(iv 0)] [(0,1,(tm 44))]),
 mV 4 45,
 O 5 (.mv (.cst (iv 0)))]
def b06:List CO:= [
  mV 47 9,
 mV 48 8,
 O 49 (.lt (B .lss d5) (tm 47) (tm 48)),
 mV 46 49]
def d2l:List CO:= [
  mV 50 9,
 O 51 (.bslice d5 2 2 [(iv 0)] [(0,1,(.cst (iv 8))),(1,1,(tm 50))]),
 mV 4 51,
 O 5 (.mv (.cst (iv 0)))]
def d6i:List CO:= [
  mV 31 9,
 mV 32 8,
 O 33 (.sub (B .sub d5) (tm 31) (tm 32)),
 mV 9 33]
def e7g:List CO:= [
  mV 34 9,
 mV 35 8,
 O 36 (.quo (B .quo d5) (tm 34) (tm 35)),
 mV 37 9,
 mV 38 8,
 O 39 (.rem (B .rem d5) (tm 37) (tm 38)),
 O 40 (.bslice d5 3 3 [(iv 0)] [(0,1,(.cst (iv 9))),(1,1,(tm 36)),(2,1,(tm 39))]),
 mV 4 40,
 O 5 (.mv (.cst (iv 0)))]
def d8z:List CO:= [
  O 6 (.mv (.cst j7)),
 O 7 (.mv (.cst (iv 0)))]
def e5d:List CO:= [
  mV 10 2,
 O 11 (.lt (B .lss d5) (tm 10) (.cst (iv 0)))]
def g17:List CO:= [
  O 6 (.mv (.cst j7)),
 O 7 (.mv (.cst (iv 1)))]
def d57:List CO:= [
  mV 13 0,
 mV 14 1,
 mV 15 2,
 C 16 a3P [(tm 13),(tm 14),(tm 15)],
 mV 12 16,
 eX 17 0 12,
 eX 18 1 12,
 mV 8 17,
 mV 9 18]
def e6w:List CO:= [
  mV 19 9,
 O 20 (.un .not (tm 19))]
def g4M:List CO:= [
  O 6 (.mv (.cst j7)),
 O 7 (.mv (.cst (iv 2)))]
def e8q:List CO:= [
  mV 21 8,
 mV 6 21,
 O 7 (.mv (.cst (iv 0)))]
def d9F:List CO:= [
  O 4 (.mv (.cst (tv []))),
 O 5 (.mv (.cst (tv []))),
 O 6 (.mv (.cst (.b false)))]
def d8A:List CO:= [
  mV 7 0,
 mV 8 1,
 C 9 b3d [(tm 7),(tm 8)],
 eX 10 0 9,
 eX 11 1 9,
 eX 12 2 9,
 mV 4 10,
 mV 5 11,
 mV 6 12]
def b1O:List CO:= [
  O 4 (.mv (.cst (tv [])))]
def b2B:List CO:= [
  mV 7 0,
 O 8 (.eq (B .eql A9) (tm 7) (.cst (tv []))),
 mV 9 8,
 G 10 9 false (.mv (tm 1)),
 G 11 9 false (.eq (B .eql A9) (tm 10) (.cst (tv []))),
 O 12 (.pick (tm 9) (.cst (.b true)) (tm 11))]
def d9O:List CO:= [
  mV 13 0,
 mV 4 13]
def e2f:List CO:= [
  mV 14 1,
 O 15 (.len true (tm 14)),
 O 16 (.eq (B .eql d5) (tm 15) (.cst (iv 1))),
 mV 17 16,
 G 18 17 true (.mv (tm 1)),
 G 19 17 true (.ixS (tm 18) (.cst (iv 0))),
 G 20 17 true (.lt (B .lss l3) (tm 19) (.cst (.y 128))),
 O 21 (.pick (tm 17) (tm 20) (.cst (.b false)))]
def d9v:List CO:= [
  mV 22 0,
 mV 23 1,
 O 24 (.ixS (tm 23) (.cst (iv 0))),
 C 25 b3p [(tm 22),(tm 24)],
 mV 26 1,
 O 27 (.ixS (tm 26) (.cst (iv 0))),
 C 28 b3h [(tm 25),(tm 27)],
 mV 4 28]
def g2a:List CO:= [
  mV 30 1,
 C 31 f36 [(tm 30)],
 mV 29 31,
 eX 32 0 29,
 eX 33 1 29,
 O 5 (.alloc f4a 256 [(.b false),(.b false),(.b false),(.b false),(.b false),(.b false),(.b false),(.b false),(.b false),(.b false),(.b false),(.b false),(.b false),(.b false),(.b false),(.b false),(.b false),(.b false),(.b false),(.b false),(.b false),(.b false),(.b false),(.b false),(.b false),(.b false),(.b false),(.b false),(.b false),(.b false),(.b false),(.b false),(.b false),(.b false),(.b false),(.b false),(.b false),(.b false),(.b false),(.b false),(.b false),(.b false),(.b false),(.b false),(.b false),(.b false),(.b false),(.b false),(.b false),(.b false),(.b false),(.b false),(.b false),(.b false),(.b false),(.b false),(.b false),(.b false),(.b false),(.b false),(.b false),(.b false),(.b false),(.b false),(.b false),(.b false),(.b false),(.b false),(.b false),(.b false),(.b false),(.b false),(.b false),(.b false),(.b false),(.b false),(.b false),(.b false),(.b false),(.b false),(.b false),(.b false),(.b false),(.b false),(.b false),(.b false),(.b false),(.b false),(.b false),(.b false),(.b false),(.b false),(.b false),(.b false),(.b false),(.b false),(.b false),(.b false),(.b false),(.b false),(.b false),(.b false),(.b false),(.b false),(.b false),(.b false),(.b false),(.b false),(.b false),(.b false),(.b false),(.b false),(.b false),(.b false),(.b false),(.b false),(.b false),(.b false),(.b false),(.b false),(.b false),(.b false),(.b false),(.b false),(.b false),(.b false),(.b false),(.b false),(.b false),(.b false),(.b false),(.b false),(.b false),(.b false),(.b false),(.b false),(.b false),(.b false),(.b false),(.b false),(.b false),(.b false),(.b false),(.b false),(.b false),(.b false),(.b false),(.b false),(.b false),(.b false),(.b false),(.b false),(.b false),(.b false),(.b false),(.b false),(.b false),(.b false),(.b false),(.b false),(.b false),(.b false),(.b false),(.b false),(.b false),(.b false),(.b false),(.b false),(.b false),(.b false),(.b false),(.b false),(.b false),(.b false),(.b false),(.b false),(.b false),(.b false),(.b false),(.b false),(.b false),(.b false),(.b false),(.b false),(.b false),(.b false),(.b false),(.b false),(.b false),(.b false),(.b false),(.b false),(.b false),(.b false),(.b false),(.b false),(.b false),(.b false),(.b false),(.b false),(.b false),(.b false),(.b false),(.b false),(.b false),(.b false),(.b false),(.b false),(.b false),(.b false),(.b false),(.b false),(.b false),(.b false),(.b false),(.b false),(.b false),(.b false),(.b false),(.b false),(.b false),(.b false),(.b false),(.b false),(.b false),(.b false),(.b false),(.b false),(.b false),(.b false),(.b false),(.b false),(.b false),(.b false),(.b false),(.b false),(.b false),(.b false),(.b false),(.b false),(.b false),(.b false),(.b false),(.b false),(.b false),(.b false),(.b false),(.b false),(.b false),(.b false),(.b false),(.b false),(.b false),(.b false),(.b false),(.b false)]),
 .op none none (.store 256 (tm 5) (tm 32)),
 mV 6 33]
def g4k:List CO:= [
  mV 34 6]
def g2w:List CO:= [
  mV 35 0,
 C 36 f3Y [(tm 35),(tm 5)],
 C 37 f3Z [(tm 36),(tm 5)],
 mV 4 37]
def g2C:List CO:= [
  mV 38 0,
 mV 39 1,
 C 40 f3W [(tm 38),(tm 39)],
 mV 41 1,
 C 42 f3X [(tm 40),(tm 41)],
 mV 4 42]
def d65:List CO:= [
  mV 12 2,
 mV 13 1,
 O 14 (.sub (B .sub d5) (tm 12) (tm 13)),
 mV 10 14]
def e6O:List CO:= [
  mV 15 3,
 mV 16 2,
 O 17 (.sub (B .sub d5) (tm 15) (tm 16)),
 mV 11 17]
def a6g:List CO:= [
  mV 18 10,
 mV 19 11,
 O 20 (.ne (B .neq d5) (tm 18) (tm 19))]
def b2e:List CO:= [
  mV 21 10,
 mV 22 11,
 O 23 (.gt (B .gtr d5) (tm 21) (tm 22))]
def e67:List CO:= [
  mV 24 0,
 mV 25 2,
 mV 26 10,
 O 27 (.sub (B .sub d5) (tm 25) (tm 26)),
 mV 28 2,
 mV 29 11,
 mV 30 4,
 C 31 a1W [(tm 24),(tm 27),(tm 28),(tm 29),(tm 30)]]
def e1x:List CO:= [
  mV 32 10,
 mV 33 11,
 O 34 (.sub (B .sub d5) (tm 32) (tm 33)),
 mV 10 34]
def d9j:List CO:= [
  mV 35 0,
 mV 36 2,
 mV 37 10,
 O 38 (.sub (B .sub d5) (tm 36) (tm 37)),
 mV 39 2,
 mV 40 11,
 O 41 (.add (B .add d5) (tm 39) (tm 40)),
 mV 42 10,
 O 43 (.sub (B .sub d5) (tm 41) (tm 42)),
 mV 44 10,
 mV 45 4,
 C 46 a1W [(tm 35),(tm 38),(tm 43),(tm 44),(tm 45)]]
def d5O:List CO:= [
  mV 47 11,
 mV 48 10,
 O 49 (.sub (B .sub d5) (tm 47) (tm 48)),
 mV 11 49]
def e26:List CO:= [
  mV 50 0,
 mV 51 2,
 mV 52 10,
 O 53 (.sub (B .sub d5) (tm 51) (tm 52)),
 mV 54 2,
 mV 55 10,
 mV 56 4,
 C 57 a1W [(tm 50),(tm 53),(tm 54),(tm 55),(tm 56)]]
def a5Z:List CO:= [
  O 6 (.mv (.cst j7)),
 O 7 (.mv (.cst (iv 0)))]
def a6r:List CO:= [
  mV 10 2]
def a6D:List CO:= [
  O 12 (.eq (B .eql d5) (tm 10) (.cst (iv 1))),
 mV 11 12]
def b1H:List CO:= [
  O 13 (.eq (B .eql d5) (tm 10) (.cst (iv 2))),
 mV 11 13]
def d6Y:List CO:= [
  O 14 (.eq (B .eql d5) (tm 10) (.cst (iv 4))),
 mV 11 14]
def a56:List CO:= [
  mV 16 0,
 mV 17 1,
 mV 18 2,
 C 19 a3P [(tm 16),(tm 17),(tm 18)],
 mV 15 19,
 eX 20 0 15,
 eX 21 1 15,
 mV 8 20,
 mV 9 21]
def a6A:List CO:= [
  mV 22 9,
 O 23 (.un .not (tm 22))]
def g3R:List CO:= [
  O 6 (.mv (.cst j7)),
 O 7 (.mv (.cst (iv 2)))]
def a5M:List CO:= [
  mV 24 8,
 mV 6 24,
 O 7 (.mv (.cst (iv 0)))]
def g2A:List CO:= [
  O 6 (.mv (.cst j7)),
 O 7 (.mv (.cst (iv 1)))]
def e96:List CO:= [
  O 1 (.box C7 (tm 0)),
 O 2 (.mv (.cst b4d))]
def d9T:List CO:= [
  O 3 (.fn a1R [(tm 1)]),
 mV 2 3]
def b22:List CO:= [
  O 4 (.mv (.cst (iv 0))),
 O 5 (.mv (.cst (iv 0)))]
def b2l:List CO:= [
  mV 6 0,
 O 7 (.eqp false (B .eql a7Y) (tm 6) (.cst s9))]
def g4c:List CO:= [
  O 4 (.mv (.cst (iv 0))),
 O 5 (.mv (.cst (iv 1)))]
def b1A:List CO:= [
  mV 8 0,
 nL 9 8,
 fA 10 13 9,
 O 11 (.loadN 2 (tm 10)),
 mV 12 1,
 mV 13 0,
 nL 14 13,
 fA 15 1 14,
 fA 16 11 15,
 lD 17 16,
 mV 18 0,
 nL 19 18,
 fA 20 1 19,
 fA 21 1 20,
 lD 22 21,
 mV 23 0,
 nL 24 23,
 fA 25 0 24,
 lD 26 25,
 O 27 (.bfn a3z [(tm 26)]),
 C 28 b3r [(tm 11),(tm 12),(tm 17),(tm 22),(tm 27)],
 eX 29 0 28,
 eX 30 1 28,
 mV 4 29,
 mV 5 30]
def b1V:List CO:= [
  O 6 (.box D6 (tm 2)),
 O 8 (.mv (.cst (iv 0)))]
def b24:List CO:= [
  fA 13 1 6,
 lD 14 13,
 O 15 (.eq (B .eql d5) (tm 14) (.cst (iv 0)))]
def e6T:List CO:= [
  mV 17 0,
 mV 18 1,
 fA 19 0 6,
 lD 20 19,
 C 21 R1 [(tm 17),(tm 18),(tm 20)],
 mV 16 21,
 eX 22 0 16,
 eX 23 1 16,
 O 9 (.alloc A3 13 [(iv 0),(iv 0),(iv 0),(iv 0),(iv 0),(iv 0),(iv 0),(iv 0),(iv 0),(iv 0),(iv 0),(iv 0),(iv 0)]),
 .op none none (.store 13 (tm 9) (tm 22)),
 mV 10 23]
def e95:List CO:= [
  mV 24 10,
 O 25 (.ne (B .neq j8) (tm 24) (.cst (iv 0)))]
def g2v:List CO:= [
  mV 26 10,
 mV 8 26]
def e0q:List CO:= [
  fA 27 2 6,
 lD 28 27,
 C 29 a7j [(tm 9),(tm 28)],
 mV 30 3,
 nL 31 29,
 .op none none (.store 1 (tm 31) (tm 30))]
def d5Z:List CO:= [
  mV 32 0,
 mV 33 1,
 fA 34 0 6,
 lD 35 34,
 O 36 (.loadN 13 (tm 9)),
 C 37 a3V [(tm 32),(tm 33),(tm 35),(tm 36)],
 mV 8 37]
def d7N:List CO:= [
  mV 39 1,
 fA 40 1 6,
 lD 41 40,
 C 42 O6 [(tm 39),(tm 41)],
 mV 38 42,
 eX 43 0 38,
 eX 44 1 38,
 mV 11 43,
 mV 12 44]
def e47:List CO:= [
  mV 45 12,
 O 46 (.ne (B .neq j8) (tm 45) (.cst (iv 0)))]
def g3v:List CO:= [
  mV 47 12,
 mV 8 47]
def d1P:List CO:= [
  mV 49 11,
 fA 50 2 6,
 lD 51 50,
 O 52 (.mul (B .mul d5) (.cst (iv 2)) (tm 51)),
 mV 53 3,
 C 54 a1Z [(tm 49),(tm 52),(.cst (iv 2)),(tm 53)],
 mV 48 54,
 eX 55 0 48,
 eX 56 1 48,
 mV 11 55,
 mV 12 56]
def d0a:List CO:= [
  mV 57 12,
 O 58 (.ne (B .neq j8) (tm 57) (.cst (iv 0)))]
def f90:List CO:= [
  mV 59 12,
 mV 8 59]
def d1c:List CO:= [
  mV 60 1,
 fA 61 1 6,
 lD 62 61,
 mV 63 11,
 C 64 a00 [(tm 60),(tm 62),(tm 63)],
 mV 8 64]
def e4T:List CO:= [
  O 6 (.mv (.cst (iv 0)))]
def e6C:List CO:= [
  mV 7 0,
 mV 8 1,
 mV 9 2,
 C 10 a0c [(tm 7),(.cst (.func Z9 [])),(.cst (.func a0i [])),(tm 8),(tm 9)],
 mV 6 10]
def e6G:List CO:= [
  O 6 (.mv (.cst (iv 0)))]
def e9r:List CO:= [
  mV 9 0,
 O 10 (.eqp false (B .eql a7Y) (tm 9) (.cst s9)),
 mV 8 10]
def g4I:List CO:= [
  O 6 (.mv (.cst (iv 1)))]
def e2H:List CO:= [
  mV 12 2,
 mV 13 0,
 nL 14 13,
 fA 15 1 14,
 fA 16 11 15,
 lD 17 16,
 O 18 (.lt (B .lss d5) (tm 12) (tm 17)),
 mV 19 18,
 G 20 19 false (.mv (tm 2)),
 G 21 19 false (.mv (tm 0)),
 G 22 19 false (.nil (tm 21)),
 G 23 19 false (.fa 1 (tm 22)),
 G 24 19 false (.fa 1 (tm 23)),
 G 25 19 false (.load (tm 24)),
 G 26 19 false (.ge (B .geq d5) (tm 20) (tm 25)),
 O 27 (.pick (tm 19) (.cst (.b true)) (tm 26)),
 mV 11 27]
def g4w:List CO:= [
  O 6 (.mv (.cst (iv 2)))]
def d9C:List CO:= [
  mV 28 0,
 nL 29 28,
 fA 30 13 29,
 O 31 (.loadN 2 (tm 30)),
 mV 32 1,
 mV 33 2,
 C 34 b3R [(tm 31),(tm 32),(tm 33)],
 mV 7 34]
def e7f:List CO:= [
  mV 35 7,
 O 36 (.ne (B .neq j8) (tm 35) (.cst (iv 0)))]
def g2i:List CO:= [
  mV 37 7,
 mV 6 37]
def e7p:List CO:= [
  mV 38 1,
 mV 39 2,
 C 40 b3l [(tm 38),(tm 39)],
 mV 6 40]
def e4u:List CO:= [
  O 4 (.mv (.cst j7)),
 O 5 (.mv (.cst (.b false)))]
def e87:List CO:= [
  mV 8 0,
 nL 9 8,
 fA 10 1 9,
 lD 11 10,
 C 12 b3x [(tm 11)],
 O 13 (.len false (tm 12)),
 O 14 (.mv (.cst (iv 0)))]
def e7J:List CO:= [
  O 15 (.lt (B .lss d5) (tm 14) (tm 13))]
def g2R:List CO:= [
  O 16 (.iaS 2 (tm 12) (tm 14)),
 O 17 (.loadN 2 (tm 16)),
 O 7 (.alloc a8Q 2 [(iv 0),j7]),
 .op none none (.store 2 (tm 7) (tm 17))]
def g3q:List CO:= [
  fA 18 0 7,
 lD 19 18,
 mV 20 1,
 O 21 (.eq (B .eql d5) (tm 19) (tm 20))]
def g3r:List CO:= [
  fA 22 1 7,
 lD 23 22,
 mV 4 23,
 O 5 (.mv (.cst (.b true)))]
def g4g:List CO:= [
  O 24 (.add (B .add d5) (tm 14) (.cst (iv 1))),
 mV 14 24]
def d7K:List CO:= [
  O 4 (.mv (.cst j7)),
 O 5 (.mv (.cst (.b false)))]
def e2R:List CO:= [
  O 6 (.mv (.cst (iv 0)))]
def e4z:List CO:= [
  mV 9 0,
 O 10 (.rangeS (tm 9))]
def b17:List CO:= [
  O 11 (.nextS (tm 10)),
 eX 12 0 11]
def e5A:List CO:= [
  eX 13 1 11,
 eX 14 2 11,
 mV 7 13,
 mV 8 14]
def d84:List CO:= [
  mV 15 1,
 mV 16 8,
 .call (some (pth 17)) none (tm 15) [(tm 16)],
 mV 18 2,
 O 19 (.eq (B .eql c9a) (tm 17) (tm 18))]
def g3m:List CO:= [
  mV 20 7,
 mV 6 20]
def e8v:List CO:= [
  O 6 (.mv (.cst (iv (-1))))]
def e8k:List CO:= [
  O 6 (.mv (.cst j7)),
 O 7 (.mv (.cst (.b false)))]
def e8d:List CO:= [
  mV 8 1,
 O 9 (.lt (B .lss d5) (tm 8) (.cst (iv 0))),
 mV 10 9,
 G 11 10 false (.mv (tm 2)),
 G 12 10 false (.lt (B .lss d5) (tm 11) (.cst (iv 0))),
 O 13 (.pick (tm 10) (.cst (.b true)) (tm 12)),
 mV 14 13,
 G 15 14 false (.mv (tm 1)),
 G 16 14 false (.mv (tm 0)),
 G 17 14 false (.len false (tm 16)),
 G 18 14 false (.gt (B .gtr d5) (tm 15) (tm 17)),
 O 19 (.pick (tm 14) (.cst (.b true)) (tm 18)),
 mV 20 19,
 G 21 20 false (.mv (tm 2)),
 G 22 20 false (.mv (tm 0)),
 G 23 20 false (.len false (tm 22)),
 G 24 20 false (.mv (tm 1)),
 G 25 20 false (.sub (B .sub d5) (tm 23) (tm 24)),
 G 26 20 false (.gt (B .gtr d5) (tm 21) (tm 25)),
 O 27 (.pick (tm 20) (.cst (.b true)) (tm 26))]
def g4o:List CO:= [
  O 6 (.mv (.cst j7)),
 O 7 (.mv (.cst (.b false)))]
def e9N:List CO:= [
  mV 28 0,
 mV 29 1,
 mV 30 1,
 mV 31 2,
 O 32 (.add (B .add d5) (tm 30) (tm 31)),
 O 33 (.sl 1 false (tm 28) (some (tm 29)) (some (tm 32)) none),
 mV 6 33,
 O 7 (.mv (.cst (.b true)))]
def b1p:List CO:= [
  O 4 (.mv (.cst (tv []))),
 O 5 (.mv (.cst (tv []))),
 O 6 (.mv (.cst (.b false)))]
def b2Z:List CO:= [
  mV 8 0,
 mV 9 1,
 C 10 a3K [(tm 8),(tm 9)],
 mV 7 10]
def b1Y:List CO:= [
  mV 11 7,
 O 12 (.ge (B .geq d5) (tm 11) (.cst (iv 0)))]
def e3F:List CO:= [
  mV 13 0,
 mV 14 7,
 O 15 (.sls (tm 13) none (some (tm 14))),
 mV 16 0,
 mV 17 7,
 mV 18 1,
 O 19 (.len true (tm 18)),
 O 20 (.add (B .add d5) (tm 17) (tm 19)),
 O 21 (.sls (tm 16) (some (tm 20)) none),
 mV 4 15,
 mV 5 21,
 O 6 (.mv (.cst (.b true)))]
def d9h:List CO:= [
  mV 22 0,
 mV 4 22,
 O 5 (.mv (.cst (tv []))),
 O 6 (.mv (.cst (.b false)))]
def e8H:List CO:= [
  O 4 (.mv (.cst (tv [])))]
def d9W:List CO:= [
  mV 5 0,
 O 6 (.len true (tm 5)),
 O 7 (.gt (B .gtr d5) (tm 6) (.cst (iv 0))),
 mV 8 7,
 G 9 8 true (.mv (tm 0)),
 G 10 8 true (.ixS (tm 9) (.cst (iv 0))),
 G 11 8 true (.mv (tm 1)),
 G 12 8 true (.eq (B .eql l3) (tm 10) (tm 11)),
 O 13 (.pick (tm 8) (tm 12) (.cst (.b false)))]
def g38:List CO:= [
  mV 14 0,
 O 15 (.sls (tm 14) (some (.cst (iv 1))) none),
 mV 0 15]
def e37:List CO:= [
  mV 16 0,
 mV 4 16]
def d5z:List CO:= [
  O 4 (.mv (.cst (tv [])))]
def b1M:List CO:= [
  mV 5 0,
 O 6 (.len true (tm 5)),
 O 7 (.gt (B .gtr d5) (tm 6) (.cst (iv 0))),
 mV 8 7,
 G 9 8 true (.mv (tm 0)),
 G 10 8 true (.mv (tm 0)),
 G 11 8 true (.len true (tm 10)),
 G 12 8 true (.sub (B .sub d5) (tm 11) (.cst (iv 1))),
 G 13 8 true (.ixS (tm 9) (tm 12)),
 G 14 8 true (.mv (tm 1)),
 G 15 8 true (.eq (B .eql l3) (tm 13) (tm 14)),
 O 16 (.pick (tm 8) (tm 15) (.cst (.b false)))]
def d6x:List CO:= [
  mV 17 0,
 mV 18 0,
 O 19 (.len true (tm 18)),
 O 20 (.sub (B .sub d5) (tm 19) (.cst (iv 1))),
 O 21 (.sls (tm 17) none (some (tm 20))),
 mV 0 21]
def e9F:List CO:= [
  mV 22 0,
 mV 4 22]
def e1s:List CO:= [
  O 10 (.mv (.cst (iv 0)))]
def b3b:List CO:= [
  mV 11 10,
 mV 12 3,
 O 13 (.lt (B .lss d5) (tm 11) (tm 12))]
def d5q:List CO:= [
  mV 16 0,
 mV 17 1,
 mV 18 10,
 O 19 (.add (B .add d5) (tm 17) (tm 18)),
 mV 20 0,
 mV 21 2,
 mV 22 10,
 O 23 (.add (B .add d5) (tm 21) (tm 22)),
 mV 24 0,
 mV 25 2,
 mV 26 10,
 O 27 (.add (B .add d5) (tm 25) (tm 26)),
 O 28 (.iaS 2 (tm 24) (tm 27)),
 O 29 (.loadN 2 (tm 28)),
 mV 30 0,
 mV 31 1,
 mV 32 10,
 O 33 (.add (B .add d5) (tm 31) (tm 32)),
 O 34 (.iaS 2 (tm 30) (tm 33)),
 O 35 (.loadN 2 (tm 34)),
 O 36 (.iaS 2 (tm 16) (tm 19)),
 .op none none (.store 2 (tm 36) (tm 29)),
 O 37 (.iaS 2 (tm 20) (tm 23)),
 .op none none (.store 2 (tm 37) (tm 35))]
def e1o:List CO:= [
  mV 14 10,
 O 15 (.add (B .add d5) (tm 14) (.cst (iv 1))),
 mV 10 15]
def e8r:List CO:= [
  lD 4 1,
 O 5 (.len false (tm 4)),
 O 6 (.sub (B .sub d5) (tm 5) (.cst (iv 1))),
 mV 3 6]
def b1G:List CO:= [
  mV 7 3,
 O 8 (.ge (B .geq d5) (tm 7) (.cst (iv 0)))]
def d8V:List CO:= [
  mV 11 0,
 mV 12 3,
 lD 13 1,
 mV 14 3,
 O 15 (.iaS 1 (tm 13) (tm 14)),
 lD 16 15,
 .call (some (pth 17)) none (tm 11) [(tm 12),(tm 16)],
 O 18 (.un .not (tm 17))]
def e2u:List CO:= [
  mV 9 3,
 O 10 (.sub (B .sub d5) (tm 9) (.cst (iv 1))),
 mV 3 10]
def d75:List CO:= [
  O 5 (.box R8 (tm 0)),
 O 10 (.mv (.cst (iv 0))),
 O 11 (.mv (.cst (iv 0)))]
def b2E:List CO:= [
  mV 14 2,
 mV 12 14,
 O 13 (.mv (.cst (iv 0)))]
def a5W:List CO:= [
  O 16 (.loadN 2 (tm 5)),
 mV 17 1,
 mV 18 12,
 mV 19 3,
 C 20 b3O [(tm 16),(tm 17),(tm 18),(tm 19)],
 mV 15 20,
 eX 21 0 15,
 eX 22 1 15,
 mV 12 21,
 mV 13 22]
def a1D:List CO:= [
  mV 24 13,
 O 25 (.ne (B .neq j8) (tm 24) (.cst (iv 0))),
 mV 23 25]
def b1J:List CO:= [
  mV 26 13,
 O 10 (.mv (.cst (iv 0))),
 mV 11 26]
def a1M:List CO:= [
  mV 28 12,
 mV 29 3,
 O 30 (.ge (B .geq d5) (tm 28) (tm 29)),
 mV 27 30]
def a6I:List CO:= [
  O 10 (.mv (.cst (iv 0))),
 O 11 (.mv (.cst (iv 10)))]
def a3t:List CO:= [
  mV 32 4,
 mV 33 12,
 .call (some (pth 34)) none (tm 32) [(tm 33)],
 mV 31 34]
def a6c:List CO:= [
  mV 35 12,
 O 36 (.add (B .add d5) (tm 35) (.cst (iv 1))),
 mV 12 36]
def a55:List CO:= [
  O 37 (.loadN 2 (tm 5)),
 mV 38 1,
 mV 39 12,
 C 40 a7b [(tm 37),(tm 38),(tm 39),(.cst (.b true))],
 mV 13 40]
def a5u:List CO:= [
  mV 41 13,
 O 42 (.ne (B .neq j8) (tm 41) (.cst (iv 0)))]
def b0q:List CO:= [
  mV 43 13,
 O 10 (.mv (.cst (iv 0))),
 mV 11 43]
def a5A:List CO:= [
  mV 44 12,
 mV 10 44,
 O 11 (.mv (.cst (iv 0)))]
noncomputable def a1i:Code:=d0P (Tryz.prog.funcs[181]?)
noncomputable def b72:CC:=(.seq (.reg b2E) (.seq .skip (.seq (.reg a5W) (.seq (.block 0 (.seq (.reg a1D) (.cond (tm 23) (.seq (.reg b1J) .ret) (.seq (.reg a1M) (.cond (tm 27) (.seq (.reg a6I) .ret) (.seq (.reg a3t) (.cond (tm 31) (.seq (.reg a6c) (.goto 0)) .skip))))))) (.seq (.seq (.reg a55) (.seq (.reg a5u) (.cond (tm 42) (.seq (.reg b0q) .ret) .skip))) (.seq (.reg a5A) .ret))))))
theorem f6z:j9 Tryz.prog a1i=b72:=by kernel_rfl
noncomputable def a4y:CC:=(.seq .skip (.seq (.reg a5W) (.seq (.block 0 (.seq (.reg a1D) (.cond (tm 23) (.seq (.reg b1J) .ret) (.seq (.reg a1M) (.cond (tm 27) (.seq (.reg a6I) .ret) (.seq (.reg a3t) (.cond (tm 31) (.seq (.reg a6c) (.goto 0)) .skip))))))) (.seq (.seq (.reg a55) (.seq (.reg a5u) (.cond (tm 42) (.seq (.reg b0q) .ret) .skip))) (.seq (.reg a5A) .ret)))))
theorem f5U:findLabel a1i 0=some (Z7 a1i 0):=by kernel_rfl
theorem f5Q:j9 Tryz.prog (Z7 a1i 0)=a4y:=by kernel_rfl
def b1W:List CO:= [
  O 4 (.mv (.cst (.b false)))]
def b18:List CO:= [
  mV 9 0,
 O 10 (.eqp false (B .eql a77) (tm 9) (.cst s9))]
def g2d:List CO:= [
  O 4 (.mv (.cst (.b false)))]
def b2C:List CO:= [
  mV 12 0,
 nL 13 12,
 fA 14 16 13,
 lD 15 14,
 mV 16 1,
 O 17 (.look (some .i64) (.agg []) true (tm 15) (tm 16)),
 mV 11 17,
 eX 18 0 11,
 eX 19 1 11,
 O 5 (.alloc b8T 0 []),
 .op none none (.store 0 (tm 5) (tm 18)),
 mV 6 19]
def b2S:List CO:= [
  mV 21 0,
 mV 22 1,
 C 23 a6Y [(tm 21),(tm 22)],
 mV 20 23,
 eX 24 0 20,
 eX 25 1 20,
 mV 7 24,
 mV 8 25]
def b1z:List CO:= [
  mV 26 0,
 nL 27 26,
 fA 28 17 27,
 lD 29 28,
 O 30 (.eqp true (B .neq G4) (tm 29) (.cst s9)),
 mV 31 30,
 G 32 31 true (.mv (tm 6)),
 G 33 31 true (.un .not (tm 32)),
 O 34 (.pick (tm 31) (tm 33) (.cst (.b false)))]
def b29:List CO:= [
  mV 36 0,
 nL 37 36,
 fA 38 17 37,
 lD 39 38,
 nL 40 39,
 fA 41 3 40,
 lD 42 41,
 mV 43 1,
 O 44 (.look (some .i64) (.agg []) true (tm 42) (tm 43)),
 mV 35 44,
 eX 45 0 35,
 eX 46 1 35,
 mV 6 46]
def b27:List CO:= [
  mV 47 6,
 mV 48 47,
 G 49 48 false (.mv (tm 8)),
 O 50 (.pick (tm 48) (.cst (.b true)) (tm 49)),
 mV 4 50]
def e1I:List CO:= [
  O 2 (.mv (.cst b35))]
def e4J:List CO:= [
  mV 3 0,
 nL 4 3,
 fA 5 2 4,
 lD 6 5,
 mV 2 6]
def e7s:List CO:= [
  O 1 (.box v7 (tm 0)),
 O 2 (.mv (.cst (iv 0)))]
def d39:List CO:= [
  fA 3 11 1,
 lD 4 3,
 mV 2 4]
def d5j:List CO:= [
  O 3 (.box R8 (tm 0)),
 O 6 (.mv (.cst (iv 0)))]
def e0V:List CO:= [
  O 10 (.loadN 2 (tm 3)),
 mV 11 1,
 mV 12 2,
 C 13 b3P [(tm 10),(tm 11),(tm 12)],
 mV 9 13,
 eX 14 0 9,
 eX 15 1 9,
 mV 7 14,
 mV 8 15]
def d5a:List CO:= [
  mV 17 8,
 O 18 (.ne (B .neq j8) (tm 17) (.cst (iv 0))),
 mV 16 18]
def g3V:List CO:= [
  mV 19 8,
 mV 6 19]
def e9w:List CO:= [
  mV 21 7,
 O 22 (.un .not (tm 21)),
 mV 20 22]
def g3z:List CO:= [
  O 6 (.mv (.cst (iv 11)))]
def e52:List CO:= [
  O 23 (.loadN 2 (tm 3)),
 mV 24 1,
 mV 25 2,
 C 26 a7b [(tm 23),(tm 24),(tm 25),(.cst (.b false))],
 mV 6 26]
def d89:List CO:= [
  O 4 (.mv (.cst (iv 0)))]
def d7M:List CO:= [
  mV 6 0,
 C 7 a3I [(tm 6)],
 mV 5 7]
def e9M:List CO:= [
  mV 8 5,
 O 9 (.ne (B .neq j8) (tm 8) (.cst (iv 0)))]
def g2F:List CO:= [
  mV 10 5,
 mV 4 10]
def d7Z:List CO:= [
  mV 11 1,
 mV 12 0,
 nL 13 12,
 fA 14 0 13,
 lD 15 14,
 nL 16 15,
 fA 17 3 16,
 fA 18 11 17,
 lD 19 18,
 O 20 (.lt (B .lss d5) (tm 11) (tm 19)),
 mV 21 20,
 G 22 21 false (.mv (tm 1)),
 G 23 21 false (.mv (tm 0)),
 G 24 21 false (.nil (tm 23)),
 G 25 21 false (.fa 0 (tm 24)),
 G 26 21 false (.load (tm 25)),
 G 27 21 false (.nil (tm 26)),
 G 28 21 false (.fa 3 (tm 27)),
 G 29 21 false (.fa 1 (tm 28)),
 G 30 21 false (.load (tm 29)),
 G 31 21 false (.ge (B .geq d5) (tm 22) (tm 30)),
 O 32 (.pick (tm 21) (.cst (.b true)) (tm 31))]
def g28:List CO:= [
  O 4 (.mv (.cst (iv 2)))]
def d7y:List CO:= [
  mV 33 0,
 mV 34 1,
 C 35 a6O [(tm 33),(tm 34)]]
def e1S:List CO:= [
  mV 36 0,
 nL 37 36,
 fA 38 3 37,
 lD 39 38,
 mV 40 1,
 O 41 (.build [] []),
 .op none none (.mupd (some .i64) (tm 39) (tm 40) (tm 41))]
def d7t:List CO:= [
  O 4 (.mv (.cst (iv 0)))]
def e92:List CO:= [
  O 2 (.mv (.cst j7))]
def e4V:List CO:= [
  mV 6 0,
 O 7 (.eqp false (B .eql b7K) (tm 6) (.cst s9))]
def g3h:List CO:= [
  O 2 (.mv (.cst j7))]
def e4g:List CO:= [
  O 3 (.mv (.cst j7))]
def e6I:List CO:= [
  mV 8 0,
 nL 9 8,
 fA 10 16 9,
 lD 11 10,
 C 12 b3N [(tm 11)],
 C 13 a9i [(tm 12)],
 O 14 (.len false (tm 13)),
 O 15 (.mv (.cst (iv 0)))]
def e0a:List CO:= [
  O 16 (.lt (B .lss d5) (tm 15) (tm 14))]
def g2z:List CO:= [
  O 17 (.iaS 1 (tm 13) (tm 15)),
 lD 18 17,
 mV 5 18]
def g20:List CO:= [
  mV 19 3,
 mV 20 5,
 mV 21 0,
 nL 22 21,
 fA 23 16 22,
 lD 24 23,
 mV 25 5,
 O 26 (.look (some .i64) j7 false (tm 24) (tm 25)),
 C 27 a0n [(tm 26)],
 O 28 (.build [(iv 0),j7] [(0,1,(tm 20)),(1,1,(tm 27))]),
 O 29 (.bslice a8Q 1 2 [(iv 0),j7] [(0,2,(tm 28))]),
 O 30 (.app a8Q 2 32 [(iv 0),j7] (tm 19) (tm 29)),
 mV 3 30]
def g4G:List CO:= [
  O 31 (.add (B .add d5) (tm 15) (.cst (iv 1))),
 mV 15 31]
def d5B:List CO:= [
  mV 32 3,
 mV 2 32]
def e3P:List CO:= [
  O 4 (.mv (.cst (iv 0)))]
def e4i:List CO:= [
  mV 14 1,
 O 15 (.len true (tm 14)),
 mV 5 15]
def e3C:List CO:= [
  mV 17 5,
 O 18 (.eq (B .eql d5) (tm 17) (.cst (iv 0))),
 mV 19 18,
 G 20 19 false (.mv (tm 1)),
 G 21 19 false (.mv (tm 0)),
 G 22 19 false (.eq (B .eql A9) (tm 20) (tm 21)),
 O 23 (.pick (tm 19) (.cst (.b true)) (tm 22)),
 mV 16 23]
def g3a:List CO:= [
  O 4 (.mv (.cst (iv 0)))]
def e29:List CO:= [
  mV 25 5,
 O 26 (.eq (B .eql d5) (tm 25) (.cst (iv 1))),
 mV 24 26]
def d72:List CO:= [
  mV 27 0,
 mV 28 1,
 O 29 (.ixS (tm 28) (.cst (iv 0))),
 C 30 a7l [(tm 27),(tm 29)],
 mV 4 30]
def g2B:List CO:= [
  mV 32 5,
 mV 33 0,
 O 34 (.len true (tm 33)),
 O 35 (.ge (B .geq d5) (tm 32) (tm 34)),
 mV 31 35]
def g4m:List CO:= [
  O 4 (.mv (.cst (iv (-1))))]
def g13:List CO:= [
  mV 37 5,
 O 38 (.load (.cst (.p (.pointer (some ⟨0,0,none⟩))))),
 O 39 (.le (B .leq d5) (tm 37) (tm 38)),
 mV 40 39,
 G 41 40 true (.mv (tm 0)),
 G 42 40 true (.len true (tm 41)),
 G 43 40 true (.le (B .leq d5) (tm 42) (.cst (iv 64))),
 O 44 (.pick (tm 40) (tm 43) (.cst (.b false))),
 mV 36 44]
def g3Q:List CO:= [
  mV 45 0,
 mV 46 1,
 C 47 b4q [(tm 45),(tm 46)],
 mV 4 47]
def g1E:List CO:= [
  mV 48 1,
 O 49 (.ixS (tm 48) (.cst (iv 0))),
 mV 6 49]
def g1h:List CO:= [
  mV 50 1,
 O 51 (.ixS (tm 50) (.cst (iv 1))),
 mV 7 51]
def g1H:List CO:= [
  O 8 (.mv (.cst (iv 0)))]
def g01:List CO:= [
  mV 52 0,
 O 53 (.len true (tm 52)),
 mV 54 5,
 O 55 (.sub (B .sub d5) (tm 53) (tm 54)),
 O 56 (.add (B .add d5) (tm 55) (.cst (iv 1))),
 mV 9 56]
def g09:List CO:= [
  O 10 (.mv (.cst (iv 0)))]
def g1C:List CO:= [
  mV 57 8,
 mV 58 9,
 O 59 (.lt (B .lss d5) (tm 57) (tm 58))]
def g0B:List CO:= [
  mV 60 0,
 mV 61 8,
 O 62 (.ixS (tm 60) (tm 61)),
 mV 63 6,
 O 64 (.ne (B .neq l3) (tm 62) (tm 63))]
def f95:List CO:= [
  mV 65 0,
 mV 66 8,
 O 67 (.add (B .add d5) (tm 66) (.cst (iv 1))),
 mV 68 9,
 O 69 (.sls (tm 65) (some (tm 67)) (some (tm 68))),
 mV 70 6,
 C 71 a7l [(tm 69),(tm 70)],
 mV 11 71]
def g1i:List CO:= [
  mV 72 11,
 O 73 (.lt (B .lss d5) (tm 72) (.cst (iv 0)))]
def g1F:List CO:= [
  O 4 (.mv (.cst (iv (-1))))]
def g0H:List CO:= [
  mV 74 8,
 mV 75 11,
 O 76 (.add (B .add d5) (tm 75) (.cst (iv 1))),
 O 77 (.add (B .add d5) (tm 74) (tm 76)),
 mV 8 77]
def g0O:List CO:= [
  mV 78 0,
 mV 79 8,
 O 80 (.add (B .add d5) (tm 79) (.cst (iv 1))),
 O 81 (.ixS (tm 78) (tm 80)),
 mV 82 7,
 O 83 (.eq (B .eql l3) (tm 81) (tm 82)),
 mV 84 83,
 G 85 84 true (.mv (tm 0)),
 G 86 84 true (.mv (tm 8)),
 G 87 84 true (.mv (tm 8)),
 G 88 84 true (.mv (tm 5)),
 G 89 84 true (.add (B .add d5) (tm 87) (tm 88)),
 G 90 84 true (.sls (tm 85) (some (tm 86)) (some (tm 89))),
 G 91 84 true (.mv (tm 1)),
 G 92 84 true (.eq (B .eql A9) (tm 90) (tm 91)),
 O 93 (.pick (tm 84) (tm 92) (.cst (.b false)))]
def g1y:List CO:= [
  mV 94 8,
 mV 4 94]
def g0F:List CO:= [
  mV 95 8,
 O 96 (.add (B .add d5) (tm 95) (.cst (iv 1))),
 mV 8 96]
def g1Q:List CO:= [
  mV 97 10,
 O 98 (.add (B .add d5) (tm 97) (.cst (iv 1))),
 mV 10 98]
def g1L:List CO:= [
  mV 99 5,
 O 100 (.load (.cst (.p (.pointer (some ⟨0,0,none⟩))))),
 O 101 (.le (B .leq d5) (tm 99) (tm 100)),
 mV 102 101,
 G 103 102 true (.mv (tm 10)),
 G 104 102 true (.mv (tm 8)),
 .call (some (pth 105)) (some (pth 102,true)) (.cst (.func f3V [])) [(tm 104)],
 G 106 102 true (.gt (B .gtr d5) (tm 103) (tm 105)),
 O 107 (.pick (tm 102) (tm 106) (.cst (.b false)))]
def g0R:List CO:= [
  mV 108 0,
 mV 109 8,
 O 110 (.sls (tm 108) (some (tm 109)) none),
 mV 111 1,
 C 112 b4q [(tm 110),(tm 111)],
 mV 12 112]
def g0n:List CO:= [
  mV 113 12,
 O 114 (.ge (B .geq d5) (tm 113) (.cst (iv 0)))]
def f99:List CO:= [
  mV 115 12,
 mV 116 8,
 O 117 (.add (B .add d5) (tm 115) (tm 116)),
 mV 4 117]
def g0x:List CO:= [
  O 4 (.mv (.cst (iv (-1))))]
def f9U:List CO:= [
  mV 118 5,
 O 119 (.load (.cst (.p (.pointer (some ⟨0,0,none⟩))))),
 O 120 (.gt (B .gtr d5) (tm 118) (tm 119)),
 mV 121 120,
 G 122 121 true (.mv (tm 10)),
 G 123 121 true (.mv (tm 8)),
 G 124 121 true (.slow (B .shr d5) (tm 123) (.cst (.p (.int .u64 (4))))),
 G 125 121 true (.add (B .add d5) (.cst (iv 4)) (tm 124)),
 G 126 121 true (.ge (B .geq d5) (tm 122) (tm 125)),
 O 127 (.pick (tm 121) (tm 126) (.cst (.b false))),
 mV 128 127,
 G 129 128 true (.mv (tm 8)),
 G 130 128 true (.mv (tm 9)),
 G 131 128 true (.lt (B .lss d5) (tm 129) (tm 130)),
 O 132 (.pick (tm 128) (tm 131) (.cst (.b false)))]
def g1J:List CO:= [
  mV 133 0,
 mV 134 8,
 O 135 (.sls (tm 133) (some (tm 134)) none),
 mV 136 1,
 C 137 f3T [(tm 135),(tm 136)],
 mV 13 137]
def g04:List CO:= [
  mV 138 13,
 O 139 (.lt (B .lss d5) (tm 138) (.cst (iv 0)))]
def g0p:List CO:= [
  O 4 (.mv (.cst (iv (-1))))]
def g1D:List CO:= [
  mV 140 8,
 mV 141 13,
 O 142 (.add (B .add d5) (tm 140) (tm 141)),
 mV 4 142]
def g1o:List CO:= [
  O 4 (.mv (.cst (iv (-1))))]
def e3y:List CO:= [
  O 4 (.box R8 (tm 0)),
 O 8 (.mv (.cst (iv 0))),
 O 9 (.mv (.cst (iv 0)))]
def a52:List CO:= [
  mV 14 2,
 mV 15 3,
 O 16 (.lt (B .lss d5) (tm 14) (tm 15))]
def e00:List CO:= [
  mV 18 1,
 fA 19 0 4,
 lD 20 19,
 mV 21 2,
 fA 22 1 4,
 lD 23 22,
 O 24 (.quo (B .quo d5) (tm 21) (tm 23)),
 O 25 (.add (B .add d5) (tm 20) (tm 24)),
 C 26 O6 [(tm 18),(tm 25)],
 mV 17 26,
 eX 27 0 17,
 eX 28 1 17,
 mV 10 27,
 mV 11 28]
def d6b:List CO:= [
  mV 29 11,
 O 30 (.ne (B .neq j8) (tm 29) (.cst (iv 0)))]
def g2t:List CO:= [
  mV 31 11,
 O 8 (.mv (.cst (iv 0))),
 mV 9 31]
def e4D:List CO:= [
  mV 32 2,
 fA 33 1 4,
 lD 34 33,
 O 35 (.quo (B .quo d5) (tm 32) (tm 34)),
 fA 36 1 4,
 lD 37 36,
 O 38 (.mul (B .mul d5) (tm 35) (tm 37)),
 mV 12 38]
def e2i:List CO:= [
  mV 40 10,
 mV 41 2,
 mV 42 12,
 O 43 (.sub (B .sub d5) (tm 41) (tm 42)),
 mV 44 3,
 mV 45 12,
 O 46 (.sub (B .sub d5) (tm 44) (tm 45)),
 fA 47 1 4,
 lD 48 47,
 O 49 (.min (tm 46) (tm 48)),
 C 50 b3Q [(tm 40),(tm 43),(tm 49)],
 mV 39 50,
 eX 51 0 39,
 eX 52 1 39,
 mV 13 51,
 mV 11 52]
def b2a:List CO:= [
  mV 53 11,
 O 54 (.eq (B .eql j8) (tm 53) (.cst (iv 0)))]
def e3K:List CO:= [
  mV 55 12,
 mV 56 13,
 O 57 (.add (B .add d5) (tm 55) (tm 56)),
 mV 8 57,
 O 9 (.mv (.cst (iv 0)))]
def e0i:List CO:= [
  mV 58 12,
 fA 59 1 4,
 lD 60 59,
 O 61 (.add (B .add d5) (tm 58) (tm 60)),
 mV 2 61]
def a90:List CO:= [
  mV 62 3,
 mV 8 62,
 O 9 (.mv (.cst (iv 0)))]
def d6v:List CO:= [
  O 4 (.box R8 (tm 0)),
 O 8 (.mv (.cst (iv 0)))]
def e0g:List CO:= [
  mV 12 1,
 fA 13 0 4,
 lD 14 13,
 mV 15 2,
 fA 16 1 4,
 lD 17 16,
 O 18 (.quo (B .quo d5) (tm 15) (tm 17)),
 O 19 (.add (B .add d5) (tm 14) (tm 18)),
 C 20 O6 [(tm 12),(tm 19)],
 mV 11 20,
 eX 21 0 11,
 eX 22 1 11,
 mV 9 21,
 mV 10 22]
def d98:List CO:= [
  mV 23 10,
 O 24 (.ne (B .neq j8) (tm 23) (.cst (iv 0)))]
def g4s:List CO:= [
  mV 25 10,
 mV 8 25]
def e63:List CO:= [
  mV 27 9,
 mV 28 2,
 fA 29 1 4,
 lD 30 29,
 O 31 (.rem (B .rem d5) (tm 28) (tm 30)),
 mV 32 3,
 C 33 b3K [(tm 27),(tm 31),(tm 32)],
 mV 26 33,
 eX 34 0 26,
 eX 35 1 26,
 mV 9 34]
def e9g:List CO:= [
  mV 36 1,
 fA 37 0 4,
 lD 38 37,
 mV 39 2,
 fA 40 1 4,
 lD 41 40,
 O 42 (.quo (B .quo d5) (tm 39) (tm 41)),
 O 43 (.add (B .add d5) (tm 38) (tm 42)),
 mV 44 9,
 C 45 a00 [(tm 36),(tm 43),(tm 44)],
 mV 8 45]
def d9k:List CO:= [
  O 3 (.box R8 (tm 0)),
 O 6 (.mv (.cst (.b false))),
 O 7 (.mv (.cst (iv 0)))]
def e6m:List CO:= [
  mV 11 1,
 fA 12 0 3,
 lD 13 12,
 mV 14 2,
 fA 15 1 3,
 lD 16 15,
 O 17 (.quo (B .quo d5) (tm 14) (tm 16)),
 O 18 (.add (B .add d5) (tm 13) (tm 17)),
 C 19 O6 [(tm 11),(tm 18)],
 mV 10 19,
 eX 20 0 10,
 eX 21 1 10,
 mV 8 20,
 mV 9 21]
def d5x:List CO:= [
  mV 22 9,
 O 23 (.ne (B .neq j8) (tm 22) (.cst (iv 0)))]
def g3I:List CO:= [
  mV 24 9,
 O 6 (.mv (.cst (.b false))),
 mV 7 24]
def e1m:List CO:= [
  mV 25 8,
 mV 26 2,
 fA 27 1 3,
 lD 28 27,
 O 29 (.rem (B .rem d5) (tm 26) (tm 28)),
 C 30 b3L [(tm 25),(tm 29)],
 eX 31 0 30,
 eX 32 1 30,
 mV 6 31,
 mV 7 32]
def e4j:List CO:= [
  O 1 (.box a4d (tm 0)),
 O 2 (.mv (.cst b4d))]
def e8T:List CO:= [
  O 3 (.fn a4L [(tm 1)]),
 mV 2 3]
def e0H:List CO:= [
  O 4 (.mv (.cst (iv 0)))]
def e2A:List CO:= [
  mV 5 0,
 mV 6 1,
 C 7 b4p [(tm 5),(tm 6)],
 mV 4 7]
def d3K:List CO:= [
  O 6 (.mv (.cst (iv 0))),
 O 7 (.mv (.cst (iv 0)))]
def b1r:List CO:= [
  mV 9 0,
 mV 10 1,
 mV 11 2,
 C 12 b3v [(tm 9),(tm 10),(tm 11)],
 O 13 (.un .not (tm 12))]
def b1B:List CO:= [
  O 6 (.mv (.cst (iv 0))),
 O 7 (.mv (.cst (iv 2)))]
def b2V:List CO:= [
  mV 14 1,
 mV 8 14]
def a0L:List CO:= [
  mV 15 8,
 mV 16 2,
 O 17 (.ge (B .geq d5) (tm 15) (tm 16))]
def a6k:List CO:= [
  O 6 (.mv (.cst (iv 0))),
 O 7 (.mv (.cst (iv 11)))]
def a1P:List CO:= [
  mV 18 8,
 O 19 (.rem (B .rem d5) (tm 18) (.cst (iv 8))),
 O 20 (.eq (B .eql d5) (tm 19) (.cst (iv 0)))]
def U7:List CO:= [
  mV 21 0,
 mV 22 8,
 O 23 (.quo (B .quo d5) (tm 22) (.cst (iv 8))),
 O 24 (.iaS 1 (tm 21) (tm 23)),
 lD 25 24,
 mV 26 8,
 O 27 (.rem (B .rem d5) (tm 26) (.cst (iv 8))),
 O 28 (.slow (B .shr l3) (tm 25) (tm 27)),
 O 29 (.and (B .and l3) (tm 28) (.cst (.y 1))),
 O 30 (.eq (B .eql l3) (tm 29) (.cst (.y 0)))]
def a0P:List CO:= [
  mV 31 8,
 mV 6 31,
 O 7 (.mv (.cst (iv 0)))]
def a0S:List CO:= [
  mV 32 8,
 O 33 (.add (B .add d5) (tm 32) (.cst (iv 1))),
 mV 8 33]
def U2:List CO:= [
  mV 34 0,
 mV 35 8,
 O 36 (.quo (B .quo d5) (tm 35) (.cst (iv 8))),
 O 37 (.iaS 1 (tm 34) (tm 36)),
 lD 38 37,
 O 39 (.ne (B .neq l3) (tm 38) (.cst (.y 255)))]
def Y4:List CO:= [
  mV 40 8,
 O 41 (.add (B .add d5) (tm 40) (.cst (iv 8))),
 mV 8 41]
noncomputable def J3:Code:=d0P (Tryz.prog.funcs[210]?)
noncomputable def b7d:CC:=(.seq (.seq (.reg b1r) (.cond (tm 13) (.seq (.reg b1B) .ret) .skip)) (.seq (.reg b2V) (.seq .skip (.seq (.seq (.reg a0L) (.cond (tm 17) (.seq (.reg a6k) .ret) .skip)) (.seq (.seq (.reg a1P) (.cond (tm 20) (.goto 1) .skip)) (.seq .skip (.seq (.seq (.reg U7) (.cond (tm 30) (.seq (.reg a0P) .ret) .skip)) (.seq (.reg a0S) (.seq (.goto 0) (.seq .skip (.seq (.seq (.reg U2) (.cond (tm 39) (.goto 2) .skip)) (.seq (.reg Y4) (.goto 0)))))))))))))
theorem f5z:j9 Tryz.prog J3=b7d:=by kernel_rfl
noncomputable def a4g:CC:=(.seq .skip (.seq (.seq (.reg a0L) (.cond (tm 17) (.seq (.reg a6k) .ret) .skip)) (.seq (.seq (.reg a1P) (.cond (tm 20) (.goto 1) .skip)) (.seq .skip (.seq (.seq (.reg U7) (.cond (tm 30) (.seq (.reg a0P) .ret) .skip)) (.seq (.reg a0S) (.seq (.goto 0) (.seq .skip (.seq (.seq (.reg U2) (.cond (tm 39) (.goto 2) .skip)) (.seq (.reg Y4) (.goto 0)))))))))))
theorem a7X:findLabel J3 0=some (Z7 J3 0):=by kernel_rfl
theorem a79:j9 Tryz.prog (Z7 J3 0)=a4g:=by kernel_rfl
noncomputable def a8b:CC:=(.seq .skip (.seq (.seq (.reg U7) (.cond (tm 30) (.seq (.reg a0P) .ret) .skip)) (.seq (.reg a0S) (.seq (.goto 0) (.seq .skip (.seq (.seq (.reg U2) (.cond (tm 39) (.goto 2) .skip)) (.seq (.reg Y4) (.goto 0))))))))
theorem f4L:findLabel J3 2=some (Z7 J3 2):=by kernel_rfl
theorem f4M:j9 Tryz.prog (Z7 J3 2)=a8b:=by kernel_rfl
noncomputable def b6D:CC:=(.seq .skip (.seq (.seq (.reg U2) (.cond (tm 39) (.goto 2) .skip)) (.seq (.reg Y4) (.goto 0))))
theorem f4O:findLabel J3 1=some (Z7 J3 1):=by kernel_rfl
theorem f4Q:j9 Tryz.prog (Z7 J3 1)=b6D:=by kernel_rfl
def b1g:List CO:= [
  O 6 (.mv (.cst j7)),
 O 7 (.mv (.cst (iv 0)))]
def b1N:List CO:= [
  mV 9 1,
 O 10 (.lt (B .lss d5) (tm 9) (.cst (iv 0))),
 mV 11 10,
 G 12 11 false (.mv (tm 1)),
 G 13 11 false (.quo (B .quo d5) (tm 12) (.cst (iv 8))),
 G 14 11 false (.mv (tm 0)),
 G 15 11 false (.len false (tm 14)),
 G 16 11 false (.ge (B .geq d5) (tm 13) (tm 15)),
 O 17 (.pick (tm 11) (.cst (.b true)) (tm 16))]
def g2o:List CO:= [
  O 6 (.mv (.cst j7)),
 O 7 (.mv (.cst (iv 2)))]
def b26:List CO:= [
  mV 18 0,
 C 19 a0n [(tm 18)],
 mV 8 19]
def b1Q:List CO:= [
  mV 20 2]
def e76:List CO:= [
  mV 21 8,
 mV 22 1,
 O 23 (.quo (B .quo d5) (tm 22) (.cst (iv 8))),
 O 24 (.iaS 1 (tm 21) (tm 23)),
 lD 25 24,
 mV 26 1,
 O 27 (.rem (B .rem d5) (tm 26) (.cst (iv 8))),
 O 28 (.slow (B .shl l3) (.cst (.y 1)) (tm 27)),
 O 29 (.slow (B .or l3) (tm 25) (tm 28)),
 O 30 (.iaS 1 (tm 21) (tm 23)),
 .op none none (.store 1 (tm 30) (tm 29))]
def d3q:List CO:= [
  mV 31 8,
 mV 32 1,
 O 33 (.quo (B .quo d5) (tm 32) (.cst (iv 8))),
 O 34 (.iaS 1 (tm 31) (tm 33)),
 lD 35 34,
 mV 36 1,
 O 37 (.rem (B .rem d5) (tm 36) (.cst (iv 8))),
 O 38 (.slow (B .shl l3) (.cst (.y 1)) (tm 37)),
 O 39 (.slow (B .andNot l3) (tm 35) (tm 38)),
 O 40 (.iaS 1 (tm 31) (tm 33)),
 .op none none (.store 1 (tm 40) (tm 39))]
def b2h:List CO:= [
  mV 41 8,
 mV 6 41,
 O 7 (.mv (.cst (iv 0)))]
def b1P:List CO:= [
  O 4 (.mv (.cst (.b false))),
 O 5 (.mv (.cst (iv 0)))]
def b2y:List CO:= [
  mV 6 1,
 O 7 (.lt (B .lss d5) (tm 6) (.cst (iv 0))),
 mV 8 7,
 G 9 8 false (.mv (tm 1)),
 G 10 8 false (.quo (B .quo d5) (tm 9) (.cst (iv 8))),
 G 11 8 false (.mv (tm 0)),
 G 12 8 false (.len false (tm 11)),
 G 13 8 false (.ge (B .geq d5) (tm 10) (tm 12)),
 O 14 (.pick (tm 8) (.cst (.b true)) (tm 13))]
def g25:List CO:= [
  O 4 (.mv (.cst (.b false))),
 O 5 (.mv (.cst (iv 2)))]
def b2J:List CO:= [
  mV 15 0,
 mV 16 1,
 O 17 (.quo (B .quo d5) (tm 16) (.cst (iv 8))),
 O 18 (.iaS 1 (tm 15) (tm 17)),
 lD 19 18,
 mV 20 1,
 O 21 (.rem (B .rem d5) (tm 20) (.cst (iv 8))),
 O 22 (.slow (B .shr l3) (tm 19) (tm 21)),
 O 23 (.and (B .and l3) (tm 22) (.cst (.y 1))),
 O 24 (.eq (B .eql l3) (tm 23) (.cst (.y 1))),
 mV 4 24,
 O 5 (.mv (.cst (iv 0)))]
def d92:List CO:= [
  O 6 (.mv (.cst (.b false)))]
def d66:List CO:= [
  mV 7 1,
 O 8 (.ge (B .geq d5) (tm 7) (.cst (iv 0))),
 mV 9 8,
 G 10 9 true (.mv (tm 1)),
 G 11 9 true (.mv (tm 2)),
 G 12 9 true (.le (B .leq d5) (tm 10) (tm 11)),
 O 13 (.pick (tm 9) (tm 12) (.cst (.b false))),
 mV 14 13,
 G 15 14 true (.mv (tm 2)),
 G 16 14 true (.mv (tm 0)),
 G 17 14 true (.len false (tm 16)),
 G 18 14 true (.mul (B .mul d5) (.cst (iv 8)) (tm 17)),
 G 19 14 true (.le (B .leq d5) (tm 15) (tm 18)),
 O 20 (.pick (tm 14) (tm 19) (.cst (.b false))),
 mV 6 20]
def e6Q:CC:=(.seq (.reg g2y) .ret)
def d6F:CC:=(.cond (tm 18) e6Q .skip)
def e9f:CC:=(.seq (.reg e23) d6F)
def c1d:CC:=(.cond (tm 33) .skip (.exit 0))
def b05:CC:=(.seq (.reg a6b) c1d)
def d1G:CC:=(.cond (tm 59) (.exit 1) .skip)
def b0R:CC:=(.seq (.reg a1x) d1G)
def c1W:CC:=(.cond (tm 64) .skip (.exit 2))
def d2W:CC:=(.seq (.reg a1r) c1W)
def c8L:CC:=(.reg a5v)
def c43:CC:=(.block 3 c8L)
def d1f:CC:=(.reg a47)
def c2Y:CC:=(.seq c43 d1f)
def c25:CC:=(.seq d2W c2Y)
def d1T:CC:=(.loop c25)
def c7D:CC:=(.block 2 d1T)
def b0E:CC:=(.seq (.reg c0x) c7D)
def c4r:CC:=(.cond (tm 83) (.exit 1) .skip)
def a9Z:CC:=(.seq (.reg b0p) c4r)
def c68:CC:=(.cond (tm 87) .skip (.exit 4))
def d20:CC:=(.seq (.reg a5E) c68)
def c59:CC:=(.reg c8C)
def c3M:CC:=(.cond (tm 96) c59 .skip)
def c1z:CC:=(.seq (.drawn b0V [(3,0),(5,0)]) c3M)
def d2B:CC:=(.block 5 c1z)
def c9G:CC:=(.reg b01)
def c9X:CC:=(.seq d2B c9G)
def c8h:CC:=(.seq d20 c9X)
def c0K:CC:=(.loop c8h)
def d08:CC:=(.block 4 c0K)
def a9U:CC:=(.seq (.reg c61) d08)
def c44:CC:=(.reg c1i)
def c3w:CC:=(.reg c7C)
def c3v:CC:=(.seq (.reg c2U) c3w)
def d0E:CC:=(.cond (tm 111) c44 c3v)
def c8t:CC:=(.seq (.reg b02) d0E)
def c57:CC:=(.seq (.reg b0x) c8t)
def c9V:CC:=(.reg d0n)
def c3B:CC:=(.reg c3K)
def c3a:CC:=(.cond (tm 133) c9V c3B)
def d0T:CC:=(.seq (.reg b0Q) c3a)
def c79:CC:=(.seq (.reg b0e) d0T)
def c4P:CC:=(.reg c51)
def c2t:CC:=(.drawn d1V [(3,0),(3,1),(8,0),(8,1),(8,5)])
def d1m:CC:=(.seq (.drawn c1Y [(3,0),(3,1),(8,0),(8,1),(8,5)]) c2t)
def d12:CC:=(.cond (tm 148) c4P d1m)
def c8Y:CC:=(.seq (.reg b0T) d12)
def c83:CC:=(.seq (.reg b1b) c8Y)
def c30:CC:=(.cond (tm 139) c83 .skip)
def c5g:CC:=(.seq (.reg a4Z) c30)
def c2P:CC:=(.cond (tm 122) c79 c5g)
def d0o:CC:=(.seq (.reg a1q) c2P)
def c6m:CC:=(.cond (tm 100) c57 d0o)
def c2i:CC:=(.seq (.reg X8) c6m)
def c15:CC:=(.block 6 c2i)
def a5a:CC:=(.seq (.reg Y3) c15)
def c3S:CC:=(.seq (.reg g0W) .ret)
def c9H:CC:=(.cond (tm 180) c3S .skip)
def a92:CC:=(.seq (.reg c9S) c9H)
def c1t:CC:=(.seq a5a a92)
def a2X:CC:=(.seq (.reg b0o) c1t)
def c3I:CC:=(.seq a9U a2X)
def a40:CC:=(.seq (.reg b0U) c3I)
def a45:CC:=(.seq a9Z a40)
def d15:CC:=(.seq b0E a45)
def a5w:CC:=(.seq (.reg b0y) d15)
def c8X:CC:=(.seq b0R a5w)
def a2Z:CC:=(.seq (.reg a0D) c8X)
def c9W:CC:=(.block 1 a2Z)
def b0M:CC:=(.reg b1m)
def c81:CC:=(.seq c9W b0M)
def b0t:CC:=(.seq b05 c81)
def c1n:CC:=(.loop b0t)
def c88:CC:=(.block 0 c1n)
def c2v:CC:=(.seq (.reg e4A) c88)
def c4N:CC:=(.seq (.reg b0C) .ret)
def e9k:CC:=(.seq c2v c4N)
def d7D:CC:=(.seq (.reg e6b) e9k)
def d30:CC:=(.seq (.reg d6L) d7D)
def d3j:CC:=(.seq (.reg d4w) d30)
def e5C:CC:=(.seq (.reg e94) d3j)
def e2p:CC:=(.seq e9f e5C)
def f3i:CC:=(.seq (.reg e0O) e2p)
theorem B5:type_of% (qz e6Q.eq_1 (qz d6F.eq_1 (qz e9f.eq_1 (qz c1d.eq_1 (qz b05.eq_1 (qz d1G.eq_1 (qz b0R.eq_1 (qz c1W.eq_1 (qz d2W.eq_1 (qz c8L.eq_1 (qz c43.eq_1 (qz d1f.eq_1 (qz c2Y.eq_1 (qz c25.eq_1 (qz d1T.eq_1 (qz c7D.eq_1 (qz b0E.eq_1 (qz c4r.eq_1 (qz a9Z.eq_1 (qz c68.eq_1 (qz d20.eq_1 (qz c59.eq_1 (qz c3M.eq_1 (qz c1z.eq_1 (qz d2B.eq_1 (qz c9G.eq_1 (qz c9X.eq_1 (qz c8h.eq_1 (qz c0K.eq_1 (qz d08.eq_1 (qz a9U.eq_1 (qz c44.eq_1 (qz c3w.eq_1 (qz c3v.eq_1 (qz d0E.eq_1 (qz c8t.eq_1 (qz c57.eq_1 (qz c9V.eq_1 (qz c3B.eq_1 (qz c3a.eq_1 (qz d0T.eq_1 (qz c79.eq_1 (qz c4P.eq_1 (qz c2t.eq_1 (qz d1m.eq_1 (qz d12.eq_1 (qz c8Y.eq_1 (qz c83.eq_1 (qz c30.eq_1 (qz c5g.eq_1 (qz c2P.eq_1 (qz d0o.eq_1 (qz c6m.eq_1 (qz c2i.eq_1 (qz c15.eq_1 (qz a5a.eq_1 (qz c3S.eq_1 (qz c9H.eq_1 (qz a92.eq_1 (qz c1t.eq_1 (qz a2X.eq_1 (qz c3I.eq_1 (qz a40.eq_1 (qz a45.eq_1 (qz d15.eq_1 (qz a5w.eq_1 (qz c8X.eq_1 (qz a2Z.eq_1 (qz c9W.eq_1 (qz b0M.eq_1 (qz c81.eq_1 (qz b0t.eq_1 (qz c1n.eq_1 (qz c88.eq_1 (qz c2v.eq_1 (qz c4N.eq_1 (qz e9k.eq_1 (qz d7D.eq_1 (qz d30.eq_1 (qz d3j.eq_1 (qz e5C.eq_1 (qz e2p.eq_1 (qy f3i.eq_1))))))))))))))))))))))))))))))))))))))))))))))))))))))))))))))))))))))))))))))))))):=⟨kr,kr,kr,kr,kr,kr,kr,kr,kr,kr,kr,kr,kr,kr,kr,kr,kr,kr,kr,kr,kr,kr,kr,kr,kr,kr,kr,kr,kr,kr,kr,kr,kr,kr,kr,kr,kr,kr,kr,kr,kr,kr,kr,kr,kr,kr,kr,kr,kr,kr,kr,kr,kr,kr,kr,kr,kr,kr,kr,kr,kr,kr,kr,kr,kr,kr,kr,kr,kr,kr,kr,kr,kr,kr,kr,kr,kr,kr,kr,kr,kr,kr,kr⟩
theorem g5L:FnAt Tryz.prog tb f0e f3i 181 [.tmp 2] :=j6 i7 Tryz.func5 rfl (by kernel_rfl) (by kernel_rfl) rfl rfl
def e0N:CC:=(.seq (.reg b2m) .ret)
def f1J:CC:=(.seq (.reg b1S) e0N)
theorem f2I:type_of% (qz e0N.eq_1 (qy f1J.eq_1)):=⟨kr,kr⟩
theorem f0z:FnAt Tryz.prog tb a0f f1J 20 [.tmp 12] :=j6 i7 Tryz.func9 rfl (by kernel_rfl) (by kernel_rfl) rfl rfl
def d53:CC:=(.seq (.reg g2x) .ret)
def e8Y:CC:=(.cond (tm 21) d53 .skip)
def e6V:CC:=(.seq (.reg e8l) e8Y)
def e2q:CC:=(.seq (.reg d54) .ret)
def e7L:CC:=(.seq (.reg e4o) e2q)
def d9e:CC:=(.seq e6V e7L)
def d3g:CC:=(.seq (.reg e61) d9e)
def f3k:CC:=(.seq (.reg d5K) d3g)
theorem g7x:type_of% (qz d53.eq_1 (qz e8Y.eq_1 (qz e6V.eq_1 (qz e2q.eq_1 (qz e7L.eq_1 (qz d9e.eq_1 (qz d3g.eq_1 (qy f3k.eq_1)))))))):=⟨kr,kr,kr,kr,kr,kr,kr,kr⟩
theorem g5y:FnAt Tryz.prog tb a6P f3k 32 [.tmp 8,.tmp 9] :=j6 i7 Tryz.func10 rfl (by kernel_rfl) (by kernel_rfl) rfl rfl
def d4b:CC:=(.seq (.reg g3e) .ret)
def e9x:CC:=(.seq (.reg e9H) .ret)
def d8M:CC:=(.cond (tm 30) e9x .skip)
def e1c:CC:=(.seq (.reg b2u) d8M)
def e4k:CC:=(.cond (tm 26) d4b e1c)
def e1e:CC:=(.seq (.reg b16) e4k)
def e2E:CC:=(.block 0 e1e)
def d1a:CC:=(.seq (.reg g2j) .ret)
def c8H:CC:=(.cond (tm 50) d1a .skip)
def d1d:CC:=(.seq (.reg d6J) c8H)
def c49:CC:=(.seq (.reg e7i) d1d)
def c1h:CC:=(.seq (.reg c80) .ret)
def c0L:CC:=(.seq c49 c1h)
def c1e:CC:=(.seq (.reg d7z) c0L)
def d3C:CC:=(.seq e2E c1e)
def e3w:CC:=(.seq (.reg b2v) d3C)
def f3h:CC:=(.seq (.reg b2X) e3w)
theorem f2G:type_of% (qz d4b.eq_1 (qz e9x.eq_1 (qz d8M.eq_1 (qz e1c.eq_1 (qz e4k.eq_1 (qz e1e.eq_1 (qz e2E.eq_1 (qz d1a.eq_1 (qz c8H.eq_1 (qz d1d.eq_1 (qz c49.eq_1 (qz c1h.eq_1 (qz c0L.eq_1 (qz c1e.eq_1 (qz d3C.eq_1 (qz e3w.eq_1 (qy f3h.eq_1))))))))))))))))):=⟨kr,kr,kr,kr,kr,kr,kr,kr,kr,kr,kr,kr,kr,kr,kr,kr,kr⟩
theorem f00:FnAt Tryz.prog tb a16 f3h 59 [.tmp 10] :=j6 i7 Tryz.func12 rfl (by kernel_rfl) (by kernel_rfl) rfl rfl
def e9U:CC:=(.seq (.reg g4E) .ret)
def d9J:CC:=(.cond (tm 14) e9U .skip)
def e83:CC:=(.seq (.reg e6c) d9J)
def e5G:CC:=(.seq (.reg g2h) .ret)
def e8M:CC:=(.cond (tm 26) e5G .skip)
def d4m:CC:=(.seq (.reg d6g) e8M)
def c6T:CC:=(.seq (.reg g3O) .ret)
def c0s:CC:=(.cond (tm 39) c6T .skip)
def c5P:CC:=(.seq (.reg e8s) c0s)
def d2O:CC:=(.seq (.reg e7w) .ret)
def c6u:CC:=(.seq c5P d2O)
def c3i:CC:=(.seq (.reg d7r) c6u)
def e6Y:CC:=(.seq d4m c3i)
def e9m:CC:=(.seq (.reg e9A) e6Y)
def e6L:CC:=(.seq e83 e9m)
def f2s:CC:=(.seq (.reg d91) e6L)
theorem g7a:type_of% (qz e9U.eq_1 (qz d9J.eq_1 (qz e83.eq_1 (qz e5G.eq_1 (qz e8M.eq_1 (qz d4m.eq_1 (qz c6T.eq_1 (qz c0s.eq_1 (qz c5P.eq_1 (qz d2O.eq_1 (qz c6u.eq_1 (qz c3i.eq_1 (qz e6Y.eq_1 (qz e9m.eq_1 (qz e6L.eq_1 (qy f2s.eq_1)))))))))))))))):=⟨kr,kr,kr,kr,kr,kr,kr,kr,kr,kr,kr,kr,kr,kr,kr,kr⟩
theorem g5C:FnAt Tryz.prog tb R1 f2s 42 [.cell 6 A3,.tmp 7] :=j6 i7 Tryz.func13 rfl (by kernel_rfl) (by kernel_rfl) rfl rfl
def d5c:CC:=(.seq (.reg b1F) .ret)
def f1v:CC:=(.seq (.reg b2i) d5c)
theorem f3A:type_of% (qz d5c.eq_1 (qy f1v.eq_1)):=⟨kr,kr⟩
theorem f1b:FnAt Tryz.prog tb a0j f1v 20 [.tmp 12] :=j6 i7 Tryz.func14 rfl (by kernel_rfl) (by kernel_rfl) rfl rfl
def e04:CC:=(.seq (.reg g2J) .ret)
def e5Z:CC:=(.cond (tm 52) e04 .skip)
def d5L:CC:=(.seq (.reg d4A) e5Z)
def c3c:CC:=(.cond (tm 56) .skip (.exit 0))
def d1A:CC:=(.seq (.reg b1k) c3c)
def d10:CC:=(.seq (.reg g2r) .ret)
def c6N:CC:=(.cond (tm 70) d10 .skip)
def c9U:CC:=(.seq (.drawn e5h [(5,0),(10,0)]) c6N)
def c1q:CC:=(.block 1 c9U)
def c2N:CC:=(.reg d7u)
def d1L:CC:=(.seq c1q c2N)
def c34:CC:=(.seq d1A d1L)
def d0b:CC:=(.loop c34)
def e2C:CC:=(.block 0 d0b)
def e2U:CC:=(.seq (.reg d56) e2C)
def c8p:CC:=(.cond (tm 74) .skip (.exit 2))
def c4o:CC:=(.seq (.reg b0i) c8p)
def c9u:CC:=(.seq (.reg g1I) .ret)
def c2H:CC:=(.cond (tm 97) c9u .skip)
def c7V:CC:=(.seq (.reg c1w) c2H)
def c2M:CC:=(.seq (.drawn c8R [(2,0),(6,0)]) c7V)
def c9f:CC:=(.block 3 c2M)
def c8d:CC:=(.reg c5b)
def c9h:CC:=(.seq c9f c8d)
def d0V:CC:=(.seq c4o c9h)
def c76:CC:=(.loop d0V)
def c2o:CC:=(.block 2 c76)
def d02:CC:=(.seq (.reg c1Q) c2o)
def c6H:CC:=(.seq (.reg c4J) .ret)
def c72:CC:=(.seq d02 c6H)
def d8I:CC:=(.seq e2U c72)
def d71:CC:=(.seq d5L d8I)
def d94:CC:=(.seq (.reg d5p) d71)
def e3i:CC:=(.seq (.reg d8l) d94)
def f2T:CC:=(.seq (.reg d3h) e3i)
theorem a4a:type_of% (qz e04.eq_1 (qz e5Z.eq_1 (qz d5L.eq_1 (qz c3c.eq_1 (qz d1A.eq_1 (qz d10.eq_1 (qz c6N.eq_1 (qz c9U.eq_1 (qz c1q.eq_1 (qz c2N.eq_1 (qz d1L.eq_1 (qz c34.eq_1 (qz d0b.eq_1 (qz e2C.eq_1 (qz e2U.eq_1 (qz c8p.eq_1 (qz c4o.eq_1 (qz c9u.eq_1 (qz c2H.eq_1 (qz c7V.eq_1 (qz c2M.eq_1 (qz c9f.eq_1 (qz c8d.eq_1 (qz c9h.eq_1 (qz d0V.eq_1 (qz c76.eq_1 (qz c2o.eq_1 (qz d02.eq_1 (qz c6H.eq_1 (qz c72.eq_1 (qz d8I.eq_1 (qz d71.eq_1 (qz d94.eq_1 (qz e3i.eq_1 (qy f2T.eq_1))))))))))))))))))))))))))))))))))):=⟨kr,kr,kr,kr,kr,kr,kr,kr,kr,kr,kr,kr,kr,kr,kr,kr,kr,kr,kr,kr,kr,kr,kr,kr,kr,kr,kr,kr,kr,kr,kr,kr,kr,kr,kr⟩
theorem g5X:FnAt Tryz.prog tb a7g f2T 98 [.tmp 10] :=j6 i7 Tryz.func15 rfl (by kernel_rfl) (by kernel_rfl) rfl rfl
def e0Z:CC:=(.seq (.reg g3d) .ret)
def e44:CC:=(.seq (.reg g2U) .ret)
def d8D:CC:=(.cond (tm 29) e44 .skip)
def d8G:CC:=(.seq (.reg e2x) d8D)
def e2F:CC:=(.cond (tm 25) e0Z d8G)
def d8k:CC:=(.seq (.reg e9G) e2F)
def d5R:CC:=(.block 0 d8k)
def d1U:CC:=(.seq (.reg e0r) .ret)
def e7k:CC:=(.seq d5R d1U)
def d7G:CC:=(.seq (.reg d8c) e7k)
def f3P:CC:=(.seq (.reg e2v) d7G)
theorem g7s:type_of% (qz e0Z.eq_1 (qz e44.eq_1 (qz d8D.eq_1 (qz d8G.eq_1 (qz e2F.eq_1 (qz d8k.eq_1 (qz d5R.eq_1 (qz d1U.eq_1 (qz e7k.eq_1 (qz d7G.eq_1 (qy f3P.eq_1))))))))))):=⟨kr,kr,kr,kr,kr,kr,kr,kr,kr,kr,kr⟩
theorem g5f:FnAt Tryz.prog tb a7o f3P 40 [.tmp 10,.tmp 11] :=j6 i7 Tryz.func16 rfl (by kernel_rfl) (by kernel_rfl) rfl rfl
def e62:CC:=(.seq (.reg g2m) .ret)
def e9J:CC:=(.cond (tm 18) e62 .skip)
def e4y:CC:=(.seq (.reg e0f) e9J)
def d8v:CC:=(.seq (.reg g2Y) .ret)
def e0S:CC:=(.cond (tm 30) d8v .skip)
def e2j:CC:=(.seq (.reg e1D) e0S)
def e2D:CC:=(.seq (.reg e32) e2j)
def c5d:CC:=(.seq (.reg g23) .ret)
def c4i:CC:=(.cond (tm 38) c5d .skip)
def c8m:CC:=(.seq (.reg d9x) c4i)
def c5c:CC:=(.seq (.reg g0k) .ret)
def c7v:CC:=(.cond (tm 50) c5c .skip)
def c3O:CC:=(.seq (.reg c0r) c7v)
def c0Z:CC:=(.seq (.reg c4w) .ret)
def c4F:CC:=(.seq (.reg c01) c0Z)
def c3k:CC:=(.seq c3O c4F)
def c9J:CC:=(.seq (.reg e8a) c3k)
def c9K:CC:=(.seq c8m c9J)
def c0O:CC:=(.seq (.reg e91) c9K)
def e0T:CC:=(.seq e2D c0O)
def d5o:CC:=(.seq e4y e0T)
def f2Q:CC:=(.seq (.reg d3t) d5o)
theorem g7H:type_of% (qz e62.eq_1 (qz e9J.eq_1 (qz e4y.eq_1 (qz d8v.eq_1 (qz e0S.eq_1 (qz e2j.eq_1 (qz e2D.eq_1 (qz c5d.eq_1 (qz c4i.eq_1 (qz c8m.eq_1 (qz c5c.eq_1 (qz c7v.eq_1 (qz c3O.eq_1 (qz c0Z.eq_1 (qz c4F.eq_1 (qz c3k.eq_1 (qz c9J.eq_1 (qz c9K.eq_1 (qz c0O.eq_1 (qz e0T.eq_1 (qz d5o.eq_1 (qy f2Q.eq_1)))))))))))))))))))))):=⟨kr,kr,kr,kr,kr,kr,kr,kr,kr,kr,kr,kr,kr,kr,kr,kr,kr,kr,kr,kr,kr,kr⟩
theorem g4Z:FnAt Tryz.prog tb a3V f2Q 61 [.tmp 8] :=j6 i7 Tryz.func27 rfl (by kernel_rfl) (by kernel_rfl) rfl rfl
def e4q:CC:=(.seq (.reg g3f) .ret)
def e7r:CC:=(.cond (tm 22) e4q .skip)
def e6W:CC:=(.seq (.reg a3n) e7r)
def e98:CC:=(.seq (.reg a3s) e6W)
def d9z:CC:=(.seq (.reg g2L) .ret)
def e6y:CC:=(.cond (tm 29) d9z .skip)
def d81:CC:=(.seq (.reg a3q) e6y)
def d2U:CC:=(.seq (.reg g3Y) .ret)
def c19:CC:=(.seq (.reg c8E) .ret)
def c6O:CC:=(.reg c9o)
def c8z:CC:=(.seq (.reg c9A) .ret)
def c5R:CC:=(.cond (tm 57) c8z .skip)
def d2j:CC:=(.seq (.reg b0P) c5R)
def c8J:CC:=(.cond (tm 50) c6O d2j)
def c0X:CC:=(.seq (.reg a5B) c8J)
def d2i:CC:=(.cond (tm 44) c19 c0X)
def c5S:CC:=(.seq (.reg a3i) d2i)
def c5K:CC:=(.cond (tm 40) d2U c5S)
def c0D:CC:=(.seq (.reg a3b) c5K)
def c6g:CC:=(.block 0 c0D)
def c5L:CC:=(.seq (.reg a9Y) .ret)
def c2B:CC:=(.seq c6g c5L)
def c1m:CC:=(.seq (.reg a3h) c2B)
def d6e:CC:=(.seq d81 c1m)
def d6K:CC:=(.seq e98 d6e)
def f2x:CC:=(.seq (.reg a3u) d6K)
theorem a7L:type_of% (qz e4q.eq_1 (qz e7r.eq_1 (qz e6W.eq_1 (qz e98.eq_1 (qz d9z.eq_1 (qz e6y.eq_1 (qz d81.eq_1 (qz d2U.eq_1 (qz c19.eq_1 (qz c6O.eq_1 (qz c8z.eq_1 (qz c5R.eq_1 (qz d2j.eq_1 (qz c8J.eq_1 (qz c0X.eq_1 (qz d2i.eq_1 (qz c5S.eq_1 (qz c5K.eq_1 (qz c0D.eq_1 (qz c6g.eq_1 (qz c5L.eq_1 (qz c2B.eq_1 (qz c1m.eq_1 (qz d6e.eq_1 (qz d6K.eq_1 (qy f2x.eq_1)))))))))))))))))))))))))):=⟨kr,kr,kr,kr,kr,kr,kr,kr,kr,kr,kr,kr,kr,kr,kr,kr,kr,kr,kr,kr,kr,kr,kr,kr,kr,kr⟩
theorem a7h:FnAt Tryz.prog tb a06 f2x 66 [.tmp 14] :=j6 i7 Tryz.func28 rfl (by kernel_rfl) (by kernel_rfl) rfl rfl
theorem f4N:type_of% ((qw b7n (.reg a8N) kr)):=kr
theorem f4T:type_of% ((qw b7h (.reg a8L) kr)):=kr
def b5W:CC:=(.seq (.reg b7x) .ret)
def b6b:CC:=(.seq (.reg b7F) .ret)
def b5Z:CC:=(.seq (.reg b7s) .ret)
def b5F:CC:=(.seq (.reg b7A) .ret)
def b5M:CC:=(.cond (tm 38) b5F .skip)
def b5w:CC:=(.seq (.reg a8I) b5M)
def b6c:CC:=(.cond (tm 34) b5Z b5w)
def b56:CC:=(.seq (.reg a8M) b6c)
def b6h:CC:=(.cond (tm 30) b6b b56)
def b6i:CC:=(.seq (.reg a8P) b6h)
def b6d:CC:=(.cond (tm 26) b5W b6i)
def b6a:CC:=(.seq (.reg a8R) b6d)
theorem f4G:type_of% (qz b5W.eq_1 (qz b6b.eq_1 (qz b5Z.eq_1 (qz b5F.eq_1 (qz b5M.eq_1 (qz b5w.eq_1 (qz b6c.eq_1 (qz b56.eq_1 (qz b6h.eq_1 (qz b6i.eq_1 (qz b6d.eq_1 (qz b6a.eq_1 ((qw b7b (.block 0 b6a) kr)))))))))))))):=⟨kr,kr,kr,kr,kr,kr,kr,kr,kr,kr,kr,kr,kr⟩
theorem f4K:type_of% ((qw b7m (.reg a8p) kr)):=kr
theorem f44:type_of% ((qw b63 (.reg a8D) kr)):=kr
def b6g:CC:=(.cond (tm 52) .skip (.exit 1))
theorem b6C:type_of% (qz b6g.eq_1 ((qw b7c (.seq (.reg a4v) b6g) kr))):=⟨kr,kr⟩
theorem f4I:type_of% ((qw b7k (.reg a8w) kr)):=kr
def b55:CC:=(.seq (.reg b64) .ret)
def b58:CC:=(.cond (tm 69) b55 .skip)
theorem f41:type_of% (qz b55.eq_1 (qz b58.eq_1 ((qw b7i (.seq (.reg a8A) b58) kr)))):=⟨kr,kr,kr⟩
theorem f4S:type_of% ((qw b7l (.reg a8v) kr)):=kr
def b5E:CC:=(.seq (.reg b66) .ret)
def b5D:CC:=(.cond (tm 85) b5E .skip)
def b5x:CC:=(.seq (.reg a8C) b5D)
def b5I:CC:=(.drawn a8x [(0,0),(0,7),(0,8),(1,0),(1,7),(4,0),(4,7),(5,0)])
def b5N:CC:=(.seq b5x b5I)
def b5H:CC:=(.seq (.reg a8t) b5N)
theorem f4w:type_of% (qz b5E.eq_1 (qz b5D.eq_1 (qz b5x.eq_1 (qz b5I.eq_1 (qz b5N.eq_1 (qz b5H.eq_1 ((qw a8h (.block 4 b5H) kr)))))))):=⟨kr,kr,kr,kr,kr,kr,kr⟩
theorem f4v:type_of% ((qw b6S (.reg a8F) kr)):=kr
theorem f4u:type_of% ((qw b62 (.seq (.reg a8u) .ret) kr)):=kr
def f3b:CC:=(.reg a6G)
theorem b34:type_of% (qy f3b.eq_1):=kr
theorem b3I:FnAt Tryz.prog tb a6W f3b 9 [] :=j6 i7 Tryz.func30 rfl (by kernel_rfl) (by kernel_rfl) rfl rfl
def d6B:CC:=(.seq (.reg d8S) .ret)
def f3v:CC:=(.seq (.reg e7Y) d6B)
theorem g7k:type_of% (qz d6B.eq_1 (qy f3v.eq_1)):=⟨kr,kr⟩
theorem g6h:FnAt Tryz.prog tb u9 f3v 10 [.tmp 4] :=j6 i7 Tryz.func31 rfl (by kernel_rfl) (by kernel_rfl) rfl rfl
def d6N:CC:=(.seq (.reg g4e) .ret)
def d4y:CC:=(.cond (tm 12) d6N .skip)
def d6S:CC:=(.seq (.reg g2E) d4y)
def c2d:CC:=(.seq (.reg g4i) .ret)
def e99:CC:=(.seq d6S c2d)
def e4R:CC:=(.cond (tm 11) e99 .skip)
def e7B:CC:=(.seq (.reg a6C) e4R)
def d0S:CC:=(.seq (.reg g2g) .ret)
def c1j:CC:=(.cond (tm 13) d0S .skip)
def c21:CC:=(.seq (.reg a5J) c1j)
def c7I:CC:=(.seq (.reg d2T) .ret)
def c6s:CC:=(.cond (tm 16) c7I .skip)
def c5e:CC:=(.seq (.reg a5L) c6s)
def c6q:CC:=(.seq (.reg c0V) .ret)
def c2J:CC:=(.cond (tm 19) c6q .skip)
def c0v:CC:=(.seq (.reg b1d) c2J)
def c2a:CC:=(.seq (.reg c1Z) .ret)
def c5H:CC:=(.seq c0v c2a)
def c3p:CC:=(.seq c5e c5H)
def c9I:CC:=(.seq c21 c3p)
def d9o:CC:=(.seq e7B c9I)
def e1y:CC:=(.seq (.reg a5O) d9o)
def d76:CC:=(.seq (.reg a6B) e1y)
def f2H:CC:=(.seq (.reg a6l) d76)
theorem b36:type_of% (qz d6N.eq_1 (qz d4y.eq_1 (qz d6S.eq_1 (qz c2d.eq_1 (qz e99.eq_1 (qz e4R.eq_1 (qz e7B.eq_1 (qz d0S.eq_1 (qz c1j.eq_1 (qz c21.eq_1 (qz c7I.eq_1 (qz c6s.eq_1 (qz c5e.eq_1 (qz c6q.eq_1 (qz c2J.eq_1 (qz c0v.eq_1 (qz c2a.eq_1 (qz c5H.eq_1 (qz c3p.eq_1 (qz c9I.eq_1 (qz d9o.eq_1 (qz e1y.eq_1 (qz d76.eq_1 (qy f2H.eq_1)))))))))))))))))))))))):=⟨kr,kr,kr,kr,kr,kr,kr,kr,kr,kr,kr,kr,kr,kr,kr,kr,kr,kr,kr,kr,kr,kr,kr,kr⟩
theorem b3q:FnAt Tryz.prog tb b3Z f2H 20 [.tmp 4] :=j6 i7 Tryz.func32 rfl (by kernel_rfl) (by kernel_rfl) rfl rfl
def d8x:CC:=(.seq (.reg g2c) .ret)
def d8h:CC:=(.seq (.reg g4h) .ret)
def e3d:CC:=(.cond (tm 23) d8h .skip)
def e1b:CC:=(.seq (.reg e5E) e3d)
def d8L:CC:=(.cond (tm 19) d8x e1b)
def e6d:CC:=(.seq (.reg e82) d8L)
def d5f:CC:=(.block 0 e6d)
def d1B:CC:=(.seq (.reg d55) .ret)
def d9S:CC:=(.seq d5f d1B)
def e4c:CC:=(.seq (.reg e1Q) d9S)
def f3q:CC:=(.seq (.reg d5Q) e4c)
theorem g6S:type_of% (qz d8x.eq_1 (qz d8h.eq_1 (qz e3d.eq_1 (qz e1b.eq_1 (qz d8L.eq_1 (qz e6d.eq_1 (qz d5f.eq_1 (qz d1B.eq_1 (qz d9S.eq_1 (qz e4c.eq_1 (qy f3q.eq_1))))))))))):=⟨kr,kr,kr,kr,kr,kr,kr,kr,kr,kr,kr⟩
theorem g6s:FnAt Tryz.prog tb a3J f3q 34 [.tmp 8,.tmp 9] :=j6 i7 Tryz.func33 rfl (by kernel_rfl) (by kernel_rfl) rfl rfl
def e09:CC:=(.seq (.reg g4r) .ret)
def e6o:CC:=(.cond (tm 19) e09 .skip)
def e97:CC:=(.seq (.reg d4O) e6o)
def e0W:CC:=(.seq (.reg d6Q) e97)
def d0D:CC:=(.seq (.reg g3Z) .ret)
def e86:CC:=(.cond (tm 30) d0D .skip)
def e3h:CC:=(.seq (.reg d33) e86)
def d2D:CC:=(.seq (.reg d8Z) .ret)
def e2y:CC:=(.seq e3h d2D)
def d6o:CC:=(.seq (.reg e78) e2y)
def e4U:CC:=(.seq e0W d6o)
def f3m:CC:=(.seq (.reg e65) e4U)
theorem g6U:type_of% (qz e09.eq_1 (qz e6o.eq_1 (qz e97.eq_1 (qz e0W.eq_1 (qz d0D.eq_1 (qz e86.eq_1 (qz e3h.eq_1 (qz d2D.eq_1 (qz e2y.eq_1 (qz d6o.eq_1 (qz e4U.eq_1 (qy f3m.eq_1)))))))))))):=⟨kr,kr,kr,kr,kr,kr,kr,kr,kr,kr,kr,kr⟩
theorem g5H:FnAt Tryz.prog tb L7 f3m 39 [.tmp 10,.tmp 11,.tmp 12] :=j6 i7 Tryz.func38 rfl (by kernel_rfl) (by kernel_rfl) rfl rfl
def e8x:CC:=(.seq (.reg g4t) .ret)
def e9v:CC:=(.cond (tm 15) e8x .skip)
def e7G:CC:=(.seq (.reg e4E) e9v)
def e7E:CC:=(.seq (.drawn d9L [(3,0),(7,0),(11,0),(15,0)]) .ret)
def e3Y:CC:=(.seq e7G e7E)
def e33:CC:=(.seq (.reg e5z) e3Y)
def f1O:CC:=(.seq (.reg d6u) e33)
theorem g7g:type_of% (qz e8x.eq_1 (qz e9v.eq_1 (qz e7G.eq_1 (qz e7E.eq_1 (qz e3Y.eq_1 (qz e33.eq_1 (qy f1O.eq_1))))))):=⟨kr,kr,kr,kr,kr,kr,kr⟩
theorem g5v:FnAt Tryz.prog tb a7k f1O 37 [.tmp 6] :=j6 i7 Tryz.func39 rfl (by kernel_rfl) (by kernel_rfl) rfl rfl
def e4m:CC:=(.seq (.reg g4B) .ret)
def e9T:CC:=(.cond (tm 17) e4m .skip)
def e6l:CC:=(.seq (.reg d58) e9T)
def e6N:CC:=(.seq (.reg g2V) .ret)
def e2K:CC:=(.cond (tm 29) e6N .skip)
def d8K:CC:=(.seq (.reg d68) e2K)
def e3f:CC:=(.seq (.reg d3F) d8K)
def c73:CC:=(.seq (.reg g3J) .ret)
def c9R:CC:=(.cond (tm 39) c73 .skip)
def d2V:CC:=(.seq (.reg e8g) c9R)
def c5m:CC:=(.seq (.reg g0X) .ret)
def c05:CC:=(.cond (tm 47) c5m .skip)
def c1x:CC:=(.seq (.reg d0r) c05)
def c23:CC:=(.seq (.reg e08) c1x)
def c4E:CC:=(.seq (.reg c9P) .ret)
def d22:CC:=(.seq c23 c4E)
def c5X:CC:=(.seq d2V d22)
def d3d:CC:=(.seq (.reg e0h) c5X)
def e1E:CC:=(.seq e3f d3d)
def d3s:CC:=(.seq e6l e1E)
def f2h:CC:=(.seq (.reg e6U) d3s)
theorem g64:type_of% (qz e4m.eq_1 (qz e9T.eq_1 (qz e6l.eq_1 (qz e6N.eq_1 (qz e2K.eq_1 (qz d8K.eq_1 (qz e3f.eq_1 (qz c73.eq_1 (qz c9R.eq_1 (qz d2V.eq_1 (qz c5m.eq_1 (qz c05.eq_1 (qz c1x.eq_1 (qz c23.eq_1 (qz c4E.eq_1 (qz d22.eq_1 (qz c5X.eq_1 (qz d3d.eq_1 (qz e1E.eq_1 (qz d3s.eq_1 (qy f2h.eq_1))))))))))))))))))))):=⟨kr,kr,kr,kr,kr,kr,kr,kr,kr,kr,kr,kr,kr,kr,kr,kr,kr,kr,kr,kr,kr⟩
theorem g57:FnAt Tryz.prog tb a7s f2h 58 [.tmp 10] :=j6 i7 Tryz.func40 rfl (by kernel_rfl) (by kernel_rfl) rfl rfl
def e9S:CC:=(.reg e43)
def e9i:CC:=(.cond (tm 21) e9S .skip)
def d6h:CC:=(.seq (.reg e2M) e9i)
def d63:CC:=(.seq (.reg e57) d6h)
def d9I:CC:=(.seq (.reg d9B) .ret)
def d7p:CC:=(.seq d63 d9I)
def f2O:CC:=(.seq (.reg e9e) d7p)
theorem g7l:type_of% (qz e9S.eq_1 (qz e9i.eq_1 (qz d6h.eq_1 (qz d63.eq_1 (qz d9I.eq_1 (qz d7p.eq_1 (qy f2O.eq_1))))))):=⟨kr,kr,kr,kr,kr,kr,kr⟩
theorem g4W:FnAt Tryz.prog tb a67 f2O 32 [.tmp 6,.tmp 7,.tmp 8,.tmp 9] :=j6 i7 Tryz.func41 rfl (by kernel_rfl) (by kernel_rfl) rfl rfl
def e4n:CC:=(.seq (.reg g27) .ret)
def d4n:CC:=(.cond (tm 12) e4n .skip)
def e2r:CC:=(.seq (.reg d9N) d4n)
def c9Q:CC:=(.cond (tm 30) .skip (.exit 0))
def c7a:CC:=(.reg c4z)
def d1b:CC:=(.seq (.reg c9b) c7a)
def c8w:CC:=(.block 1 d1b)
def d0K:CC:=(.reg c3d)
def c63:CC:=(.seq c8w d0K)
def c2S:CC:=(.seq c9Q c63)
def c4c:CC:=(.seq (.reg a9X) c2S)
def c9p:CC:=(.loop c4c)
def c4k:CC:=(.block 0 c9p)
def c3t:CC:=(.seq (.reg d8T) c4k)
def c8c:CC:=(.seq (.reg d2w) .ret)
def c3h:CC:=(.seq (.reg c4l) c8c)
def c1D:CC:=(.seq (.reg c7c) c3h)
def d2m:CC:=(.seq c3t c1D)
def c9B:CC:=(.seq (.reg d5W) d2m)
def e5o:CC:=(.seq (.reg e9b) c9B)
def e8e:CC:=(.seq (.reg d6r) e5o)
def e3B:CC:=(.seq (.reg d8C) e8e)
def e1V:CC:=(.seq (.reg d3H) e3B)
def e1X:CC:=(.seq (.reg d7Q) e1V)
def d7I:CC:=(.seq e2r e1X)
def f3Q:CC:=(.seq (.reg d5A) d7I)
theorem b4m:type_of% (qz e4n.eq_1 (qz d4n.eq_1 (qz e2r.eq_1 (qz c9Q.eq_1 (qz c7a.eq_1 (qz d1b.eq_1 (qz c8w.eq_1 (qz d0K.eq_1 (qz c63.eq_1 (qz c2S.eq_1 (qz c4c.eq_1 (qz c9p.eq_1 (qz c4k.eq_1 (qz c3t.eq_1 (qz c8c.eq_1 (qz c3h.eq_1 (qz c1D.eq_1 (qz d2m.eq_1 (qz c9B.eq_1 (qz e5o.eq_1 (qz e8e.eq_1 (qz e3B.eq_1 (qz e1V.eq_1 (qz e1X.eq_1 (qz d7I.eq_1 (qy f3Q.eq_1)))))))))))))))))))))))))):=⟨kr,kr,kr,kr,kr,kr,kr,kr,kr,kr,kr,kr,kr,kr,kr,kr,kr,kr,kr,kr,kr,kr,kr,kr,kr,kr⟩
theorem g5r:FnAt Tryz.prog tb a6Q f3Q 55 [.cell 2 A3,.tmp 3] :=j6 i7 Tryz.func42 rfl (by kernel_rfl) (by kernel_rfl) rfl rfl
def d6W:CC:=(.seq (.reg e6a) .ret)
def f2e:CC:=(.seq (.reg e3S) d6W)
theorem g7u:type_of% (qz d6W.eq_1 (qy f2e.eq_1)):=⟨kr,kr⟩
theorem g4Y:FnAt Tryz.prog tb a00 f2e 11 [.tmp 6] :=j6 i7 Tryz.func55 rfl (by kernel_rfl) (by kernel_rfl) rfl rfl
def d5i:CC:=(.seq (.reg g2I) .ret)
def e6f:CC:=(.cond (tm 22) d5i .skip)
def e5B:CC:=(.seq (.reg d7P) e6f)
def c14:CC:=(.seq (.reg e1u) .ret)
def c0N:CC:=(.seq (.reg e7c) c14)
def e5P:CC:=(.seq (.reg e5U) c0N)
def d3R:CC:=(.seq (.reg e1h) e5P)
def e0o:CC:=(.seq (.reg d4V) d3R)
def d82:CC:=(.seq (.reg e5Y) e0o)
def e2O:CC:=(.seq (.reg d7n) d82)
def d60:CC:=(.seq e5B e2O)
def f1B:CC:=(.seq (.reg e3X) d60)
theorem g7t:type_of% (qz d5i.eq_1 (qz e6f.eq_1 (qz e5B.eq_1 (qz c14.eq_1 (qz c0N.eq_1 (qz e5P.eq_1 (qz d3R.eq_1 (qz e0o.eq_1 (qz d82.eq_1 (qz e2O.eq_1 (qz d60.eq_1 (qy f1B.eq_1)))))))))))):=⟨kr,kr,kr,kr,kr,kr,kr,kr,kr,kr,kr,kr⟩
theorem g47:FnAt Tryz.prog tb a7n f1B 53 [.tmp 2,.tmp 3] :=j6 i7 Tryz.func57 rfl (by kernel_rfl) (by kernel_rfl) rfl rfl
def e6j:CC:=(.seq (.reg g4q) .ret)
def e3n:CC:=(.cond (tm 23) e6j .skip)
def d7k:CC:=(.seq (.reg e7H) e3n)
def d7a:CC:=(.seq (.reg d9A) .ret)
def e8f:CC:=(.seq d7k d7a)
def e5g:CC:=(.seq (.reg e7y) e8f)
def f2X:CC:=(.seq (.reg e27) e5g)
theorem g6X:type_of% (qz e6j.eq_1 (qz e3n.eq_1 (qz d7k.eq_1 (qz d7a.eq_1 (qz e8f.eq_1 (qz e5g.eq_1 (qy f2X.eq_1))))))):=⟨kr,kr,kr,kr,kr,kr,kr⟩
theorem g6e:FnAt Tryz.prog tb a3B f2X 24 [.tmp 2] :=j6 i7 Tryz.func58 rfl (by kernel_rfl) (by kernel_rfl) rfl rfl
theorem f4o:type_of% ((qw b6Q (.reg a8z) kr)):=kr
def b5Q:CC:=(.seq (.reg b68) .ret)
def b5T:CC:=(.seq (.reg b7q) .ret)
def b5R:CC:=(.cond (tm 26) b5T .skip)
def b5V:CC:=(.seq (.reg a8y) b5R)
def b5A:CC:=(.cond (tm 19) b5Q b5V)
def b5y:CC:=(.seq (.reg a8G) b5A)
theorem f4r:type_of% (qz b5Q.eq_1 (qz b5T.eq_1 (qz b5R.eq_1 (qz b5V.eq_1 (qz b5A.eq_1 (qz b5y.eq_1 ((qw b6V (.block 0 b5y) kr)))))))):=⟨kr,kr,kr,kr,kr,kr,kr⟩
theorem f4z:type_of% ((qw b61 (.reg a8r) kr)):=kr
def b5K:CC:=(.seq (.drawn b7e [(0,0),(0,2)]) .ret)
def b5G:CC:=(.cond (tm 38) b5K .skip)
theorem f4y:type_of% (qz b5K.eq_1 (qz b5G.eq_1 ((qw b6N (.seq (.reg a8E) b5G) kr)))):=⟨kr,kr,kr⟩
theorem f4E:type_of% ((qw b6O (.drawn a8B [(0,0),(5,0),(6,0)]) kr)):=kr
theorem f4A:type_of% ((qw b6Y (.reg a8s) kr)):=kr
theorem f4F:type_of% ((qw b6P (.reg a8c) kr)):=kr
def b5S:CC:=(.seq (.reg b6R) .ret)
def b5P:CC:=(.cond (tm 64) b5S .skip)
def b5B:CC:=(.seq (.reg a4m) b5P)
def b5U:CC:=(.cond (tm 67) (.exit 2) .skip)
def b5C:CC:=(.seq (.reg a4o) b5U)
def b4L:CC:=(.seq (.reg b6M) .ret)
def b5i:CC:=(.cond (tm 75) b4L .skip)
def b5k:CC:=(.seq (.reg a8m) b5i)
def b5f:CC:=(.drawn a8l [(0,0),(2,0),(3,0),(6,0),(8,0),(9,0)])
def b5b:CC:=(.seq b5k b5f)
def b5z:CC:=(.seq (.reg a8n) b5b)
def b5J:CC:=(.seq b5C b5z)
def b5L:CC:=(.seq b5B b5J)
def b5O:CC:=(.seq (.reg a4r) b5L)
theorem b6v:type_of% (qz b5S.eq_1 (qz b5P.eq_1 (qz b5B.eq_1 (qz b5U.eq_1 (qz b5C.eq_1 (qz b4L.eq_1 (qz b5i.eq_1 (qz b5k.eq_1 (qz b5f.eq_1 (qz b5b.eq_1 (qz b5z.eq_1 (qz b5J.eq_1 (qz b5L.eq_1 (qz b5O.eq_1 ((qw a8f (.block 2 b5O) kr)))))))))))))))):=⟨kr,kr,kr,kr,kr,kr,kr,kr,kr,kr,kr,kr,kr,kr,kr⟩
theorem f4p:type_of% ((qw b6U (.seq (.reg a8o) .ret) kr)):=kr
def e1Y:CC:=(.reg g4a)
def d6p:CC:=(.cond (tm 6) e1Y .skip)
def d6q:CC:=(.seq (.reg e1M) d6p)
def d46:CC:=(.seq (.reg e4Q) .ret)
def d6c:CC:=(.seq d6q d46)
def f3u:CC:=(.seq (.reg e7t) d6c)
theorem g7D:type_of% (qz e1Y.eq_1 (qz d6p.eq_1 (qz d6q.eq_1 (qz d46.eq_1 (qz d6c.eq_1 (qy f3u.eq_1)))))):=⟨kr,kr,kr,kr,kr,kr⟩
theorem g6i:FnAt Tryz.prog tb b3F f3u 9 [.tmp 4] :=j6 i7 Tryz.func60 rfl (by kernel_rfl) (by kernel_rfl) rfl rfl
def e3U:CC:=(.seq (.reg g4p) .ret)
def e2J:CC:=(.cond (tm 11) e3U .skip)
def d7O:CC:=(.seq (.reg e5N) e2J)
def e4F:CC:=(.seq (.reg g4F) .ret)
def e0n:CC:=(.cond (tm 19) e4F .skip)
def e1H:CC:=(.seq (.reg d7F) e0n)
def c8b:CC:=(.seq (.reg e88) .ret)
def d0p:CC:=(.seq (.reg e0u) c8b)
def c86:CC:=(.seq (.reg e1k) d0p)
def c27:CC:=(.seq (.reg e9Y) c86)
def e6n:CC:=(.seq e1H c27)
def e0m:CC:=(.seq (.reg e7z) e6n)
def d7w:CC:=(.seq d7O e0m)
def f2v:CC:=(.seq (.reg e2h) d7w)
theorem g7o:type_of% (qz e3U.eq_1 (qz e2J.eq_1 (qz d7O.eq_1 (qz e4F.eq_1 (qz e0n.eq_1 (qz e1H.eq_1 (qz c8b.eq_1 (qz d0p.eq_1 (qz c86.eq_1 (qz c27.eq_1 (qz e6n.eq_1 (qz e0m.eq_1 (qz d7w.eq_1 (qy f2v.eq_1)))))))))))))):=⟨kr,kr,kr,kr,kr,kr,kr,kr,kr,kr,kr,kr,kr,kr⟩
theorem g6k:FnAt Tryz.prog tb b3c f2v 40 [.cell 2 x7,.tmp 3] :=j6 i7 Tryz.func61 rfl (by kernel_rfl) (by kernel_rfl) rfl rfl
def d3p:CC:=(.cond (tm 13) .skip (.exit 0))
def e9P:CC:=(.seq (.reg a0R) d3p)
def d1q:CC:=(.reg b2p)
def c8l:CC:=(.seq (.reg b2N) d1q)
def e7u:CC:=(.seq (.reg b1l) c8l)
def e8X:CC:=(.block 1 e7u)
def e1G:CC:=(.seq e9P e8X)
def d7e:CC:=(.loop e1G)
def e3T:CC:=(.block 0 d7e)
def c7y:CC:=(.cond (tm 30) .skip (.exit 2))
def c9v:CC:=(.seq (.reg a1Q) c7y)
def c5t:CC:=(.cond (tm 35) .skip (.exit 4))
def c40:CC:=(.seq (.reg e5u) c5t)
def d1o:CC:=(.reg g0y)
def d1n:CC:=(.seq (.reg g08) d1o)
def c0H:CC:=(.seq (.reg g1k) d1n)
def d0z:CC:=(.block 5 c0H)
def d1z:CC:=(.seq c40 d0z)
def c8v:CC:=(.loop d1z)
def d28:CC:=(.block 4 c8v)
def d0w:CC:=(.reg c3e)
def d1N:CC:=(.cond (tm 54) d0w .skip)
def d09:CC:=(.seq (.reg c1F) d1N)
def d2X:CC:=(.seq (.reg c6A) d09)
def c9Y:CC:=(.reg c7Z)
def c0F:CC:=(.seq d2X c9Y)
def c2b:CC:=(.seq d28 c0F)
def c13:CC:=(.seq (.reg e2T) c2b)
def c36:CC:=(.block 3 c13)
def c8q:CC:=(.seq c9v c36)
def c1v:CC:=(.loop c8q)
def d1s:CC:=(.block 2 c1v)
def c3X:CC:=(.seq (.reg a3k) d1s)
def d4S:CC:=(.seq e3T c3X)
def e0D:CC:=(.seq (.reg a3v) d4S)
def f3x:CC:=(.seq (.reg a3d) e0D)
theorem H4:type_of% (qz d3p.eq_1 (qz e9P.eq_1 (qz d1q.eq_1 (qz c8l.eq_1 (qz e7u.eq_1 (qz e8X.eq_1 (qz e1G.eq_1 (qz d7e.eq_1 (qz e3T.eq_1 (qz c7y.eq_1 (qz c9v.eq_1 (qz c5t.eq_1 (qz c40.eq_1 (qz d1o.eq_1 (qz d1n.eq_1 (qz c0H.eq_1 (qz d0z.eq_1 (qz d1z.eq_1 (qz c8v.eq_1 (qz d28.eq_1 (qz d0w.eq_1 (qz d1N.eq_1 (qz d09.eq_1 (qz d2X.eq_1 (qz c9Y.eq_1 (qz c0F.eq_1 (qz c2b.eq_1 (qz c13.eq_1 (qz c36.eq_1 (qz c8q.eq_1 (qz c1v.eq_1 (qz d1s.eq_1 (qz c3X.eq_1 (qz d4S.eq_1 (qz e0D.eq_1 (qy f3x.eq_1)))))))))))))))))))))))))))))))))))):=⟨kr,kr,kr,kr,kr,kr,kr,kr,kr,kr,kr,kr,kr,kr,kr,kr,kr,kr,kr,kr,kr,kr,kr,kr,kr,kr,kr,kr,kr,kr,kr,kr,kr,kr,kr,kr⟩
theorem a7e:FnAt Tryz.prog tb V4 f3x 63 [] :=j6 i7 Tryz.func62 rfl (by kernel_rfl) (by kernel_rfl) rfl rfl
def d49:CC:=(.seq (.reg e46) .ret)
def f1m:CC:=(.seq (.reg e2Z) d49)
theorem g7F:type_of% (qz d49.eq_1 (qy f1m.eq_1)):=⟨kr,kr⟩
theorem g6F:FnAt Tryz.prog tb a6N f1m 6 [.tmp 2] :=j6 i7 Tryz.func63 rfl (by kernel_rfl) (by kernel_rfl) rfl rfl
def d6R:CC:=(.seq (.reg e1L) .ret)
def e7O:CC:=(.seq (.reg e71) d6R)
def d77:CC:=(.cond (tm 14) e7O .skip)
def e9a:CC:=(.seq (.reg b14) d77)
def c6v:CC:=(.seq (.reg g34) .ret)
def d7B:CC:=(.cond (tm 37) c6v .skip)
def e3t:CC:=(.seq (.reg d31) d7B)
def d2S:CC:=(.seq (.reg d9u) .ret)
def d8P:CC:=(.seq e3t d2S)
def e3v:CC:=(.seq (.reg d9i) d8P)
def e9I:CC:=(.seq e9a e3v)
def f2A:CC:=(.seq (.reg b2T) e9I)
theorem f1I:type_of% (qz d6R.eq_1 (qz e7O.eq_1 (qz d77.eq_1 (qz e9a.eq_1 (qz c6v.eq_1 (qz d7B.eq_1 (qz e3t.eq_1 (qz d2S.eq_1 (qz d8P.eq_1 (qz e3v.eq_1 (qz e9I.eq_1 (qy f2A.eq_1)))))))))))):=⟨kr,kr,kr,kr,kr,kr,kr,kr,kr,kr,kr,kr⟩
theorem f1d:FnAt Tryz.prog tb a0V f2A 46 [.tmp 6,.tmp 7] :=j6 i7 Tryz.func65 rfl (by kernel_rfl) (by kernel_rfl) rfl rfl
def e7P:CC:=(.seq (.reg d6s) .ret)
def d3E:CC:=(.seq (.reg d5e) .ret)
def d9n:CC:=(.cond (tm 11) d3E .skip)
def e4s:CC:=(.seq (.reg b2D) d9n)
def e2t:CC:=(.cond (tm 6) e7P e4s)
def e0C:CC:=(.seq (.reg a5U) e2t)
def e6Z:CC:=(.block 0 e0C)
def e3M:CC:=(.seq (.reg a6y) e6Z)
def c1A:CC:=(.seq (.reg d5l) .ret)
def e7h:CC:=(.seq e3M c1A)
def f3L:CC:=(.seq (.reg a5P) e7h)
theorem b39:type_of% (qz e7P.eq_1 (qz d3E.eq_1 (qz d9n.eq_1 (qz e4s.eq_1 (qz e2t.eq_1 (qz e0C.eq_1 (qz e6Z.eq_1 (qz e3M.eq_1 (qz c1A.eq_1 (qz e7h.eq_1 (qy f3L.eq_1))))))))))):=⟨kr,kr,kr,kr,kr,kr,kr,kr,kr,kr,kr⟩
theorem g5W:FnAt Tryz.prog tb a7j f3L 21 [.tmp 4] :=j6 i7 Tryz.func66 rfl (by kernel_rfl) (by kernel_rfl) rfl rfl
def e4Y:CC:=(.cond (tm 9) .skip (.exit 0))
def d21:CC:=(.seq (.reg d3n) .ret)
def c0T:CC:=(.cond (tm 16) d21 .skip)
def c1c:CC:=(.seq (.reg b2P) c0T)
def c84:CC:=(.seq (.reg b1s) c1c)
def e84:CC:=(.block 1 c84)
def c2Q:CC:=(.reg e1n)
def d8r:CC:=(.seq e84 c2Q)
def d4F:CC:=(.seq e4Y d8r)
def e7N:CC:=(.seq (.reg a6x) d4F)
def d7L:CC:=(.loop e7N)
def d3U:CC:=(.block 0 d7L)
def d8U:CC:=(.seq (.reg e5m) d3U)
def c18:CC:=(.seq (.reg d9H) .ret)
def d7h:CC:=(.seq d8U c18)
def f3H:CC:=(.seq (.reg e4P) d7h)
theorem a7D:type_of% (qz e4Y.eq_1 (qz d21.eq_1 (qz c0T.eq_1 (qz c1c.eq_1 (qz c84.eq_1 (qz e84.eq_1 (qz c2Q.eq_1 (qz d8r.eq_1 (qz d4F.eq_1 (qz e7N.eq_1 (qz d7L.eq_1 (qz d3U.eq_1 (qz d8U.eq_1 (qz c18.eq_1 (qz d7h.eq_1 (qy f3H.eq_1)))))))))))))))):=⟨kr,kr,kr,kr,kr,kr,kr,kr,kr,kr,kr,kr,kr,kr,kr,kr⟩
theorem g5x:FnAt Tryz.prog tb a6T f3H 19 [.tmp 4] :=j6 i7 Tryz.func70 rfl (by kernel_rfl) (by kernel_rfl) rfl rfl
def d9f:CC:=(.seq (.reg e0x) .ret)
def f3G:CC:=(.seq (.reg d35) d9f)
theorem g69:type_of% (qz d9f.eq_1 (qy f3G.eq_1)):=⟨kr,kr⟩
theorem g5K:FnAt Tryz.prog tb a1Y f3G 8 [.tmp 3] :=j6 i7 Tryz.func71 rfl (by kernel_rfl) (by kernel_rfl) rfl rfl
def d7U:CC:=(.seq (.reg g3D) .ret)
def e9q:CC:=(.seq (.reg g2Z) .ret)
def e5y:CC:=(.cond (tm 14) e9q .skip)
def e0y:CC:=(.seq (.reg d7x) e5y)
def d5J:CC:=(.cond (tm 5) d7U e0y)
def e73:CC:=(.seq (.reg e4Z) d5J)
def e5Q:CC:=(.block 0 e73)
def c78:CC:=(.seq (.reg d6M) .ret)
def d18:CC:=(.seq (.drawn e6t [(4,0),(6,0)]) c78)
def c1b:CC:=(.seq (.reg e02) d18)
def e3R:CC:=(.seq (.reg e3m) c1b)
def d3o:CC:=(.seq e5Q e3R)
def f1p:CC:=(.seq (.reg d9l) d3o)
theorem g7L:type_of% (qz d7U.eq_1 (qz e9q.eq_1 (qz e5y.eq_1 (qz e0y.eq_1 (qz d5J.eq_1 (qz e73.eq_1 (qz e5Q.eq_1 (qz c78.eq_1 (qz d18.eq_1 (qz c1b.eq_1 (qz e3R.eq_1 (qz d3o.eq_1 (qy f1p.eq_1))))))))))))):=⟨kr,kr,kr,kr,kr,kr,kr,kr,kr,kr,kr,kr,kr⟩
theorem g5q:FnAt Tryz.prog tb a6U f1p 44 [.tmp 2,.tmp 3] :=j6 i7 Tryz.func72 rfl (by kernel_rfl) (by kernel_rfl) rfl rfl
theorem f4l:type_of% ((qw b6L (.reg a8j) kr)):=kr
def b4W:CC:=(.seq (.reg b6W) .ret)
def b5e:CC:=(.cond (tm 25) b4W .skip)
theorem f4f:type_of% (qz b4W.eq_1 (qz b5e.eq_1 ((qw b6H (.seq (.reg a8k) b5e) kr)))):=⟨kr,kr,kr⟩
def b4Y:CC:=(.seq (.reg b6T) .ret)
def b41:CC:=(.cond (tm 45) b4Y .skip)
def b5o:CC:=(.seq (.reg a8d) b41)
theorem f4k:type_of% (qz b4Y.eq_1 (qz b41.eq_1 (qz b5o.eq_1 ((qw b6B (.seq (.reg a8e) b5o) kr))))):=⟨kr,kr,kr,kr⟩
theorem f4m:type_of% ((qw b6x (.reg a8g) kr)):=kr
def b46:CC:=(.seq (.reg b6X) .ret)
def b5m:CC:=(.cond (tm 60) b46 .skip)
theorem f4n:type_of% (qz b46.eq_1 (qz b5m.eq_1 ((qw b6z (.seq (.reg a8i) b5m) kr)))):=⟨kr,kr,kr⟩
def b4P:CC:=(.seq (.reg b6E) .ret)
def b4Q:CC:=(.cond (tm 80) b4P .skip)
def b5l:CC:=(.seq (.reg a74) b4Q)
def b5t:CC:=(.seq (.drawn a8a [(0,0),(1,0),(5,0)]) b5l)
def b5h:CC:=(.cond (tm 71) b5t .skip)
theorem b59:type_of% (qz b4P.eq_1 (qz b4Q.eq_1 (qz b5l.eq_1 (qz b5t.eq_1 (qz b5h.eq_1 ((qw b6J (.seq (.drawn a4n [(0,0),(1,0),(4,0),(8,0)]) b5h) kr))))))):=⟨kr,kr,kr,kr,kr,kr⟩
theorem f4e:type_of% ((qw b6K (.reg a7W) kr)):=kr
def b4V:CC:=(.seq (.reg a73) .ret)
def b5n:CC:=(.cond (tm 95) b4V .skip)
def b49:CC:=(.seq (.reg a2o) b5n)
def b4x:CC:=(.seq (.reg b6I) .ret)
def b4B:CC:=(.cond (tm 109) b4x .skip)
def b4r:CC:=(.seq (.reg a75) b4B)
def b4J:CC:=(.seq (.reg a72) b4r)
def b4M:CC:=(.cond (tm 101) b4J .skip)
def b4R:CC:=(.seq (.reg a4j) b4M)
def b4s:CC:=(.seq (.reg b6A) .ret)
def b4w:CC:=(.cond (tm 127) b4s .skip)
def b4F:CC:=(.seq (.reg a70) b4w)
def a7U:CC:=(.seq (.reg a7V) b4F)
def a7T:CC:=(.seq (.drawn a4i [(2,0),(4,0),(5,0),(6,0),(8,0),(9,0)]) a7U)
def b5c:CC:=(.seq b4R a7T)
def b45:CC:=(.seq (.reg a4h) b5c)
def b48:CC:=(.seq b49 b45)
def b44:CC:=(.seq (.reg a71) b48)
theorem a2m:type_of% (qz b4V.eq_1 (qz b5n.eq_1 (qz b49.eq_1 (qz b4x.eq_1 (qz b4B.eq_1 (qz b4r.eq_1 (qz b4J.eq_1 (qz b4M.eq_1 (qz b4R.eq_1 (qz b4s.eq_1 (qz b4w.eq_1 (qz b4F.eq_1 (qz a7U.eq_1 (qz b5c.eq_1 (qz b45.eq_1 (qz b48.eq_1 (qz b44.eq_1 ((qw a78 (.block 1 b44) kr))))))))))))))))))):=⟨kr,kr,kr,kr,kr,kr,kr,kr,kr,kr,kr,kr,kr,kr,kr,kr,kr,kr⟩
theorem f39:∀Q fr m,GX Tryz.prog tb a7T Q fr m=GX Tryz.prog tb (.seq (.drawn a4i [(2,0),(4,0),(5,0),(6,0),(8,0),(9,0)]) a7U) Q fr m:=kr
theorem f4h:type_of% ((qw b6y (.seq (.reg a76) .ret) kr)):=kr
def d32:CC:=(.seq (.reg g3x) .ret)
def e0b:CC:=(.cond (tm 21) d32 .skip)
def d7g:CC:=(.seq (.reg e3L) e0b)
def d0N:CC:=(.seq (.reg g4N) .ret)
def e9c:CC:=(.cond (tm 54) d0N .skip)
def d7J:CC:=(.seq (.reg e8F) e9c)
def d9D:CC:=(.seq (.reg d9R) d7J)
def d07:CC:=(.cond (tm 70) .skip (.exit 0))
def c1X:CC:=(.seq (.reg g0s) .ret)
def c1N:CC:=(.cond (tm 81) c1X .skip)
def c5h:CC:=(.seq (.reg c99) c1N)
def d2N:CC:=(.seq (.reg c0q) c5h)
def d0A:CC:=(.seq (.reg c4K) d2N)
def c8W:CC:=(.block 1 d0A)
def c91:CC:=(.reg d1Y)
def c9e:CC:=(.seq c8W c91)
def c7i:CC:=(.seq d07 c9e)
def c5a:CC:=(.seq (.reg b1x) c7i)
def d2Y:CC:=(.loop c5a)
def d1y:CC:=(.block 0 d2Y)
def c8x:CC:=(.seq (.reg e2G) d1y)
def c8Z:CC:=(.seq (.reg g1U) .ret)
def d17:CC:=(.cond (tm 91) c8Z .skip)
def c07:CC:=(.seq (.reg c6C) d17)
def c1s:CC:=(.seq (.reg d2s) c07)
def d2y:CC:=(.seq (.reg g1s) .ret)
def c6c:CC:=(.cond (tm 105) d2y .skip)
def c3V:CC:=(.seq (.reg c8e) c6c)
def c4D:CC:=(.seq (.reg c6h) c3V)
def c7Y:CC:=(.seq (.reg g1P) .ret)
def c9z:CC:=(.cond (tm 115) c7Y .skip)
def c2R:CC:=(.seq (.reg c6R) c9z)
def c5E:CC:=(.seq (.reg c6Z) .ret)
def c4y:CC:=(.seq (.reg c7e) c5E)
def c42:CC:=(.seq c2R c4y)
def c1E:CC:=(.seq (.reg c04) c42)
def c4j:CC:=(.seq c4D c1E)
def c0t:CC:=(.seq c1s c4j)
def d1t:CC:=(.seq c8x c0t)
def c1k:CC:=(.seq (.drawn e7o [(5,0),(12,0)]) d1t)
def e8o:CC:=(.seq d9D c1k)
def e79:CC:=(.seq (.reg d6I) e8o)
def d5I:CC:=(.seq d7g e79)
def f1V:CC:=(.seq (.reg d7o) d5I)
theorem b4k:type_of% (qz d32.eq_1 (qz e0b.eq_1 (qz d7g.eq_1 (qz d0N.eq_1 (qz e9c.eq_1 (qz d7J.eq_1 (qz d9D.eq_1 (qz d07.eq_1 (qz c1X.eq_1 (qz c1N.eq_1 (qz c5h.eq_1 (qz d2N.eq_1 (qz d0A.eq_1 (qz c8W.eq_1 (qz c91.eq_1 (qz c9e.eq_1 (qz c7i.eq_1 (qz c5a.eq_1 (qz d2Y.eq_1 (qz d1y.eq_1 (qz c8x.eq_1 (qz c8Z.eq_1 (qz d17.eq_1 (qz c07.eq_1 (qz c1s.eq_1 (qz d2y.eq_1 (qz c6c.eq_1 (qz c3V.eq_1 (qz c4D.eq_1 (qz c7Y.eq_1 (qz c9z.eq_1 (qz c2R.eq_1 (qz c5E.eq_1 (qz c4y.eq_1 (qz c42.eq_1 (qz c1E.eq_1 (qz c4j.eq_1 (qz c0t.eq_1 (qz d1t.eq_1 (qz c1k.eq_1 (qz e8o.eq_1 (qz e79.eq_1 (qz d5I.eq_1 (qy f1V.eq_1)))))))))))))))))))))))))))))))))))))))))))):=⟨kr,kr,kr,kr,kr,kr,kr,kr,kr,kr,kr,kr,kr,kr,kr,kr,kr,kr,kr,kr,kr,kr,kr,kr,kr,kr,kr,kr,kr,kr,kr,kr,kr,kr,kr,kr,kr,kr,kr,kr,kr,kr,kr,kr⟩
theorem g6p:FnAt Tryz.prog tb a66 f1V 124 [.tmp 8] :=j6 i7 Tryz.func75 rfl (by kernel_rfl) (by kernel_rfl) rfl rfl
def e0E:CC:=(.seq (.reg d7l) .ret)
def e5p:CC:=(.cond (tm 17) e0E .skip)
def e5W:CC:=(.seq (.reg a6h) e5p)
def c2l:CC:=(.seq (.reg e48) .ret)
def d5r:CC:=(.cond (tm 46) c2l .skip)
def e3N:CC:=(.seq (.reg b2Y) d5r)
def d1e:CC:=(.seq (.reg g3K) .ret)
def c3o:CC:=(.cond (tm 58) d1e .skip)
def c2A:CC:=(.seq (.reg d5g) c3o)
def c5B:CC:=(.seq (.reg c4t) .ret)
def c8G:CC:=(.seq (.reg c6X) c5B)
def c66:CC:=(.seq c2A c8G)
def c55:CC:=(.seq (.reg e0c) c66)
def e0I:CC:=(.seq e3N c55)
def d8s:CC:=(.seq (.drawn b1f [(3,0),(7,0),(11,0),(17,0)]) e0I)
def e8V:CC:=(.seq e5W d8s)
def e5F:CC:=(.seq (.reg a5H) e8V)
def f2o:CC:=(.seq (.reg a5Q) e5F)
theorem b4h:type_of% (qz e0E.eq_1 (qz e5p.eq_1 (qz e5W.eq_1 (qz c2l.eq_1 (qz d5r.eq_1 (qz e3N.eq_1 (qz d1e.eq_1 (qz c3o.eq_1 (qz c2A.eq_1 (qz c5B.eq_1 (qz c8G.eq_1 (qz c66.eq_1 (qz c55.eq_1 (qz e0I.eq_1 (qz d8s.eq_1 (qz e8V.eq_1 (qz e5F.eq_1 (qy f2o.eq_1)))))))))))))))))):=⟨kr,kr,kr,kr,kr,kr,kr,kr,kr,kr,kr,kr,kr,kr,kr,kr,kr,kr⟩
theorem b3y:FnAt Tryz.prog tb a65 f2o 67 [.tmp 4] :=j6 i7 Tryz.func76 rfl (by kernel_rfl) (by kernel_rfl) rfl rfl
def d6T:CC:=(.seq (.reg g3g) .ret)
def e8t:CC:=(.cond (tm 14) d6T .skip)
def e1W:CC:=(.seq (.reg a5I) e8t)
def d86:CC:=(.seq (.reg a6a) e1W)
def c69:CC:=(.cond (tm 27) .skip (.exit 0))
def c1l:CC:=(.seq (.reg b1w) .ret)
def c9x:CC:=(.cond (tm 36) c1l .skip)
def c7z:CC:=(.seq (.reg a1H) c9x)
def c3T:CC:=(.seq (.reg a1y) c7z)
def d1u:CC:=(.seq (.reg a1z) c3T)
def d0t:CC:=(.block 1 d1u)
def c9i:CC:=(.reg a4X)
def c2G:CC:=(.seq d0t c9i)
def d0k:CC:=(.seq c69 c2G)
def d2F:CC:=(.seq (.reg a0Q) d0k)
def d9g:CC:=(.loop d2F)
def d5v:CC:=(.block 0 d9g)
def d5t:CC:=(.seq (.drawn a6j [(3,0),(7,0)]) d5v)
def c5o:CC:=(.seq (.reg d2C) .ret)
def e4B:CC:=(.seq d5t c5o)
def e30:CC:=(.seq d86 e4B)
def f1Z:CC:=(.seq (.reg a5S) e30)
theorem W2:type_of% (qz d6T.eq_1 (qz e8t.eq_1 (qz e1W.eq_1 (qz d86.eq_1 (qz c69.eq_1 (qz c1l.eq_1 (qz c9x.eq_1 (qz c7z.eq_1 (qz c3T.eq_1 (qz d1u.eq_1 (qz d0t.eq_1 (qz c9i.eq_1 (qz c2G.eq_1 (qz d0k.eq_1 (qz d2F.eq_1 (qz d9g.eq_1 (qz d5v.eq_1 (qz d5t.eq_1 (qz c5o.eq_1 (qz e4B.eq_1 (qz e30.eq_1 (qy f1Z.eq_1)))))))))))))))))))))):=⟨kr,kr,kr,kr,kr,kr,kr,kr,kr,kr,kr,kr,kr,kr,kr,kr,kr,kr,kr,kr,kr,kr⟩
theorem b3Y:FnAt Tryz.prog tb O6 f1Z 48 [.tmp 4,.tmp 5] :=j6 i7 Tryz.func77 rfl (by kernel_rfl) (by kernel_rfl) rfl rfl
def e1l:CC:=(.cond (tm 11) .skip (.exit 0))
def d3W:CC:=(.reg a5T)
def d8a:CC:=(.seq (.reg a59) d3W)
def e6q:CC:=(.block 1 d8a)
def d2p:CC:=(.reg a6n)
def d3A:CC:=(.seq e6q d2p)
def d5G:CC:=(.seq e1l d3A)
def d4h:CC:=(.seq (.reg a1K) d5G)
def e3k:CC:=(.loop d4h)
def d9G:CC:=(.block 0 e3k)
def f1R:CC:=(.seq (.reg b2x) d9G)
theorem a1c:type_of% (qz e1l.eq_1 (qz d3W.eq_1 (qz d8a.eq_1 (qz e6q.eq_1 (qz d2p.eq_1 (qz d3A.eq_1 (qz d5G.eq_1 (qz d4h.eq_1 (qz e3k.eq_1 (qz d9G.eq_1 (qy f1R.eq_1))))))))))):=⟨kr,kr,kr,kr,kr,kr,kr,kr,kr,kr,kr⟩
theorem f06:FnAt Tryz.prog tb a0m f1R 20 [] :=j6 i7 Tryz.func78 rfl (by kernel_rfl) (by kernel_rfl) rfl rfl
def d96:CC:=(.seq (.reg d9Q) .ret)
def e5D:CC:=(.seq (.reg d9b) d96)
def e1w:CC:=(.seq (.drawn d5n [(3,0),(7,0)]) e5D)
def f1C:CC:=(.seq (.reg e9O) e1w)
theorem g7f:type_of% (qz d96.eq_1 (qz e5D.eq_1 (qz e1w.eq_1 (qy f1C.eq_1)))):=⟨kr,kr,kr,kr⟩
theorem g6A:FnAt Tryz.prog tb a3L f1C 29 [.tmp 4] :=j6 i7 Tryz.func79 rfl (by kernel_rfl) (by kernel_rfl) rfl rfl
def e7S:CC:=(.seq (.reg g4L) .ret)
def e3r:CC:=(.seq (.reg g3w) e7S)
def e54:CC:=(.cond (tm 18) e3r .skip)
def d8H:CC:=(.seq (.reg e28) e54)
def d88:CC:=(.seq (.reg e9E) .ret)
def e2V:CC:=(.seq d8H d88)
def f3c:CC:=(.seq (.reg e6M) e2V)
theorem g6L:type_of% (qz e7S.eq_1 (qz e3r.eq_1 (qz e54.eq_1 (qz d8H.eq_1 (qz d88.eq_1 (qz e2V.eq_1 (qy f3c.eq_1))))))):=⟨kr,kr,kr,kr,kr,kr,kr⟩
theorem g6l:FnAt Tryz.prog tb b3C f3c 21 [.cell 8 A3,.tmp 9] :=j6 i7 Tryz.func80 rfl (by kernel_rfl) (by kernel_rfl) rfl rfl
def d4G:CC:=(.reg g2k)
def e1Z:CC:=(.cond (tm 24) d4G .skip)
def e9Z:CC:=(.seq (.reg d5T) e1Z)
def e8G:CC:=(.reg e0X)
def d3M:CC:=(.seq e9Z e8G)
def f2S:CC:=(.seq (.reg d3Q) d3M)
theorem g6T:type_of% (qz d4G.eq_1 (qz e1Z.eq_1 (qz e9Z.eq_1 (qz e8G.eq_1 (qz d3M.eq_1 (qy f2S.eq_1)))))):=⟨kr,kr,kr,kr,kr,kr⟩
theorem g6v:FnAt Tryz.prog tb a2a f2S 38 [] :=j6 i7 Tryz.func84 rfl (by kernel_rfl) (by kernel_rfl) rfl rfl
def d9M:CC:=(.cond (tm 11) .skip (.exit 0))
def d8q:CC:=(.reg b1v)
def e3x:CC:=(.seq (.reg b2o) d8q)
def e4a:CC:=(.block 1 e3x)
def c6L:CC:=(.reg b1T)
def e4L:CC:=(.seq e4a c6L)
def e40:CC:=(.seq d9M e4L)
def e5a:CC:=(.seq (.reg a3g) e40)
def e4x:CC:=(.loop e5a)
def e8U:CC:=(.block 0 e4x)
def f1L:CC:=(.seq (.reg b20) e8U)
theorem a2k:type_of% (qz d9M.eq_1 (qz d8q.eq_1 (qz e3x.eq_1 (qz e4a.eq_1 (qz c6L.eq_1 (qz e4L.eq_1 (qz e40.eq_1 (qz e5a.eq_1 (qz e4x.eq_1 (qz e8U.eq_1 (qy f1L.eq_1))))))))))):=⟨kr,kr,kr,kr,kr,kr,kr,kr,kr,kr,kr⟩
theorem f0T:FnAt Tryz.prog tb a0o f1L 19 [] :=j6 i7 Tryz.func85 rfl (by kernel_rfl) (by kernel_rfl) rfl rfl
def e6s:CC:=(.seq (.drawn g3k [(3,0)]) .ret)
def e80:CC:=(.cond (tm 10) e6s .skip)
def d5P:CC:=(.seq (.reg d3k) e80)
def e5i:CC:=(.seq (.drawn e5s [(3,0),(8,0)]) .ret)
def d43:CC:=(.seq d5P e5i)
def f2n:CC:=(.seq (.reg d4R) d43)
theorem g7y:type_of% (qz e6s.eq_1 (qz e80.eq_1 (qz d5P.eq_1 (qz e5i.eq_1 (qz d43.eq_1 (qy f2n.eq_1)))))):=⟨kr,kr,kr,kr,kr,kr⟩
theorem g6g:FnAt Tryz.prog tb a7r f2n 27 [.tmp 4,.tmp 5] :=j6 i7 Tryz.func87 rfl (by kernel_rfl) (by kernel_rfl) rfl rfl
def e7U:CC:=(.seq (.reg g4O) .ret)
def e4r:CC:=(.cond (tm 4) e7U .skip)
def d8t:CC:=(.seq (.reg e3u) e4r)
def e3a:CC:=(.seq (.reg e6z) .ret)
def e7v:CC:=(.seq d8t e3a)
def f1X:CC:=(.seq (.reg d9p) e7v)
theorem g7e:type_of% (qz e7U.eq_1 (qz e4r.eq_1 (qz d8t.eq_1 (qz e3a.eq_1 (qz e7v.eq_1 (qy f1X.eq_1)))))):=⟨kr,kr,kr,kr,kr,kr⟩
theorem g5b:FnAt Tryz.prog tb a0n f1X 8 [.tmp 2] :=j6 i7 Tryz.func92 rfl (by kernel_rfl) (by kernel_rfl) rfl rfl
def e50:CC:=(.seq (.reg g4D) .ret)
def e5O:CC:=(.seq (.reg g4x) .ret)
def c4T:CC:=(.seq (.reg g4C) .ret)
def c0A:CC:=(.cond (tm 42) c4T .skip)
def d1l:CC:=(.seq (.reg b2g) c0A)
def d7c:CC:=(.cond (tm 18) e5O d1l)
def e41:CC:=(.seq (.reg b1h) d7c)
def e9R:CC:=(.cond (tm 14) e50 e41)
def e0A:CC:=(.seq (.reg b2d) e9R)
def e9Q:CC:=(.block 0 e0A)
def d2H:CC:=(.seq (.reg b0a) .ret)
def d0B:CC:=(.seq (.reg b2k) d2H)
def c9s:CC:=(.seq (.reg b1D) d0B)
def e0K:CC:=(.seq e9Q c9s)
def e3Z:CC:=(.seq (.reg b2Q) e0K)
def f3E:CC:=(.seq (.reg b2U) e3Z)
theorem f1r:type_of% (qz e50.eq_1 (qz e5O.eq_1 (qz c4T.eq_1 (qz c0A.eq_1 (qz d1l.eq_1 (qz d7c.eq_1 (qz e41.eq_1 (qz e9R.eq_1 (qz e0A.eq_1 (qz e9Q.eq_1 (qz d2H.eq_1 (qz d0B.eq_1 (qz c9s.eq_1 (qz e0K.eq_1 (qz e3Z.eq_1 (qy f3E.eq_1)))))))))))))))):=⟨kr,kr,kr,kr,kr,kr,kr,kr,kr,kr,kr,kr,kr,kr,kr,kr⟩
theorem f0F:FnAt Tryz.prog tb a0c f3E 63 [.tmp 10] :=j6 i7 Tryz.func100 rfl (by kernel_rfl) (by kernel_rfl) rfl rfl
def e8J:CC:=(.seq (.reg d3D) .ret)
def f1D:CC:=(.seq (.reg d9c) e8J)
theorem g68:type_of% (qz e8J.eq_1 (qy f1D.eq_1)):=⟨kr,kr⟩
theorem g5N:FnAt Tryz.prog tb a0h f1D 7 [.tmp 2] :=j6 i7 Tryz.func101 rfl (by kernel_rfl) (by kernel_rfl) rfl rfl
def d5s:CC:=(.seq (.reg d9t) .ret)
def f2Z:CC:=(.seq (.reg e7K) d5s)
theorem g6K:type_of% (qz d5s.eq_1 (qy f2Z.eq_1)):=⟨kr,kr⟩
theorem g5k:FnAt Tryz.prog tb a0d f2Z 5 [.tmp 2] :=j6 i7 Tryz.func102 rfl (by kernel_rfl) (by kernel_rfl) rfl rfl
def e8w:CC:=(.seq (.reg b1R) .ret)
def f3D:CC:=(.seq (.reg b1t) e8w)
theorem f3I:type_of% (qz e8w.eq_1 (qy f3D.eq_1)):=⟨kr,kr⟩
theorem g6q:FnAt Tryz.prog tb b3H f3D 15 [.tmp 6] :=j6 i7 Tryz.func103 rfl (by kernel_rfl) (by kernel_rfl) rfl rfl
def e7q:CC:=(.seq (.reg e3E) .ret)
def f1z:CC:=(.seq (.reg e5J) e7q)
theorem g7w:type_of% (qz e7q.eq_1 (qy f1z.eq_1)):=⟨kr,kr⟩
theorem g5d:FnAt Tryz.prog tb a0g f1z 30 [.tmp 2] :=j6 i7 Tryz.func104 rfl (by kernel_rfl) (by kernel_rfl) rfl rfl
def e25:CC:=(.seq (.reg e0s) .ret)
def f2U:CC:=(.seq (.reg d6G) e25)
theorem g62:type_of% (qz e25.eq_1 (qy f2U.eq_1)):=⟨kr,kr⟩
theorem g6j:FnAt Tryz.prog tb b3M f2U 9 [.tmp 4] :=j6 i7 Tryz.func105 rfl (by kernel_rfl) (by kernel_rfl) rfl rfl
def f3l:CC:=(.reg e6R)
theorem g6J:type_of% (qy f3l.eq_1):=kr
theorem g6G:FnAt Tryz.prog tb a7q f3l 11 [] :=j6 i7 Tryz.func106 rfl (by kernel_rfl) (by kernel_rfl) rfl rfl
def e56:CC:=(.cond (tm 13) .skip (.exit 0))
def d4L:CC:=(.seq (.reg b2f) e56)
def c1g:CC:=(.cond (tm 37) .ret .skip)
def c2f:CC:=(.seq (.reg e1O) c1g)
def d1H:CC:=(.reg e7j)
def d9Z:CC:=(.seq c2f d1H)
def e7x:CC:=(.seq (.reg d8u) d9Z)
def e74:CC:=(.seq (.reg d62) e7x)
def e2l:CC:=(.block 1 e74)
def e59:CC:=(.seq d4L e2l)
def e4O:CC:=(.loop e59)
def e4w:CC:=(.block 0 e4O)
def f1G:CC:=(.seq (.reg e6J) e4w)
theorem a30:type_of% (qz e56.eq_1 (qz d4L.eq_1 (qz c1g.eq_1 (qz c2f.eq_1 (qz d1H.eq_1 (qz d9Z.eq_1 (qz e7x.eq_1 (qz e74.eq_1 (qz e2l.eq_1 (qz e59.eq_1 (qz e4O.eq_1 (qz e4w.eq_1 (qy f1G.eq_1))))))))))))):=⟨kr,kr,kr,kr,kr,kr,kr,kr,kr,kr,kr,kr,kr⟩
theorem g5e:FnAt Tryz.prog tb a09 f1G 43 [] :=j6 i7 Tryz.func107 rfl (by kernel_rfl) (by kernel_rfl) rfl rfl
def d6C:CC:=(.seq (.reg g3S) .ret)
def d7H:CC:=(.cond (tm 15) d6C .skip)
def d5d:CC:=(.seq (.reg d3m) d7H)
def d8d:CC:=(.seq (.reg g2u) .ret)
def d6U:CC:=(.cond (tm 26) d8d .skip)
def e1z:CC:=(.seq (.reg d4u) d6U)
def c8A:CC:=(.cond (tm 33) .skip (.exit 0))
def c6l:CC:=(.seq (.reg g0o) .ret)
def c7E:CC:=(.cond (tm 45) c6l .skip)
def c3b:CC:=(.seq (.reg b0z) c7E)
def d2v:CC:=(.seq (.reg b0X) c3b)
def c3Q:CC:=(.cond (tm 48) (.exit 0) .skip)
def c60:CC:=(.seq (.reg a9W) c3Q)
def c2V:CC:=(.reg c7M)
def c3Z:CC:=(.seq c60 c2V)
def c4R:CC:=(.seq d2v c3Z)
def c0E:CC:=(.seq (.reg b0I) c4R)
def c5G:CC:=(.block 1 c0E)
def c7J:CC:=(.reg c17)
def d2A:CC:=(.seq c5G c7J)
def c6B:CC:=(.seq c8A d2A)
def d26:CC:=(.seq (.reg a6f) c6B)
def c53:CC:=(.loop d26)
def c8S:CC:=(.block 0 c53)
def c4G:CC:=(.seq (.reg d4o) c8S)
def c7R:CC:=(.seq (.reg b0v) .ret)
def c97:CC:=(.seq c4G c7R)
def d0J:CC:=(.seq (.reg d4W) c97)
def c9w:CC:=(.seq (.reg e4e) d0J)
def d7m:CC:=(.seq e1z c9w)
def e1t:CC:=(.seq (.reg d4E) d7m)
def e6u:CC:=(.seq d5d e1t)
def f2B:CC:=(.seq (.reg d6E) e6u)
theorem a7x:type_of% (qz d6C.eq_1 (qz d7H.eq_1 (qz d5d.eq_1 (qz d8d.eq_1 (qz d6U.eq_1 (qz e1z.eq_1 (qz c8A.eq_1 (qz c6l.eq_1 (qz c7E.eq_1 (qz c3b.eq_1 (qz d2v.eq_1 (qz c3Q.eq_1 (qz c60.eq_1 (qz c2V.eq_1 (qz c3Z.eq_1 (qz c4R.eq_1 (qz c0E.eq_1 (qz c5G.eq_1 (qz c7J.eq_1 (qz d2A.eq_1 (qz c6B.eq_1 (qz d26.eq_1 (qz c53.eq_1 (qz c8S.eq_1 (qz c4G.eq_1 (qz c7R.eq_1 (qz c97.eq_1 (qz d0J.eq_1 (qz c9w.eq_1 (qz d7m.eq_1 (qz e1t.eq_1 (qz e6u.eq_1 (qy f2B.eq_1))))))))))))))))))))))))))))))))):=⟨kr,kr,kr,kr,kr,kr,kr,kr,kr,kr,kr,kr,kr,kr,kr,kr,kr,kr,kr,kr,kr,kr,kr,kr,kr,kr,kr,kr,kr,kr,kr,kr,kr⟩
theorem g4T:FnAt Tryz.prog tb a3U f2B 53 [.tmp 8,.tmp 9] :=j6 i7 Tryz.func108 rfl (by kernel_rfl) (by kernel_rfl) rfl rfl
def d5X:CC:=(.cond (tm 9) .skip (.exit 0))
def e4W:CC:=(.seq (.reg b2G) d5X)
def d1E:CC:=(.cond (tm 30) .ret .skip)
def d3y:CC:=(.seq (.reg e4l) d1E)
def e7D:CC:=(.seq (.drawn d6f [(0,0),(1,0),(3,0)]) d3y)
def d8E:CC:=(.block 1 e7D)
def c9y:CC:=(.reg e3z)
def e2g:CC:=(.seq d8E c9y)
def d7W:CC:=(.seq e4W e2g)
def e03:CC:=(.loop d7W)
def e6S:CC:=(.block 0 e03)
def f2z:CC:=(.seq (.reg d3x) e6S)
theorem a7z:type_of% (qz d5X.eq_1 (qz e4W.eq_1 (qz d1E.eq_1 (qz d3y.eq_1 (qz e7D.eq_1 (qz d8E.eq_1 (qz c9y.eq_1 (qz e2g.eq_1 (qz d7W.eq_1 (qz e03.eq_1 (qz e6S.eq_1 (qy f2z.eq_1)))))))))))):=⟨kr,kr,kr,kr,kr,kr,kr,kr,kr,kr,kr,kr⟩
theorem g5O:FnAt Tryz.prog tb a17 f2z 31 [] :=j6 i7 Tryz.func109 rfl (by kernel_rfl) (by kernel_rfl) rfl rfl
def e8j:CC:=(.seq (.reg g3U) .ret)
def e6v:CC:=(.cond (tm 21) e8j .skip)
def d7S:CC:=(.seq (.reg e8n) e6v)
def d2x:CC:=(.seq (.reg g2N) .ret)
def e1v:CC:=(.cond (tm 32) d2x .skip)
def d8X:CC:=(.seq (.reg e7e) e1v)
def c5q:CC:=(.seq (.reg e6x) .ret)
def e3A:CC:=(.seq d8X c5q)
def d4B:CC:=(.seq (.reg e8c) e3A)
def e4S:CC:=(.seq d7S d4B)
def e5S:CC:=(.seq (.reg d5E) e4S)
def f3C:CC:=(.seq (.reg e5c) e5S)
theorem g7d:type_of% (qz e8j.eq_1 (qz e6v.eq_1 (qz d7S.eq_1 (qz d2x.eq_1 (qz e1v.eq_1 (qz d8X.eq_1 (qz c5q.eq_1 (qz e3A.eq_1 (qz d4B.eq_1 (qz e4S.eq_1 (qz e5S.eq_1 (qy f3C.eq_1)))))))))))):=⟨kr,kr,kr,kr,kr,kr,kr,kr,kr,kr,kr,kr⟩
theorem g5Y:FnAt Tryz.prog tb b3f f3C 34 [.tmp 6,.tmp 7] :=j6 i7 Tryz.func110 rfl (by kernel_rfl) (by kernel_rfl) rfl rfl
def e2B:CC:=(.seq (.reg g4b) .ret)
def d3O:CC:=(.seq (.reg g3C) e2B)
def d5w:CC:=(.cond (tm 18) d3O .skip)
def e6r:CC:=(.seq (.reg d4d) d5w)
def e5j:CC:=(.seq (.reg e5L) .ret)
def e0M:CC:=(.seq e6r e5j)
def f3d:CC:=(.seq (.reg d4t) e0M)
theorem g7r:type_of% (qz e2B.eq_1 (qz d3O.eq_1 (qz d5w.eq_1 (qz e6r.eq_1 (qz e5j.eq_1 (qz e0M.eq_1 (qy f3d.eq_1))))))):=⟨kr,kr,kr,kr,kr,kr,kr⟩
theorem g5z:FnAt Tryz.prog tb b3z f3d 21 [.cell 8 x7,.tmp 9] :=j6 i7 Tryz.func111 rfl (by kernel_rfl) (by kernel_rfl) rfl rfl
def d6X:CC:=(.cond (tm 14) .skip (.exit 0))
def d7X:CC:=(.seq (.reg a6q) d6X)
def d00:CC:=(.cond (tm 34) .skip (.exit 2))
def c8k:CC:=(.seq (.drawn a6o [(8,0),(13,0)]) d00)
def d2b:CC:=(.drawn d7C [(9,0),(13,0)])
def c4g:CC:=(.block 3 d2b)
def c3A:CC:=(.reg d9d)
def c4S:CC:=(.seq c4g c3A)
def d0y:CC:=(.seq c8k c4S)
def c4q:CC:=(.loop d0y)
def e5e:CC:=(.block 2 c4q)
def d8W:CC:=(.seq (.reg e2w) e5e)
def e20:CC:=(.block 1 d8W)
def d13:CC:=(.reg b1n)
def d4C:CC:=(.seq e20 d13)
def e3l:CC:=(.seq d7X d4C)
def d3G:CC:=(.loop e3l)
def e51:CC:=(.block 0 d3G)
def f1W:CC:=(.seq (.reg b2I) e51)
theorem a0q:type_of% (qz d6X.eq_1 (qz d7X.eq_1 (qz d00.eq_1 (qz c8k.eq_1 (qz d2b.eq_1 (qz c4g.eq_1 (qz c3A.eq_1 (qz c4S.eq_1 (qz d0y.eq_1 (qz c4q.eq_1 (qz e5e.eq_1 (qz d8W.eq_1 (qz e20.eq_1 (qz d13.eq_1 (qz d4C.eq_1 (qz e3l.eq_1 (qz d3G.eq_1 (qz e51.eq_1 (qy f1W.eq_1))))))))))))))))))):=⟨kr,kr,kr,kr,kr,kr,kr,kr,kr,kr,kr,kr,kr,kr,kr,kr,kr,kr,kr⟩
theorem f0y:FnAt Tryz.prog tb O7 f1W 53 [] :=j6 i7 Tryz.func112 rfl (by kernel_rfl) (by kernel_rfl) rfl rfl
def d14:CC:=(.cond (tm 33) .skip (.exit 0))
def d4e:CC:=(.seq (.reg a6F) d14)
def d1S:CC:=(.reg d41)
def c4x:CC:=(.reg e5R)
def c5u:CC:=(.cond (tm 50) d1S c4x)
def c4f:CC:=(.seq (.drawn b1i [(4,0),(8,0)]) c5u)
def d0M:CC:=(.seq (.reg b1X) c4f)
def c0Q:CC:=(.block 1 d0M)
def e1C:CC:=(.seq d4e c0Q)
def e7W:CC:=(.loop e1C)
def e7b:CC:=(.block 0 e7W)
def d0c:CC:=(.cond (tm 58) .skip (.exit 2))
def c6Q:CC:=(.seq (.reg b1j) d0c)
def c8Q:CC:=(.drawn c2j [(9,0),(13,0)])
def c4s:CC:=(.block 3 c8Q)
def c46:CC:=(.reg d3a)
def c0R:CC:=(.seq c4s c46)
def c3G:CC:=(.seq c6Q c0R)
def c4a:CC:=(.loop c3G)
def c6F:CC:=(.block 2 c4a)
def c5n:CC:=(.seq (.reg e2c) c6F)
def c2z:CC:=(.seq c5n .ret)
def e5q:CC:=(.seq e7b c2z)
def e5I:CC:=(.seq (.reg e0G) e5q)
def d5b:CC:=(.seq (.reg d7s) e5I)
def d73:CC:=(.cond (tm 28) d5b .skip)
def b1I:CC:=(.seq (.reg a5V) d73)
def c6G:CC:=(.cond (tm 85) .skip (.exit 4))
def c2D:CC:=(.seq (.reg a5b) c6G)
def d0F:CC:=(.reg c12)
def c6Y:CC:=(.reg c56)
def c1V:CC:=(.cond (tm 103) d0F c6Y)
def c2s:CC:=(.seq (.drawn b03 [(4,0),(8,0)]) c1V)
def c4B:CC:=(.seq (.reg b0A) c2s)
def d2q:CC:=(.block 5 c4B)
def c4v:CC:=(.seq c2D d2q)
def c0U:CC:=(.loop c4v)
def d2c:CC:=(.block 4 c0U)
def c90:CC:=(.cond (tm 110) .skip (.exit 6))
def c0I:CC:=(.seq (.reg b0s) c90)
def c7H:CC:=(.drawn c98 [(9,0),(13,0)])
def c7h:CC:=(.block 7 c7H)
def c4W:CC:=(.reg d2z)
def c6r:CC:=(.seq c7h c4W)
def c3C:CC:=(.seq c0I c6r)
def c4p:CC:=(.loop c3C)
def c4U:CC:=(.block 6 c4p)
def d1g:CC:=(.seq (.reg c5I) c4U)
def c5Z:CC:=(.seq d1g .ret)
def c7s:CC:=(.seq d2c c5Z)
def c26:CC:=(.seq (.reg c0u) c7s)
def c7u:CC:=(.seq (.reg c8r) c26)
def d0Z:CC:=(.cond (tm 80) c7u .skip)
def a99:CC:=(.seq (.reg b0f) d0Z)
def c7B:CC:=(.reg d0H)
def d0O:CC:=(.seq (.reg c5k) c7B)
def d1C:CC:=(.reg c5Y)
def c2C:CC:=(.seq (.reg c52) d1C)
def c2r:CC:=(.cond (tm 140) d0O c2C)
def a9T:CC:=(.seq (.reg b08) c2r)
def c6e:CC:=(.cond (tm 151) .skip (.exit 8))
def c7p:CC:=(.seq (.reg a5t) c6e)
def d0X:CC:=(.reg c0J)
def c3g:CC:=(.reg c5j)
def c24:CC:=(.cond (tm 171) d0X c3g)
def d1k:CC:=(.seq (.drawn a9R [(6,0),(10,0)]) c24)
def d06:CC:=(.seq (.reg a97) d1k)
def c4I:CC:=(.block 9 d06)
def c7O:CC:=(.seq c7p c4I)
def d1p:CC:=(.loop c7O)
def b07:CC:=(.block 8 d1p)
def d1K:CC:=(.reg c8I)
def c3l:CC:=(.cond (tm 185) d1K .skip)
def b0l:CC:=(.seq (.reg a5m) c3l)
def c7N:CC:=(.reg c6b)
def c7t:CC:=(.cond (tm 199) c7N .skip)
def b0r:CC:=(.seq (.reg a5e) c7t)
def d0j:CC:=(.reg c71)
def c4Z:CC:=(.cond (tm 213) d0j .skip)
def a5x:CC:=(.seq (.reg a5j) c4Z)
def a2S:CC:=(.seq b0r a5x)
def a5C:CC:=(.seq b0l a2S)
def a5D:CC:=(.seq (.reg b0F) a5C)
def c6W:CC:=(.seq b07 a5D)
def a2U:CC:=(.seq (.reg b0u) c6W)
def a4W:CC:=(.seq a9T a2U)
def c7w:CC:=(.seq (.reg b0J) a4W)
def c9F:CC:=(.seq (.reg a96) c7w)
def c8a:CC:=(.seq (.reg b0Z) c9F)
def c6P:CC:=(.seq a99 c8a)
def b4g:CC:=(.seq b1I c6P)
theorem C0:type_of% (qz d14.eq_1 (qz d4e.eq_1 (qz d1S.eq_1 (qz c4x.eq_1 (qz c5u.eq_1 (qz c4f.eq_1 (qz d0M.eq_1 (qz c0Q.eq_1 (qz e1C.eq_1 (qz e7W.eq_1 (qz e7b.eq_1 (qz d0c.eq_1 (qz c6Q.eq_1 (qz c8Q.eq_1 (qz c4s.eq_1 (qz c46.eq_1 (qz c0R.eq_1 (qz c3G.eq_1 (qz c4a.eq_1 (qz c6F.eq_1 (qz c5n.eq_1 (qz c2z.eq_1 (qz e5q.eq_1 (qz e5I.eq_1 (qz d5b.eq_1 (qz d73.eq_1 (qz b1I.eq_1 (qz c6G.eq_1 (qz c2D.eq_1 (qz d0F.eq_1 (qz c6Y.eq_1 (qz c1V.eq_1 (qz c2s.eq_1 (qz c4B.eq_1 (qz d2q.eq_1 (qz c4v.eq_1 (qz c0U.eq_1 (qz d2c.eq_1 (qz c90.eq_1 (qz c0I.eq_1 (qz c7H.eq_1 (qz c7h.eq_1 (qz c4W.eq_1 (qz c6r.eq_1 (qz c3C.eq_1 (qz c4p.eq_1 (qz c4U.eq_1 (qz d1g.eq_1 (qz c5Z.eq_1 (qz c7s.eq_1 (qz c26.eq_1 (qz c7u.eq_1 (qz d0Z.eq_1 (qz a99.eq_1 (qz c7B.eq_1 (qz d0O.eq_1 (qz d1C.eq_1 (qz c2C.eq_1 (qz c2r.eq_1 (qz a9T.eq_1 (qz c6e.eq_1 (qz c7p.eq_1 (qz d0X.eq_1 (qz c3g.eq_1 (qz c24.eq_1 (qz d1k.eq_1 (qz d06.eq_1 (qz c4I.eq_1 (qz c7O.eq_1 (qz d1p.eq_1 (qz b07.eq_1 (qz d1K.eq_1 (qz c3l.eq_1 (qz b0l.eq_1 (qz c7N.eq_1 (qz c7t.eq_1 (qz b0r.eq_1 (qz d0j.eq_1 (qz c4Z.eq_1 (qz a5x.eq_1 (qz a2S.eq_1 (qz a5C.eq_1 (qz a5D.eq_1 (qz c6W.eq_1 (qz a2U.eq_1 (qz a4W.eq_1 (qz c7w.eq_1 (qz c9F.eq_1 (qz c8a.eq_1 (qz c6P.eq_1 (qy b4g.eq_1))))))))))))))))))))))))))))))))))))))))))))))))))))))))))))))))))))))))))))))))))))))))))):=⟨kr,kr,kr,kr,kr,kr,kr,kr,kr,kr,kr,kr,kr,kr,kr,kr,kr,kr,kr,kr,kr,kr,kr,kr,kr,kr,kr,kr,kr,kr,kr,kr,kr,kr,kr,kr,kr,kr,kr,kr,kr,kr,kr,kr,kr,kr,kr,kr,kr,kr,kr,kr,kr,kr,kr,kr,kr,kr,kr,kr,kr,kr,kr,kr,kr,kr,kr,kr,kr,kr,kr,kr,kr,kr,kr,kr,kr,kr,kr,kr,kr,kr,kr,kr,kr,kr,kr,kr,kr,kr,kr⟩
theorem b3t:FnAt Tryz.prog tb J7 b4g 220 [] :=j6 i7 Tryz.func113 rfl (by kernel_rfl) (by kernel_rfl) rfl rfl
def f2d:CC:=(.reg d69)
theorem g7c:type_of% (qy f2d.eq_1):=kr
theorem g6E:FnAt Tryz.prog tb a6M f2d 12 [] :=j6 i7 Tryz.func126 rfl (by kernel_rfl) (by kernel_rfl) rfl rfl
def e4M:CC:=(.seq (.reg g2n) .ret)
def d4r:CC:=(.cond (tm 16) e4M .skip)
def e8Q:CC:=(.seq (.reg d7b) d4r)
def e3g:CC:=(.seq (.reg g3t) .ret)
def d5F:CC:=(.cond (tm 27) e3g .skip)
def d8F:CC:=(.seq (.reg e1g) d5F)
def d1Z:CC:=(.cond (tm 34) .skip (.exit 0))
def c4d:CC:=(.seq (.reg g1w) .ret)
def c9c:CC:=(.cond (tm 56) c4d .skip)
def c6a:CC:=(.seq (.reg c48) c9c)
def d2Z:CC:=(.seq (.drawn c8o [(2,0),(2,9),(7,0)]) c6a)
def d0W:CC:=(.cond (tm 44) d2Z .skip)
def c1y:CC:=(.seq (.reg b0c) d0W)
def c5v:CC:=(.seq (.reg f9S) .ret)
def c6V:CC:=(.cond (tm 66) c5v .skip)
def c16:CC:=(.seq (.reg a5p) c6V)
def b0W:CC:=(.seq (.reg a5l) c16)
def c2n:CC:=(.seq (.reg c2I) .ret)
def c6x:CC:=(.cond (tm 81) c2n .skip)
def c5f:CC:=(.seq (.reg b0Y) c6x)
def c1u:CC:=(.seq (.reg a93) c5f)
def c3D:CC:=(.seq (.reg g1q) .ret)
def c9r:CC:=(.cond (tm 89) c3D .skip)
def c2x:CC:=(.seq (.reg d29) c9r)
def c6o:CC:=(.seq (.reg c6D) c2x)
def c7g:CC:=(.seq c1u c6o)
def c33:CC:=(.cond (tm 70) c7g .skip)
def d1O:CC:=(.seq (.reg a5k) c33)
def c9C:CC:=(.reg b0S)
def c62:CC:=(.seq d1O c9C)
def a94:CC:=(.seq (.reg a5g) c62)
def a5F:CC:=(.seq b0W a94)
def d03:CC:=(.seq c1y a5F)
def c3L:CC:=(.seq (.reg b00) d03)
def c7f:CC:=(.seq (.reg b1Z) c3L)
def d24:CC:=(.block 1 c7f)
def c0y:CC:=(.reg a98)
def d2r:CC:=(.seq d24 c0y)
def c4M:CC:=(.seq d1Z d2r)
def c5O:CC:=(.seq (.reg a6v) c4M)
def c5A:CC:=(.loop c5O)
def c2L:CC:=(.block 0 c5A)
def c1B:CC:=(.seq (.reg e5k) c2L)
def c39:CC:=(.seq (.reg c6U) .ret)
def c3E:CC:=(.seq c1B c39)
def c9g:CC:=(.seq (.reg e81) c3E)
def e38:CC:=(.seq d8F c9g)
def d9E:CC:=(.seq (.reg e5n) e38)
def e6B:CC:=(.seq e8Q d9E)
def f3p:CC:=(.seq (.reg d3u) e6B)
theorem W5:type_of% (qz e4M.eq_1 (qz d4r.eq_1 (qz e8Q.eq_1 (qz e3g.eq_1 (qz d5F.eq_1 (qz d8F.eq_1 (qz d1Z.eq_1 (qz c4d.eq_1 (qz c9c.eq_1 (qz c6a.eq_1 (qz d2Z.eq_1 (qz d0W.eq_1 (qz c1y.eq_1 (qz c5v.eq_1 (qz c6V.eq_1 (qz c16.eq_1 (qz b0W.eq_1 (qz c2n.eq_1 (qz c6x.eq_1 (qz c5f.eq_1 (qz c1u.eq_1 (qz c3D.eq_1 (qz c9r.eq_1 (qz c2x.eq_1 (qz c6o.eq_1 (qz c7g.eq_1 (qz c33.eq_1 (qz d1O.eq_1 (qz c9C.eq_1 (qz c62.eq_1 (qz a94.eq_1 (qz d03.eq_1 (qz c3L.eq_1 (qz c7f.eq_1 (qz d24.eq_1 (qz c0y.eq_1 (qz d2r.eq_1 (qz c4M.eq_1 (qz c5O.eq_1 (qz c5A.eq_1 (qz c2L.eq_1 (qz c1B.eq_1 (qz c39.eq_1 (qz c3E.eq_1 (qz c9g.eq_1 (qz e38.eq_1 (qz d9E.eq_1 (qz e6B.eq_1 (qy f3p.eq_1))))))))))))))))))))))))))))))))))))))))))))))))):=⟨kr,kr,kr,kr,kr,kr,kr,kr,kr,kr,kr,kr,kr,kr,kr,kr,kr,kr,kr,kr,kr,kr,kr,kr,kr,kr,kr,kr,kr,kr,kr,kr,kr,kr,kr,kr,kr,kr,kr,kr,kr,kr,kr,kr,kr,kr,kr,kr,kr⟩
theorem g6u:FnAt Tryz.prog tb b3W f3p 96 [.tmp 8,.tmp 9,.tmp 10] :=j6 i7 Tryz.func127 rfl (by kernel_rfl) (by kernel_rfl) rfl rfl
theorem a8O:∀Q fr m,GX Tryz.prog tb a5F Q fr m=GX Tryz.prog tb (.seq b0W a94) Q fr m:=kr
def d4U:CC:=(.seq (.reg d4Q) .ret)
def e17:CC:=(.cond (tm 12) d4U .skip)
def e6i:CC:=(.seq (.reg b2r) e17)
def d4I:CC:=(.seq (.reg e7T) .ret)
def d8Q:CC:=(.seq e6i d4I)
def f3J:CC:=(.seq (.reg b1q) d8Q)
theorem f2D:type_of% (qz d4U.eq_1 (qz e17.eq_1 (qz e6i.eq_1 (qz d4I.eq_1 (qz d8Q.eq_1 (qy f3J.eq_1)))))):=⟨kr,kr,kr,kr,kr,kr⟩
theorem f0O:FnAt Tryz.prog tb a7t f3J 27 [.tmp 6] :=j6 i7 Tryz.func128 rfl (by kernel_rfl) (by kernel_rfl) rfl rfl
def e1f:CC:=(.seq (.reg e1T) .ret)
def e7Q:CC:=(.cond (tm 25) e1f .skip)
def e49:CC:=(.seq (.reg b19) e7Q)
def e8P:CC:=(.seq (.reg e6A) .ret)
def d47:CC:=(.seq (.reg e5w) e8P)
def d5H:CC:=(.seq e49 d47)
def d7q:CC:=(.seq (.reg b2A) d5H)
def f1w:CC:=(.seq (.reg b2c) d7q)
theorem f3r:type_of% (qz e1f.eq_1 (qz e7Q.eq_1 (qz e49.eq_1 (qz e8P.eq_1 (qz d47.eq_1 (qz d5H.eq_1 (qz d7q.eq_1 (qy f1w.eq_1)))))))):=⟨kr,kr,kr,kr,kr,kr,kr,kr⟩
theorem f0Y:FnAt Tryz.prog tb b3U f1w 34 [.tmp 8] :=j6 i7 Tryz.func129 rfl (by kernel_rfl) (by kernel_rfl) rfl rfl
def e3e:CC:=(.seq (.reg e2I) .ret)
def e55:CC:=(.cond (tm 31) e3e .skip)
def e4v:CC:=(.seq (.reg b1o) e55)
def d0g:CC:=(.cond (tm 35) .skip (.exit 0))
def c2W:CC:=(.reg e5l)
def c00:CC:=(.block 1 c2W)
def c2w:CC:=(.reg e8N)
def c74:CC:=(.seq c00 c2w)
def c4u:CC:=(.seq d0g c74)
def c8K:CC:=(.seq (.reg a3c) c4u)
def c94:CC:=(.loop c8K)
def d9m:CC:=(.block 0 c94)
def d78:CC:=(.seq (.reg e0P) d9m)
def c4Q:CC:=(.seq (.reg c4h) .ret)
def d0Y:CC:=(.cond (tm 47) c4Q .skip)
def c1S:CC:=(.seq (.reg a6i) d0Y)
def c7L:CC:=(.cond (tm 55) .skip (.exit 2))
def c2p:CC:=(.seq (.reg g1S) .ret)
def c1L:CC:=(.cond (tm 79) c2p .skip)
def c6J:CC:=(.seq (.reg c7A) c1L)
def c70:CC:=(.seq (.drawn c5D [(3,0),(14,0)]) c6J)
def c0B:CC:=(.seq (.reg d2o) c70)
def c5T:CC:=(.block 3 c0B)
def c7W:CC:=(.reg c0G)
def c8T:CC:=(.seq c5T c7W)
def c6S:CC:=(.seq c7L c8T)
def d1M:CC:=(.seq (.reg a5r) c6S)
def d0v:CC:=(.loop d1M)
def c4V:CC:=(.block 2 d0v)
def c3F:CC:=(.seq (.reg c6E) c4V)
def c3j:CC:=(.cond (tm 49) c3F .skip)
def c3N:CC:=(.seq (.reg a9S) c3j)
def c3x:CC:=(.seq (.reg d0L) .ret)
def d0e:CC:=(.cond (tm 84) c3x .skip)
def c7l:CC:=(.seq (.reg a5q) d0e)
def d2Q:CC:=(.seq (.reg f9Y) .ret)
def c3H:CC:=(.cond (tm 90) d2Q .skip)
def c9k:CC:=(.seq (.reg b09) c3H)
def c9L:CC:=(.seq (.reg a95) c9k)
def c7m:CC:=(.seq (.reg a9V) .ret)
def c3P:CC:=(.seq c9L c7m)
def d25:CC:=(.seq c7l c3P)
def c8D:CC:=(.seq c3N d25)
def d2d:CC:=(.seq c1S c8D)
def e8W:CC:=(.seq d78 d2d)
def d3z:CC:=(.seq (.reg e9C) e8W)
def e68:CC:=(.seq e4v d3z)
def e9K:CC:=(.seq (.reg b2H) e68)
def f3o:CC:=(.seq (.reg b2z) e9K)
theorem W3:type_of% (qz e3e.eq_1 (qz e55.eq_1 (qz e4v.eq_1 (qz d0g.eq_1 (qz c2W.eq_1 (qz c00.eq_1 (qz c2w.eq_1 (qz c74.eq_1 (qz c4u.eq_1 (qz c8K.eq_1 (qz c94.eq_1 (qz d9m.eq_1 (qz d78.eq_1 (qz c4Q.eq_1 (qz d0Y.eq_1 (qz c1S.eq_1 (qz c7L.eq_1 (qz c2p.eq_1 (qz c1L.eq_1 (qz c6J.eq_1 (qz c70.eq_1 (qz c0B.eq_1 (qz c5T.eq_1 (qz c7W.eq_1 (qz c8T.eq_1 (qz c6S.eq_1 (qz d1M.eq_1 (qz d0v.eq_1 (qz c4V.eq_1 (qz c3F.eq_1 (qz c3j.eq_1 (qz c3N.eq_1 (qz c3x.eq_1 (qz d0e.eq_1 (qz c7l.eq_1 (qz d2Q.eq_1 (qz c3H.eq_1 (qz c9k.eq_1 (qz c9L.eq_1 (qz c7m.eq_1 (qz c3P.eq_1 (qz d25.eq_1 (qz c8D.eq_1 (qz d2d.eq_1 (qz e8W.eq_1 (qz d3z.eq_1 (qz e68.eq_1 (qz e9K.eq_1 (qy f3o.eq_1))))))))))))))))))))))))))))))))))))))))))))))))):=⟨kr,kr,kr,kr,kr,kr,kr,kr,kr,kr,kr,kr,kr,kr,kr,kr,kr,kr,kr,kr,kr,kr,kr,kr,kr,kr,kr,kr,kr,kr,kr,kr,kr,kr,kr,kr,kr,kr,kr,kr,kr,kr,kr,kr,kr,kr,kr,kr,kr⟩
theorem f0f:FnAt Tryz.prog tb R0 f3o 99 [.tmp 12] :=j6 i7 Tryz.func130 rfl (by kernel_rfl) (by kernel_rfl) rfl rfl
def e8C:CC:=(.seq (.reg g21) .ret)
def e3D:CC:=(.seq (.reg g3A) .ret)
def d6O:CC:=(.cond (tm 6) e3D .skip)
def e0F:CC:=(.seq (.reg d5V) d6O)
def d6V:CC:=(.cond (tm 3) e8C e0F)
def e4C:CC:=(.seq (.reg e0U) d6V)
def e3c:CC:=(.block 0 e4C)
def d4K:CC:=(.seq (.reg d4q) .ret)
def e7a:CC:=(.seq e3c d4K)
def f1q:CC:=(.seq (.reg e69) e7a)
theorem g63:type_of% (qz e8C.eq_1 (qz e3D.eq_1 (qz d6O.eq_1 (qz e0F.eq_1 (qz d6V.eq_1 (qz e4C.eq_1 (qz e3c.eq_1 (qz d4K.eq_1 (qz e7a.eq_1 (qy f1q.eq_1)))))))))):=⟨kr,kr,kr,kr,kr,kr,kr,kr,kr,kr⟩
theorem g5l:FnAt Tryz.prog tb a3I f1q 16 [.tmp 2] :=j6 i7 Tryz.func131 rfl (by kernel_rfl) (by kernel_rfl) rfl rfl
def e1r:CC:=(.seq (.reg g2q) .ret)
def d7Y:CC:=(.seq (.reg g3p) .ret)
def d6y:CC:=(.cond (tm 13) d7Y .skip)
def d7A:CC:=(.seq (.reg e24) d6y)
def e1i:CC:=(.cond (tm 10) e1r d7A)
def d9K:CC:=(.seq (.reg e8y) e1i)
def d4i:CC:=(.block 0 d9K)
def d2K:CC:=(.seq (.reg e0t) .ret)
def d3b:CC:=(.cond (tm 34) d2K .skip)
def c8V:CC:=(.seq (.reg e4G) d3b)
def c5r:CC:=(.seq (.reg e6X) c8V)
def d1r:CC:=(.seq (.reg g1l) .ret)
def c4n:CC:=(.cond (tm 43) d1r .skip)
def d1v:CC:=(.seq (.reg g2s) c4n)
def c77:CC:=(.seq (.reg g2P) d1v)
def c3U:CC:=(.seq (.reg g0Z) .ret)
def c9j:CC:=(.seq c77 c3U)
def e3W:CC:=(.seq c5r c9j)
def e4f:CC:=(.seq d4i e3W)
def f3n:CC:=(.seq (.reg d9q) e4f)
theorem g7M:type_of% (qz e1r.eq_1 (qz d7Y.eq_1 (qz d6y.eq_1 (qz d7A.eq_1 (qz e1i.eq_1 (qz d9K.eq_1 (qz d4i.eq_1 (qz d2K.eq_1 (qz d3b.eq_1 (qz c8V.eq_1 (qz c5r.eq_1 (qz d1r.eq_1 (qz c4n.eq_1 (qz d1v.eq_1 (qz c77.eq_1 (qz c3U.eq_1 (qz c9j.eq_1 (qz e3W.eq_1 (qz e4f.eq_1 (qy f3n.eq_1)))))))))))))))))))):=⟨kr,kr,kr,kr,kr,kr,kr,kr,kr,kr,kr,kr,kr,kr,kr,kr,kr,kr,kr,kr⟩
theorem g6d:FnAt Tryz.prog tb b3J f3n 53 [.tmp 4,.tmp 5] :=j6 i7 Tryz.func132 rfl (by kernel_rfl) (by kernel_rfl) rfl rfl
def e72:CC:=(.seq (.reg d3i) .ret)
def f3B:CC:=(.seq (.reg d5S) e72)
theorem g6H:type_of% (qz e72.eq_1 (qy f3B.eq_1)):=⟨kr,kr⟩
theorem g5Q:FnAt Tryz.prog tb a7c f3B 10 [.tmp 4] :=j6 i7 Tryz.func133 rfl (by kernel_rfl) (by kernel_rfl) rfl rfl
def d9X:CC:=(.seq (.reg g4l) .ret)
def d36:CC:=(.cond (tm 22) d9X .skip)
def e1P:CC:=(.seq (.reg b2K) d36)
def e7l:CC:=(.seq (.reg b1K) e1P)
def e01:CC:=(.seq (.reg g3W) .ret)
def e0j:CC:=(.cond (tm 32) e01 .skip)
def d6a:CC:=(.seq (.reg b2M) e0j)
def d3e:CC:=(.cond (tm 37) .skip (.exit 0))
def c5F:CC:=(.reg a48)
def c2E:CC:=(.seq (.reg a6L) c5F)
def d19:CC:=(.block 1 c2E)
def c2K:CC:=(.reg a5f)
def c5w:CC:=(.seq d19 c2K)
def d1F:CC:=(.seq d3e c5w)
def c9E:CC:=(.seq (.reg a1B) d1F)
def d1w:CC:=(.loop c9E)
def d2P:CC:=(.block 0 d1w)
def d0q:CC:=(.seq (.reg b2W) d2P)
def c1o:CC:=(.seq (.reg b0h) .ret)
def d2G:CC:=(.seq d0q c1o)
def d2k:CC:=(.seq (.reg b2t) d2G)
def d4M:CC:=(.seq d6a d2k)
def d8e:CC:=(.seq e7l d4M)
def f2b:CC:=(.seq (.reg b2q) d8e)
theorem a1a:type_of% (qz d9X.eq_1 (qz d36.eq_1 (qz e1P.eq_1 (qz e7l.eq_1 (qz e01.eq_1 (qz e0j.eq_1 (qz d6a.eq_1 (qz d3e.eq_1 (qz c5F.eq_1 (qz c2E.eq_1 (qz d19.eq_1 (qz c2K.eq_1 (qz c5w.eq_1 (qz d1F.eq_1 (qz c9E.eq_1 (qz d1w.eq_1 (qz d2P.eq_1 (qz d0q.eq_1 (qz c1o.eq_1 (qz d2G.eq_1 (qz d2k.eq_1 (qz d4M.eq_1 (qz d8e.eq_1 (qy f2b.eq_1)))))))))))))))))))))))):=⟨kr,kr,kr,kr,kr,kr,kr,kr,kr,kr,kr,kr,kr,kr,kr,kr,kr,kr,kr,kr,kr,kr,kr,kr⟩
theorem f0a:FnAt Tryz.prog tb a1Z f2b 51 [.tmp 8,.tmp 9] :=j6 i7 Tryz.func134 rfl (by kernel_rfl) (by kernel_rfl) rfl rfl
def e5X:CC:=(.reg e4h)
def e5H:CC:=(.seq (.reg d83) e5X)
def f2y:CC:=(.seq (.reg e9D) e5H)
theorem g6P:type_of% (qz e5X.eq_1 (qz e5H.eq_1 (qy f2y.eq_1))):=⟨kr,kr,kr⟩
theorem g6t:FnAt Tryz.prog tb a6O f2y 19 [] :=j6 i7 Tryz.func143 rfl (by kernel_rfl) (by kernel_rfl) rfl rfl
def e5T:CC:=(.seq (.reg e5f) .ret)
def f25:CC:=(.seq (.reg d6m) e5T)
theorem g7b:type_of% (qz e5T.eq_1 (qy f25.eq_1)):=⟨kr,kr⟩
theorem g6n:FnAt Tryz.prog tb b3D f25 8 [.tmp 4] :=j6 i7 Tryz.func144 rfl (by kernel_rfl) (by kernel_rfl) rfl rfl
def d3I:CC:=(.seq (.reg g4j) .ret)
def e9B:CC:=(.cond (tm 16) d3I .skip)
def e5V:CC:=(.seq (.reg a6K) e9B)
def d37:CC:=(.seq (.reg g3P) .ret)
def e8u:CC:=(.cond (tm 25) d37 .skip)
def d45:CC:=(.seq (.reg a50) e8u)
def c6y:CC:=(.seq (.reg c7F) .ret)
def c7K:CC:=(.seq (.reg d2l) .ret)
def c1K:CC:=(.seq (.drawn e7g []) .ret)
def c5l:CC:=(.seq (.reg d6i) c1K)
def c58:CC:=(.cond (tm 46) c7K c5l)
def c6p:CC:=(.seq (.reg b06) c58)
def c6M:CC:=(.cond (tm 41) c6y c6p)
def c7n:CC:=(.seq (.reg a5h) c6M)
def c67:CC:=(.block 0 c7n)
def d16:CC:=(.seq (.reg a6z) c67)
def c7Q:CC:=(.seq (.reg a6t) d16)
def e3O:CC:=(.seq d45 c7Q)
def e0Q:CC:=(.seq e5V e3O)
def d34:CC:=(.seq (.reg a54) e0Q)
def f2i:CC:=(.seq (.reg a6p) d34)
theorem b4f:type_of% (qz d3I.eq_1 (qz e9B.eq_1 (qz e5V.eq_1 (qz d37.eq_1 (qz e8u.eq_1 (qz d45.eq_1 (qz c6y.eq_1 (qz c7K.eq_1 (qz c1K.eq_1 (qz c5l.eq_1 (qz c58.eq_1 (qz c6p.eq_1 (qz c6M.eq_1 (qz c7n.eq_1 (qz c67.eq_1 (qz d16.eq_1 (qz c7Q.eq_1 (qz e3O.eq_1 (qz e0Q.eq_1 (qz d34.eq_1 (qy f2i.eq_1))))))))))))))))))))):=⟨kr,kr,kr,kr,kr,kr,kr,kr,kr,kr,kr,kr,kr,kr,kr,kr,kr,kr,kr,kr,kr⟩
theorem b3o:FnAt Tryz.prog tb a6X f2i 52 [.tmp 4,.tmp 5] :=j6 i7 Tryz.func145 rfl (by kernel_rfl) (by kernel_rfl) rfl rfl
def d59:CC:=(.seq (.reg g17) .ret)
def d3w:CC:=(.cond (tm 11) d59 .skip)
def e3o:CC:=(.seq (.reg e5d) d3w)
def d6d:CC:=(.seq (.reg g4M) .ret)
def d61:CC:=(.cond (tm 20) d6d .skip)
def d9y:CC:=(.seq (.reg e6w) d61)
def c1p:CC:=(.seq (.reg e8q) .ret)
def e2a:CC:=(.seq d9y c1p)
def e9p:CC:=(.seq (.reg d57) e2a)
def d3J:CC:=(.seq e3o e9p)
def f1y:CC:=(.seq (.reg d8z) d3J)
theorem g66:type_of% (qz d59.eq_1 (qz d3w.eq_1 (qz e3o.eq_1 (qz d6d.eq_1 (qz d61.eq_1 (qz d9y.eq_1 (qz c1p.eq_1 (qz e2a.eq_1 (qz e9p.eq_1 (qz d3J.eq_1 (qy f1y.eq_1))))))))))):=⟨kr,kr,kr,kr,kr,kr,kr,kr,kr,kr,kr⟩
theorem g5p:FnAt Tryz.prog tb b3B f1y 22 [.tmp 6,.tmp 7] :=j6 i7 Tryz.func146 rfl (by kernel_rfl) (by kernel_rfl) rfl rfl
def e0L:CC:=(.seq (.reg d8A) .ret)
def f2M:CC:=(.seq (.reg d9F) e0L)
theorem g7K:type_of% (qz e0L.eq_1 (qy f2M.eq_1)):=⟨kr,kr⟩
theorem g6D:FnAt Tryz.prog tb b3i f2M 13 [.tmp 4,.tmp 5,.tmp 6] :=j6 i7 Tryz.func147 rfl (by kernel_rfl) (by kernel_rfl) rfl rfl
def d3P:CC:=(.seq (.reg d9O) .ret)
def e22:CC:=(.cond (tm 12) d3P .skip)
def e7I:CC:=(.seq (.reg b2B) e22)
def d3Z:CC:=(.seq (.drawn d9v []) .ret)
def e1R:CC:=(.cond (tm 21) d3Z .skip)
def d5Y:CC:=(.seq (.reg e2f) e1R)
def d0d:CC:=(.seq (.reg g2w) .ret)
def c9m:CC:=(.cond (tm 34) d0d .skip)
def c20:CC:=(.seq (.reg g4k) c9m)
def c6d:CC:=(.seq (.reg g2a) c20)
def c5s:CC:=(.seq (.reg g2C) .ret)
def d6t:CC:=(.seq c6d c5s)
def e5t:CC:=(.seq d5Y d6t)
def d3B:CC:=(.seq e7I e5t)
def f3S:CC:=(.seq (.reg b1O) d3B)
theorem f1H:type_of% (qz d3P.eq_1 (qz e22.eq_1 (qz e7I.eq_1 (qz d3Z.eq_1 (qz e1R.eq_1 (qz d5Y.eq_1 (qz d0d.eq_1 (qz c9m.eq_1 (qz c20.eq_1 (qz c6d.eq_1 (qz c5s.eq_1 (qz d6t.eq_1 (qz e5t.eq_1 (qz d3B.eq_1 (qy f3S.eq_1))))))))))))))):=⟨kr,kr,kr,kr,kr,kr,kr,kr,kr,kr,kr,kr,kr,kr,kr⟩
theorem g5o:FnAt Tryz.prog tb b3G f3S 43 [.tmp 4] :=j6 i7 Tryz.func148 rfl (by kernel_rfl) (by kernel_rfl) rfl rfl
def d8O:CC:=(.cond (tm 20) .skip (.exit 0))
def d52:CC:=(.seq (.reg a6g) d8O)
def c9M:CC:=(.reg e1x)
def c5x:CC:=(.seq (.reg e67) c9M)
def c5N:CC:=(.reg d5O)
def c3z:CC:=(.seq (.reg d9j) c5N)
def c6k:CC:=(.cond (tm 23) c5x c3z)
def d5C:CC:=(.seq (.reg b2e) c6k)
def d7j:CC:=(.block 1 d5C)
def d8i:CC:=(.seq d52 d7j)
def e4p:CC:=(.loop d8i)
def e8R:CC:=(.block 0 e4p)
def c1J:CC:=(.reg e26)
def e8i:CC:=(.seq e8R c1J)
def d6D:CC:=(.seq (.reg e6O) e8i)
def f26:CC:=(.seq (.reg d65) d6D)
theorem a7A:type_of% (qz d8O.eq_1 (qz d52.eq_1 (qz c9M.eq_1 (qz c5x.eq_1 (qz c5N.eq_1 (qz c3z.eq_1 (qz c6k.eq_1 (qz d5C.eq_1 (qz d7j.eq_1 (qz d8i.eq_1 (qz e4p.eq_1 (qz e8R.eq_1 (qz c1J.eq_1 (qz e8i.eq_1 (qz d6D.eq_1 (qy f26.eq_1)))))))))))))))):=⟨kr,kr,kr,kr,kr,kr,kr,kr,kr,kr,kr,kr,kr,kr,kr,kr⟩
theorem g46:FnAt Tryz.prog tb a6R f26 58 [] :=j6 i7 Tryz.func149 rfl (by kernel_rfl) (by kernel_rfl) rfl rfl
def d95:CC:=(.reg d6Y)
def d9s:CC:=(.cond (tm 11) .skip d95)
def e19:CC:=(.seq (.reg b1H) d9s)
def e0w:CC:=(.cond (tm 11) .skip e19)
def e2Y:CC:=(.seq (.reg a6D) e0w)
def c2h:CC:=(.seq (.reg g3R) .ret)
def d2M:CC:=(.cond (tm 23) c2h .skip)
def c3q:CC:=(.seq (.reg a6A) d2M)
def c9N:CC:=(.seq (.reg a5M) .ret)
def c1O:CC:=(.seq c3q c9N)
def c7S:CC:=(.seq (.reg a56) c1O)
def d2a:CC:=(.cond (tm 11) c7S .skip)
def e8z:CC:=(.seq e2Y d2a)
def e2P:CC:=(.block 0 e8z)
def d8g:CC:=(.seq (.reg a6r) e2P)
def c9n:CC:=(.seq (.reg g2A) .ret)
def e2W:CC:=(.seq d8g c9n)
def f1M:CC:=(.seq (.reg a5Z) e2W)
theorem b4c:type_of% (qz d95.eq_1 (qz d9s.eq_1 (qz e19.eq_1 (qz e0w.eq_1 (qz e2Y.eq_1 (qz c2h.eq_1 (qz d2M.eq_1 (qz c3q.eq_1 (qz c9N.eq_1 (qz c1O.eq_1 (qz c7S.eq_1 (qz d2a.eq_1 (qz e8z.eq_1 (qz e2P.eq_1 (qz d8g.eq_1 (qz c9n.eq_1 (qz e2W.eq_1 (qy f1M.eq_1)))))))))))))))))):=⟨kr,kr,kr,kr,kr,kr,kr,kr,kr,kr,kr,kr,kr,kr,kr,kr,kr,kr⟩
theorem g53:FnAt Tryz.prog tb a6V f1M 25 [.tmp 6,.tmp 7] :=j6 i7 Tryz.func150 rfl (by kernel_rfl) (by kernel_rfl) rfl rfl
def d38:CC:=(.seq (.reg d9T) .ret)
def f3N:CC:=(.seq (.reg e96) d38)
theorem g7z:type_of% (qz d38.eq_1 (qy f3N.eq_1)):=⟨kr,kr⟩
theorem g6m:FnAt Tryz.prog tb b3T f3N 4 [.tmp 2] :=j6 i7 Tryz.func151 rfl (by kernel_rfl) (by kernel_rfl) rfl rfl
def e8p:CC:=(.seq (.reg g4c) .ret)
def e3G:CC:=(.cond (tm 7) e8p .skip)
def d7V:CC:=(.seq (.reg b2l) e3G)
def e5x:CC:=(.seq (.drawn b1A [(3,0),(9,0),(14,0),(18,0)]) .ret)
def d42:CC:=(.seq d7V e5x)
def f2N:CC:=(.seq (.reg b22) d42)
theorem f1A:type_of% (qz e8p.eq_1 (qz e3G.eq_1 (qz d7V.eq_1 (qz e5x.eq_1 (qz d42.eq_1 (qy f2N.eq_1)))))):=⟨kr,kr,kr,kr,kr,kr⟩
theorem g5A:FnAt Tryz.prog tb a7u f2N 31 [.tmp 4,.tmp 5] :=j6 i7 Tryz.func158 rfl (by kernel_rfl) (by kernel_rfl) rfl rfl
def e93:CC:=(.seq (.reg g2v) .ret)
def e9t:CC:=(.cond (tm 25) e93 .skip)
def e39:CC:=(.seq (.reg e95) e9t)
def d1J:CC:=(.seq (.reg d5Z) .ret)
def d4T:CC:=(.seq (.reg e0q) d1J)
def e64:CC:=(.seq e39 d4T)
def d9a:CC:=(.seq (.reg e6T) e64)
def e1j:CC:=(.cond (tm 15) d9a .skip)
def e4N:CC:=(.seq (.reg b24) e1j)
def c2y:CC:=(.seq (.reg g3v) .ret)
def c8f:CC:=(.cond (tm 46) c2y .skip)
def c7k:CC:=(.seq (.reg e47) c8f)
def c9D:CC:=(.seq (.reg f90) .ret)
def d2u:CC:=(.cond (tm 58) c9D .skip)
def d2t:CC:=(.seq (.reg d0a) d2u)
def c5M:CC:=(.seq (.reg d1c) .ret)
def c1G:CC:=(.seq d2t c5M)
def c41:CC:=(.seq (.reg d1P) c1G)
def c0M:CC:=(.seq c7k c41)
def c6j:CC:=(.seq (.reg d7N) c0M)
def d3v:CC:=(.seq e4N c6j)
def f3M:CC:=(.seq (.reg b1V) d3v)
theorem f2g:type_of% (qz e93.eq_1 (qz e9t.eq_1 (qz e39.eq_1 (qz d1J.eq_1 (qz d4T.eq_1 (qz e64.eq_1 (qz d9a.eq_1 (qz e1j.eq_1 (qz e4N.eq_1 (qz c2y.eq_1 (qz c8f.eq_1 (qz c7k.eq_1 (qz c9D.eq_1 (qz d2u.eq_1 (qz d2t.eq_1 (qz c5M.eq_1 (qz c1G.eq_1 (qz c41.eq_1 (qz c0M.eq_1 (qz c6j.eq_1 (qz d3v.eq_1 (qy f3M.eq_1)))))))))))))))))))))):=⟨kr,kr,kr,kr,kr,kr,kr,kr,kr,kr,kr,kr,kr,kr,kr,kr,kr,kr,kr,kr,kr,kr⟩
theorem f0W:FnAt Tryz.prog tb a0k f3M 65 [.tmp 8] :=j6 i7 Tryz.func159 rfl (by kernel_rfl) (by kernel_rfl) rfl rfl
def d8Y:CC:=(.seq (.reg e6C) .ret)
def f27:CC:=(.seq (.reg e4T) d8Y)
theorem g7B:type_of% (qz d8Y.eq_1 (qy f27.eq_1)):=⟨kr,kr⟩
theorem g5J:FnAt Tryz.prog tb b3g f27 11 [.tmp 6] :=j6 i7 Tryz.func160 rfl (by kernel_rfl) (by kernel_rfl) rfl rfl
def e6e:CC:=(.seq (.reg g4I) .ret)
def e2L:CC:=(.seq (.reg g4w) .ret)
def e8D:CC:=(.cond (tm 11) e2L .skip)
def d90:CC:=(.seq (.reg e2H) e8D)
def e1F:CC:=(.cond (tm 8) e6e d90)
def e5K:CC:=(.seq (.reg e9r) e1F)
def e0k:CC:=(.block 0 e5K)
def c85:CC:=(.seq (.reg g2i) .ret)
def c8j:CC:=(.cond (tm 36) c85 .skip)
def c9q:CC:=(.seq (.reg e7f) c8j)
def c2Z:CC:=(.seq (.reg d9C) c9q)
def d0s:CC:=(.seq (.reg e7p) .ret)
def e4t:CC:=(.seq c2Z d0s)
def d4x:CC:=(.seq e0k e4t)
def f1u:CC:=(.seq (.reg e6G) d4x)
theorem g6I:type_of% (qz e6e.eq_1 (qz e2L.eq_1 (qz e8D.eq_1 (qz d90.eq_1 (qz e1F.eq_1 (qz e5K.eq_1 (qz e0k.eq_1 (qz c85.eq_1 (qz c8j.eq_1 (qz c9q.eq_1 (qz c2Z.eq_1 (qz d0s.eq_1 (qz e4t.eq_1 (qz d4x.eq_1 (qy f1u.eq_1))))))))))))))):=⟨kr,kr,kr,kr,kr,kr,kr,kr,kr,kr,kr,kr,kr,kr,kr⟩
theorem g5t:FnAt Tryz.prog tb a6Z f1u 41 [.tmp 6] :=j6 i7 Tryz.func161 rfl (by kernel_rfl) (by kernel_rfl) rfl rfl
def d3X:CC:=(.cond (tm 15) .skip (.exit 0))
def c2m:CC:=(.seq (.reg g3r) .ret)
def c2k:CC:=(.cond (tm 21) c2m .skip)
def c75:CC:=(.seq (.reg g3q) c2k)
def d0R:CC:=(.seq (.reg g2R) c75)
def d99:CC:=(.block 1 d0R)
def d2n:CC:=(.reg g4g)
def e7n:CC:=(.seq d99 d2n)
def e5b:CC:=(.seq d3X e7n)
def e3s:CC:=(.seq (.reg e7J) e5b)
def d4j:CC:=(.loop e3s)
def d70:CC:=(.block 0 d4j)
def e75:CC:=(.seq (.reg e87) d70)
def c6z:CC:=(.seq (.reg d7K) .ret)
def e8m:CC:=(.seq e75 c6z)
def f3a:CC:=(.seq (.reg e4u) e8m)
theorem f2F:type_of% (qz d3X.eq_1 (qz c2m.eq_1 (qz c2k.eq_1 (qz c75.eq_1 (qz d0R.eq_1 (qz d99.eq_1 (qz d2n.eq_1 (qz e7n.eq_1 (qz e5b.eq_1 (qz e3s.eq_1 (qz d4j.eq_1 (qz d70.eq_1 (qz e75.eq_1 (qz c6z.eq_1 (qz e8m.eq_1 (qy f3a.eq_1)))))))))))))))):=⟨kr,kr,kr,kr,kr,kr,kr,kr,kr,kr,kr,kr,kr,kr,kr,kr⟩
theorem g4Q:FnAt Tryz.prog tb a6Y f3a 25 [.tmp 4,.tmp 5] :=j6 i7 Tryz.func162 rfl (by kernel_rfl) (by kernel_rfl) rfl rfl
def e8b:CC:=(.cond (tm 12) .skip (.exit 0))
def c5i:CC:=(.seq (.reg g3m) .ret)
def d3f:CC:=(.cond (tm 19) c5i .skip)
def c8F:CC:=(.seq (.reg d84) d3f)
def d9V:CC:=(.seq (.reg e5A) c8F)
def d4Y:CC:=(.block 1 d9V)
def d87:CC:=(.seq e8b d4Y)
def d7R:CC:=(.seq (.reg b17) d87)
def d8f:CC:=(.loop d7R)
def d6w:CC:=(.block 0 d8f)
def e6P:CC:=(.seq (.reg e4z) d6w)
def d0x:CC:=(.seq (.reg e8v) .ret)
def e8h:CC:=(.seq e6P d0x)
def f3F:CC:=(.seq (.reg e2R) e8h)
theorem b4i:type_of% (qz e8b.eq_1 (qz c5i.eq_1 (qz d3f.eq_1 (qz c8F.eq_1 (qz d9V.eq_1 (qz d4Y.eq_1 (qz d87.eq_1 (qz d7R.eq_1 (qz d8f.eq_1 (qz d6w.eq_1 (qz e6P.eq_1 (qz d0x.eq_1 (qz e8h.eq_1 (qy f3F.eq_1)))))))))))))):=⟨kr,kr,kr,kr,kr,kr,kr,kr,kr,kr,kr,kr,kr,kr⟩
theorem g4X:FnAt Tryz.prog tb a6S f3F 21 [.tmp 6] :=j6 i7 Tryz.func168 rfl (by kernel_rfl) (by kernel_rfl) rfl rfl
def d7i:CC:=(.seq (.reg g4o) .ret)
def e9u:CC:=(.cond (tm 27) d7i .skip)
def d5h:CC:=(.seq (.reg e8d) e9u)
def d9P:CC:=(.seq (.reg e9N) .ret)
def e6K:CC:=(.seq d5h d9P)
def f2l:CC:=(.seq (.reg e8k) e6K)
theorem g6R:type_of% (qz d7i.eq_1 (qz e9u.eq_1 (qz d5h.eq_1 (qz d9P.eq_1 (qz e6K.eq_1 (qy f2l.eq_1)))))):=⟨kr,kr,kr,kr,kr,kr⟩
theorem g5Z:FnAt Tryz.prog tb a3P f2l 34 [.tmp 6,.tmp 7] :=j6 i7 Tryz.func169 rfl (by kernel_rfl) (by kernel_rfl) rfl rfl
def d85:CC:=(.seq (.drawn e3F []) .ret)
def e60:CC:=(.cond (tm 12) d85 .skip)
def d4l:CC:=(.seq (.reg b1Y) e60)
def e1q:CC:=(.seq (.reg b2Z) d4l)
def e1N:CC:=(.seq (.reg d9h) .ret)
def d4c:CC:=(.seq e1q e1N)
def f3j:CC:=(.seq (.reg b1p) d4c)
theorem f2q:type_of% (qz d85.eq_1 (qz e60.eq_1 (qz d4l.eq_1 (qz e1q.eq_1 (qz e1N.eq_1 (qz d4c.eq_1 (qy f3j.eq_1))))))):=⟨kr,kr,kr,kr,kr,kr,kr⟩
theorem f0v:FnAt Tryz.prog tb b3d f3j 23 [.tmp 4,.tmp 5,.tmp 6] :=j6 i7 Tryz.func170 rfl (by kernel_rfl) (by kernel_rfl) rfl rfl
def e42:CC:=(.cond (tm 13) .skip (.exit 0))
def e9j:CC:=(.seq (.reg d9W) e42)
def d9Y:CC:=(.reg g38)
def d4Z:CC:=(.block 1 d9Y)
def e85:CC:=(.seq e9j d4Z)
def e3j:CC:=(.loop e85)
def e2e:CC:=(.block 0 e3j)
def e7m:CC:=(.seq (.reg e37) .ret)
def e77:CC:=(.seq e2e e7m)
def f1U:CC:=(.seq (.reg e8H) e77)
theorem f2k:type_of% (qz e42.eq_1 (qz e9j.eq_1 (qz d9Y.eq_1 (qz d4Z.eq_1 (qz e85.eq_1 (qz e3j.eq_1 (qz e2e.eq_1 (qz e7m.eq_1 (qz e77.eq_1 (qy f1U.eq_1)))))))))):=⟨kr,kr,kr,kr,kr,kr,kr,kr,kr,kr⟩
theorem g5i:FnAt Tryz.prog tb b3h f1U 17 [.tmp 4] :=j6 i7 Tryz.func171 rfl (by kernel_rfl) (by kernel_rfl) rfl rfl
def e1p:CC:=(.cond (tm 16) .skip (.exit 0))
def d5y:CC:=(.seq (.reg b1M) e1p)
def e4X:CC:=(.reg d6x)
def e9d:CC:=(.block 1 e4X)
def e8A:CC:=(.seq d5y e9d)
def e0B:CC:=(.loop e8A)
def e2S:CC:=(.block 0 e0B)
def e2Q:CC:=(.seq (.reg e9F) .ret)
def e7R:CC:=(.seq e2S e2Q)
def f3O:CC:=(.seq (.reg d5z) e7R)
theorem b4b:type_of% (qz e1p.eq_1 (qz d5y.eq_1 (qz e4X.eq_1 (qz e9d.eq_1 (qz e8A.eq_1 (qz e0B.eq_1 (qz e2S.eq_1 (qz e2Q.eq_1 (qz e7R.eq_1 (qy f3O.eq_1)))))))))):=⟨kr,kr,kr,kr,kr,kr,kr,kr,kr,kr⟩
theorem g49:FnAt Tryz.prog tb b3p f3O 23 [.tmp 4] :=j6 i7 Tryz.func172 rfl (by kernel_rfl) (by kernel_rfl) rfl rfl
def e89:CC:=(.cond (tm 13) .skip (.exit 0))
def e4I:CC:=(.seq (.reg b3b) e89)
def e0J:CC:=(.drawn d5q [(13,0),(19,0)])
def d6Z:CC:=(.block 1 e0J)
def d80:CC:=(.reg e1o)
def d7v:CC:=(.seq d6Z d80)
def e6F:CC:=(.seq e4I d7v)
def e3q:CC:=(.loop e6F)
def e7C:CC:=(.block 0 e3q)
def f2c:CC:=(.seq (.reg e1s) e7C)
theorem b4n:type_of% (qz e89.eq_1 (qz e4I.eq_1 (qz e0J.eq_1 (qz d6Z.eq_1 (qz d80.eq_1 (qz d7v.eq_1 (qz e6F.eq_1 (qz e3q.eq_1 (qz e7C.eq_1 (qy f2c.eq_1)))))))))):=⟨kr,kr,kr,kr,kr,kr,kr,kr,kr,kr⟩
theorem g6c:FnAt Tryz.prog tb a1W f2c 38 [] :=j6 i7 Tryz.func178 rfl (by kernel_rfl) (by kernel_rfl) rfl rfl
def e18:CC:=(.cond (tm 8) .skip (.exit 0))
def d6l:CC:=(.seq (.reg b1G) e18)
def e7d:CC:=(.cond (tm 18) .ret .skip)
def e0l:CC:=(.seq (.reg d8V) e7d)
def e8I:CC:=(.block 1 e0l)
def c5p:CC:=(.reg e2u)
def e0v:CC:=(.seq e8I c5p)
def e9W:CC:=(.seq d6l e0v)
def e9X:CC:=(.loop e9W)
def d9w:CC:=(.block 0 e9X)
def f1K:CC:=(.seq (.reg e8r) d9w)
theorem a7F:type_of% (qz e18.eq_1 (qz d6l.eq_1 (qz e7d.eq_1 (qz e0l.eq_1 (qz e8I.eq_1 (qz c5p.eq_1 (qz e0v.eq_1 (qz e9W.eq_1 (qz e9X.eq_1 (qz d9w.eq_1 (qy f1K.eq_1))))))))))):=⟨kr,kr,kr,kr,kr,kr,kr,kr,kr,kr,kr⟩
theorem g48:FnAt Tryz.prog tb a1R f1K 19 [] :=j6 i7 Tryz.func179 rfl (by kernel_rfl) (by kernel_rfl) rfl rfl
def b6t:CC:=(.seq (.reg b1J) .ret)
def b6o:CC:=(.seq (.reg a6I) .ret)
def b5X:CC:=(.seq (.reg a6c) (.goto 0))
def b54:CC:=(.cond (tm 31) b5X .skip)
def b6e:CC:=(.seq (.reg a3t) b54)
def b6p:CC:=(.cond (tm 27) b6o b6e)
def b6q:CC:=(.seq (.reg a1M) b6p)
def b6m:CC:=(.cond (tm 23) b6t b6q)
def b6r:CC:=(.seq (.reg a1D) b6m)
def b6w:CC:=(.block 0 b6r)
def b6l:CC:=(.seq (.reg b0q) .ret)
def b6f:CC:=(.cond (tm 42) b6l .skip)
def b57:CC:=(.seq (.reg a5u) b6f)
def b51:CC:=(.seq (.reg a55) b57)
def b6j:CC:=(.seq (.reg a5A) .ret)
def b50:CC:=(.seq b51 b6j)
def b6u:CC:=(.seq b6w b50)
def b6s:CC:=(.seq (.reg a5W) b6u)
theorem a4p:type_of% (qz b6t.eq_1 (qz b6o.eq_1 (qz b5X.eq_1 (qz b54.eq_1 (qz b6e.eq_1 (qz b6p.eq_1 (qz b6q.eq_1 (qz b6m.eq_1 (qz b6r.eq_1 (qz b6w.eq_1 (qz b6l.eq_1 (qz b6f.eq_1 (qz b57.eq_1 (qz b51.eq_1 (qz b6j.eq_1 (qz b50.eq_1 (qz b6u.eq_1 (qz b6s.eq_1 ((qw a4y (.seq .skip b6s) kr)))))))))))))))))))):=⟨kr,kr,kr,kr,kr,kr,kr,kr,kr,kr,kr,kr,kr,kr,kr,kr,kr,kr,kr⟩
def f1N:CC:=(.seq (.reg d75) (.scope a1i))
theorem g7I:type_of% (qy f1N.eq_1):=kr
theorem g5h:FnAt Tryz.prog tb b3r f1N 45 [.tmp 10,.tmp 11] :=j6 i7 Tryz.func181 rfl (by kernel_rfl) (by kernel_rfl) rfl rfl
def e3V:CC:=(.seq (.reg g2d) .ret)
def d8m:CC:=(.cond (tm 10) e3V .skip)
def e31:CC:=(.seq (.reg b18) d8m)
def c38:CC:=(.reg b29)
def e0d:CC:=(.cond (tm 34) c38 .skip)
def e1B:CC:=(.seq (.reg b1z) e0d)
def c96:CC:=(.seq (.reg b27) .ret)
def d4p:CC:=(.seq e1B c96)
def d3S:CC:=(.seq (.reg b2S) d4p)
def e6k:CC:=(.seq (.reg b2C) d3S)
def e0e:CC:=(.seq e31 e6k)
def f2P:CC:=(.seq (.reg b1W) e0e)
theorem f2E:type_of% (qz e3V.eq_1 (qz d8m.eq_1 (qz e31.eq_1 (qz c38.eq_1 (qz e0d.eq_1 (qz e1B.eq_1 (qz c96.eq_1 (qz d4p.eq_1 (qz d3S.eq_1 (qz e6k.eq_1 (qz e0e.eq_1 (qy f2P.eq_1)))))))))))):=⟨kr,kr,kr,kr,kr,kr,kr,kr,kr,kr,kr,kr⟩
theorem g5M:FnAt Tryz.prog tb a3z f2P 51 [.tmp 4] :=j6 i7 Tryz.func182 rfl (by kernel_rfl) (by kernel_rfl) rfl rfl
def d4H:CC:=(.seq (.reg e4J) .ret)
def f28:CC:=(.seq (.reg e1I) d4H)
theorem g7v:type_of% (qz d4H.eq_1 (qy f28.eq_1)):=⟨kr,kr⟩
theorem g5B:FnAt Tryz.prog tb Z9 f28 7 [.tmp 2] :=j6 i7 Tryz.func183 rfl (by kernel_rfl) (by kernel_rfl) rfl rfl
def e45:CC:=(.seq (.reg d39) .ret)
def f2a:CC:=(.seq (.reg e7s) e45)
theorem g6M:type_of% (qz e45.eq_1 (qy f2a.eq_1)):=⟨kr,kr⟩
theorem g42:FnAt Tryz.prog tb a0i f2a 5 [.tmp 2] :=j6 i7 Tryz.func184 rfl (by kernel_rfl) (by kernel_rfl) rfl rfl
def d4z:CC:=(.seq (.reg g3V) .ret)
def e8O:CC:=(.seq (.reg g3z) .ret)
def d8N:CC:=(.cond (tm 20) e8O .skip)
def e0p:CC:=(.seq (.reg e9w) d8N)
def d6z:CC:=(.cond (tm 16) d4z e0p)
def d50:CC:=(.seq (.reg d5a) d6z)
def d51:CC:=(.block 0 d50)
def c1P:CC:=(.seq (.reg e52) .ret)
def d3l:CC:=(.seq d51 c1P)
def e6H:CC:=(.seq (.reg e0V) d3l)
def f3K:CC:=(.seq (.reg d5j) e6H)
theorem g7J:type_of% (qz d4z.eq_1 (qz e8O.eq_1 (qz d8N.eq_1 (qz e0p.eq_1 (qz d6z.eq_1 (qz d50.eq_1 (qz d51.eq_1 (qz c1P.eq_1 (qz d3l.eq_1 (qz e6H.eq_1 (qy f3K.eq_1))))))))))):=⟨kr,kr,kr,kr,kr,kr,kr,kr,kr,kr,kr⟩
theorem g51:FnAt Tryz.prog tb b3R f3K 27 [.tmp 6] :=j6 i7 Tryz.func185 rfl (by kernel_rfl) (by kernel_rfl) rfl rfl
def d5N:CC:=(.seq (.reg g2F) .ret)
def e16:CC:=(.cond (tm 9) d5N .skip)
def d4P:CC:=(.seq (.reg e9M) e16)
def e9l:CC:=(.seq (.reg d7M) d4P)
def e3H:CC:=(.seq (.reg g28) .ret)
def e2z:CC:=(.cond (tm 32) e3H .skip)
def e8B:CC:=(.seq (.reg d7Z) e2z)
def c2F:CC:=(.seq (.reg d7t) .ret)
def c7P:CC:=(.seq (.reg e1S) c2F)
def c8B:CC:=(.seq (.reg d7y) c7P)
def d3Y:CC:=(.seq e8B c8B)
def e05:CC:=(.seq e9l d3Y)
def f2r:CC:=(.seq (.reg d89) e05)
theorem g7i:type_of% (qz d5N.eq_1 (qz e16.eq_1 (qz d4P.eq_1 (qz e9l.eq_1 (qz e3H.eq_1 (qz e2z.eq_1 (qz e8B.eq_1 (qz c2F.eq_1 (qz c7P.eq_1 (qz c8B.eq_1 (qz d3Y.eq_1 (qz e05.eq_1 (qy f2r.eq_1))))))))))))):=⟨kr,kr,kr,kr,kr,kr,kr,kr,kr,kr,kr,kr,kr⟩
theorem g5m:FnAt Tryz.prog tb b3l f2r 42 [.tmp 4] :=j6 i7 Tryz.func186 rfl (by kernel_rfl) (by kernel_rfl) rfl rfl
def e0z:CC:=(.seq (.reg g3h) .ret)
def d48:CC:=(.cond (tm 7) e0z .skip)
def d5M:CC:=(.seq (.reg e4V) d48)
def c3y:CC:=(.cond (tm 16) .skip (.exit 0))
def c1r:CC:=(.reg g20)
def d1x:CC:=(.seq (.reg g2z) c1r)
def c4X:CC:=(.block 1 d1x)
def d1I:CC:=(.reg g4G)
def c8P:CC:=(.seq c4X d1I)
def d1j:CC:=(.seq c3y c8P)
def d23:CC:=(.seq (.reg e0a) d1j)
def e6D:CC:=(.loop d23)
def e4d:CC:=(.block 0 e6D)
def e3Q:CC:=(.seq (.reg e6I) e4d)
def c1T:CC:=(.seq (.reg d5B) .ret)
def d7T:CC:=(.seq e3Q c1T)
def e2s:CC:=(.seq (.reg e4g) d7T)
def d6A:CC:=(.seq d5M e2s)
def f3s:CC:=(.seq (.reg e92) d6A)
theorem f2p:type_of% (qz e0z.eq_1 (qz d48.eq_1 (qz d5M.eq_1 (qz c3y.eq_1 (qz c1r.eq_1 (qz d1x.eq_1 (qz c4X.eq_1 (qz d1I.eq_1 (qz c8P.eq_1 (qz d1j.eq_1 (qz d23.eq_1 (qz e6D.eq_1 (qz e4d.eq_1 (qz e3Q.eq_1 (qz c1T.eq_1 (qz d7T.eq_1 (qz e2s.eq_1 (qz d6A.eq_1 (qy f3s.eq_1))))))))))))))))))):=⟨kr,kr,kr,kr,kr,kr,kr,kr,kr,kr,kr,kr,kr,kr,kr,kr,kr,kr,kr⟩
theorem g52:FnAt Tryz.prog tb b3x f3s 33 [.tmp 2] :=j6 i7 Tryz.func187 rfl (by kernel_rfl) (by kernel_rfl) rfl rfl
def d40:CC:=(.seq (.reg g3a) .ret)
def e58:CC:=(.seq (.reg d72) .ret)
def c4Y:CC:=(.seq (.reg g4m) .ret)
def d0f:CC:=(.seq (.reg g3Q) .ret)
def d0h:CC:=(.cond (tm 36) d0f .skip)
def c3Y:CC:=(.seq (.reg g13) d0h)
def c9l:CC:=(.cond (tm 31) c4Y c3Y)
def c0z:CC:=(.seq (.reg g2B) c9l)
def d8o:CC:=(.cond (tm 24) e58 c0z)
def d9U:CC:=(.seq (.reg e29) d8o)
def e7A:CC:=(.cond (tm 16) d40 d9U)
def d3r:CC:=(.seq (.reg e3C) e7A)
def d8n:CC:=(.block 0 d3r)
def c7r:CC:=(.cond (tm 59) .skip (.exit 1))
def d0G:CC:=(.seq (.reg g1C) c7r)
def c3u:CC:=(.seq (.reg g1F) .ret)
def c8M:CC:=(.cond (tm 73) c3u .skip)
def c87:CC:=(.seq (.reg g1i) c8M)
def d0U:CC:=(.reg g0H)
def d2E:CC:=(.seq c87 d0U)
def c0W:CC:=(.seq (.reg f95) d2E)
def c02:CC:=(.cond (tm 64) c0W .skip)
def c7T:CC:=(.seq (.reg g0B) c02)
def c5U:CC:=(.seq (.reg g1y) .ret)
def c92:CC:=(.cond (tm 93) c5U .skip)
def c28:CC:=(.seq (.reg g0O) c92)
def c3s:CC:=(.seq (.reg f99) .ret)
def c03:CC:=(.cond (tm 114) c3s .skip)
def d27:CC:=(.seq (.reg g0n) c03)
def c4e:CC:=(.seq (.reg g0x) .ret)
def c9O:CC:=(.seq d27 c4e)
def c54:CC:=(.seq (.reg g0R) c9O)
def d2L:CC:=(.seq (.reg g0p) .ret)
def d0Q:CC:=(.cond (tm 139) d2L .skip)
def c8n:CC:=(.seq (.reg g04) d0Q)
def d2J:CC:=(.seq (.reg g1D) .ret)
def c7o:CC:=(.seq c8n d2J)
def d05:CC:=(.seq (.reg g1J) c7o)
def c06:CC:=(.cond (tm 132) d05 .skip)
def c6w:CC:=(.seq (.reg f9U) c06)
def c89:CC:=(.cond (tm 107) c54 c6w)
def c2q:CC:=(.seq (.reg g1L) c89)
def c29:CC:=(.seq (.reg g1Q) c2q)
def c8g:CC:=(.seq (.reg g0F) c29)
def c2X:CC:=(.seq c28 c8g)
def c7j:CC:=(.seq c7T c2X)
def c3W:CC:=(.block 2 c7j)
def d0C:CC:=(.seq d0G c3W)
def c9T:CC:=(.loop d0C)
def c45:CC:=(.block 1 c9T)
def c6f:CC:=(.seq (.reg g1o) .ret)
def c50:CC:=(.seq c45 c6f)
def c3J:CC:=(.seq (.reg g09) c50)
def c4H:CC:=(.seq (.reg g01) c3J)
def d1Q:CC:=(.seq (.reg g1H) c4H)
def c7U:CC:=(.seq (.reg g1h) d1Q)
def c08:CC:=(.seq (.reg g1E) c7U)
def e9s:CC:=(.seq d8n c08)
def e7V:CC:=(.seq (.reg e4i) e9s)
def f2K:CC:=(.seq (.reg e3P) e7V)
theorem g7q:type_of% (qz d40.eq_1 (qz e58.eq_1 (qz c4Y.eq_1 (qz d0f.eq_1 (qz d0h.eq_1 (qz c3Y.eq_1 (qz c9l.eq_1 (qz c0z.eq_1 (qz d8o.eq_1 (qz d9U.eq_1 (qz e7A.eq_1 (qz d3r.eq_1 (qz d8n.eq_1 (qz c7r.eq_1 (qz d0G.eq_1 (qz c3u.eq_1 (qz c8M.eq_1 (qz c87.eq_1 (qz d0U.eq_1 (qz d2E.eq_1 (qz c0W.eq_1 (qz c02.eq_1 (qz c7T.eq_1 (qz c5U.eq_1 (qz c92.eq_1 (qz c28.eq_1 (qz c3s.eq_1 (qz c03.eq_1 (qz d27.eq_1 (qz c4e.eq_1 (qz c9O.eq_1 (qz c54.eq_1 (qz d2L.eq_1 (qz d0Q.eq_1 (qz c8n.eq_1 (qz d2J.eq_1 (qz c7o.eq_1 (qz d05.eq_1 (qz c06.eq_1 (qz c6w.eq_1 (qz c89.eq_1 (qz c2q.eq_1 (qz c29.eq_1 (qz c8g.eq_1 (qz c2X.eq_1 (qz c7j.eq_1 (qz c3W.eq_1 (qz d0C.eq_1 (qz c9T.eq_1 (qz c45.eq_1 (qz c6f.eq_1 (qz c50.eq_1 (qz c3J.eq_1 (qz c4H.eq_1 (qz d1Q.eq_1 (qz c7U.eq_1 (qz c08.eq_1 (qz e9s.eq_1 (qz e7V.eq_1 (qy f2K.eq_1)))))))))))))))))))))))))))))))))))))))))))))))))))))))))))):=⟨kr,kr,kr,kr,kr,kr,kr,kr,kr,kr,kr,kr,kr,kr,kr,kr,kr,kr,kr,kr,kr,kr,kr,kr,kr,kr,kr,kr,kr,kr,kr,kr,kr,kr,kr,kr,kr,kr,kr,kr,kr,kr,kr,kr,kr,kr,kr,kr,kr,kr,kr,kr,kr,kr,kr,kr,kr,kr,kr,kr⟩
theorem g5c:FnAt Tryz.prog tb a3K f2K 143 [.tmp 4] :=j6 i7 Tryz.func191 rfl (by kernel_rfl) (by kernel_rfl) rfl rfl
def e9L:CC:=(.cond (tm 16) .skip (.exit 0))
def e2X:CC:=(.seq (.reg a52) e9L)
def c9t:CC:=(.seq (.reg g2t) .ret)
def d01:CC:=(.cond (tm 30) c9t .skip)
def d1h:CC:=(.seq (.reg d6b) d01)
def c5V:CC:=(.seq (.reg e3K) .ret)
def c3m:CC:=(.cond (tm 54) c5V .skip)
def c4A:CC:=(.seq (.reg b2a) c3m)
def c8s:CC:=(.reg e0i)
def c5z:CC:=(.seq c4A c8s)
def c0Y:CC:=(.seq (.reg e2i) c5z)
def d0l:CC:=(.seq (.drawn e4D [(2,0),(5,0)]) c0Y)
def d8J:CC:=(.seq d1h d0l)
def e7X:CC:=(.seq (.drawn e00 [(2,0),(5,0)]) d8J)
def e8S:CC:=(.block 1 e7X)
def d4J:CC:=(.seq e2X e8S)
def d67:CC:=(.loop d4J)
def e2o:CC:=(.block 0 d67)
def c0w:CC:=(.seq (.reg a90) .ret)
def e3I:CC:=(.seq e2o c0w)
def f2C:CC:=(.seq (.reg e3y) e3I)
theorem a2b:type_of% (qz e9L.eq_1 (qz e2X.eq_1 (qz c9t.eq_1 (qz d01.eq_1 (qz d1h.eq_1 (qz c5V.eq_1 (qz c3m.eq_1 (qz c4A.eq_1 (qz c8s.eq_1 (qz c5z.eq_1 (qz c0Y.eq_1 (qz d0l.eq_1 (qz d8J.eq_1 (qz e7X.eq_1 (qz e8S.eq_1 (qz d4J.eq_1 (qz d67.eq_1 (qz e2o.eq_1 (qz c0w.eq_1 (qz e3I.eq_1 (qy f2C.eq_1))))))))))))))))))))):=⟨kr,kr,kr,kr,kr,kr,kr,kr,kr,kr,kr,kr,kr,kr,kr,kr,kr,kr,kr,kr,kr⟩
theorem g5V:FnAt Tryz.prog tb b3O f2C 63 [.tmp 8,.tmp 9] :=j6 i7 Tryz.func196 rfl (by kernel_rfl) (by kernel_rfl) rfl rfl
def d4D:CC:=(.seq (.reg g4s) .ret)
def e0Y:CC:=(.cond (tm 24) d4D .skip)
def d64:CC:=(.seq (.reg d98) e0Y)
def d8w:CC:=(.seq (.drawn e9g [(2,0),(5,0)]) .ret)
def d44:CC:=(.seq (.reg e63) d8w)
def e2k:CC:=(.seq d64 d44)
def e2d:CC:=(.seq (.drawn e0g [(2,0),(5,0)]) e2k)
def f1s:CC:=(.seq (.reg d6v) e2d)
theorem g6V:type_of% (qz d4D.eq_1 (qz e0Y.eq_1 (qz d64.eq_1 (qz d8w.eq_1 (qz d44.eq_1 (qz e2k.eq_1 (qz e2d.eq_1 (qy f1s.eq_1)))))))):=⟨kr,kr,kr,kr,kr,kr,kr,kr⟩
theorem g40:FnAt Tryz.prog tb a7b f1s 46 [.tmp 8] :=j6 i7 Tryz.func197 rfl (by kernel_rfl) (by kernel_rfl) rfl rfl
def d5D:CC:=(.seq (.reg g3I) .ret)
def d6k:CC:=(.cond (tm 23) d5D .skip)
def d3N:CC:=(.seq (.reg d5x) d6k)
def d5m:CC:=(.seq (.reg e1m) .ret)
def e1K:CC:=(.seq d3N d5m)
def e7F:CC:=(.seq (.drawn e6m [(2,0),(5,0)]) e1K)
def f3w:CC:=(.seq (.reg d9k) e7F)
theorem g7E:type_of% (qz d5D.eq_1 (qz d6k.eq_1 (qz d3N.eq_1 (qz d5m.eq_1 (qz e1K.eq_1 (qz e7F.eq_1 (qy f3w.eq_1))))))):=⟨kr,kr,kr,kr,kr,kr,kr⟩
theorem g56:FnAt Tryz.prog tb b3P f3w 33 [.tmp 6,.tmp 7] :=j6 i7 Tryz.func198 rfl (by kernel_rfl) (by kernel_rfl) rfl rfl
def d6H:CC:=(.seq (.reg e8T) .ret)
def f3t:CC:=(.seq (.reg e4j) d6H)
theorem g60:type_of% (qz d6H.eq_1 (qy f3t.eq_1)):=⟨kr,kr⟩
theorem g5R:FnAt Tryz.prog tb b3N f3t 4 [.tmp 2] :=j6 i7 Tryz.func200 rfl (by kernel_rfl) (by kernel_rfl) rfl rfl
def d4s:CC:=(.seq (.reg e2A) .ret)
def f3R:CC:=(.seq (.reg e0H) d4s)
theorem g7G:type_of% (qz d4s.eq_1 (qy f3R.eq_1)):=⟨kr,kr⟩
theorem g58:FnAt Tryz.prog tb a7l f3R 8 [.tmp 4] :=j6 i7 Tryz.func203 rfl (by kernel_rfl) (by kernel_rfl) rfl rfl
def b42:CC:=(.seq (.reg a6k) .ret)
def b5q:CC:=(.cond (tm 17) b42 .skip)
def b5j:CC:=(.seq (.reg a0L) b5q)
def b4K:CC:=(.cond (tm 20) (.goto 1) .skip)
def b5a:CC:=(.seq (.reg a1P) b4K)
def b4C:CC:=(.seq (.reg a0P) .ret)
def b4A:CC:=(.cond (tm 30) b4C .skip)
def b4E:CC:=(.seq (.reg U7) b4A)
def b4z:CC:=(.cond (tm 39) (.goto 2) .skip)
def b4v:CC:=(.seq (.reg U2) b4z)
def b4y:CC:=(.seq (.reg Y4) (.goto 0))
def b4t:CC:=(.seq b4v b4y)
def b4H:CC:=(.seq .skip b4t)
def b4G:CC:=(.seq (.goto 0) b4H)
def b4u:CC:=(.seq (.reg a0S) b4G)
def b4N:CC:=(.seq b4E b4u)
def b4U:CC:=(.seq .skip b4N)
def b5g:CC:=(.seq b5a b4U)
def b5v:CC:=(.seq b5j b5g)
theorem a4e:type_of% (qz b42.eq_1 (qz b5q.eq_1 (qz b5j.eq_1 (qz b4K.eq_1 (qz b5a.eq_1 (qz b4C.eq_1 (qz b4A.eq_1 (qz b4E.eq_1 (qz b4z.eq_1 (qz b4v.eq_1 (qz b4y.eq_1 (qz b4t.eq_1 (qz b4H.eq_1 (qz b4G.eq_1 (qz b4u.eq_1 (qz b4N.eq_1 (qz b4U.eq_1 (qz b5g.eq_1 (qz b5v.eq_1 ((qw a4g (.seq .skip b5v) kr))))))))))))))))))))):=⟨kr,kr,kr,kr,kr,kr,kr,kr,kr,kr,kr,kr,kr,kr,kr,kr,kr,kr,kr,kr⟩
def b5d:CC:=(.seq (.reg a0P) .ret)
def b4X:CC:=(.cond (tm 30) b5d .skip)
def b5r:CC:=(.seq (.reg U7) b4X)
def b4D:CC:=(.cond (tm 39) (.goto 2) .skip)
def b47:CC:=(.seq (.reg U2) b4D)
def b4I:CC:=(.seq (.reg Y4) (.goto 0))
def b4O:CC:=(.seq b47 b4I)
def b40:CC:=(.seq .skip b4O)
def b4T:CC:=(.seq (.goto 0) b40)
def b4S:CC:=(.seq (.reg a0S) b4T)
def b5p:CC:=(.seq b5r b4S)
theorem b52:type_of% (qz b5d.eq_1 (qz b4X.eq_1 (qz b5r.eq_1 (qz b4D.eq_1 (qz b47.eq_1 (qz b4I.eq_1 (qz b4O.eq_1 (qz b40.eq_1 (qz b4T.eq_1 (qz b4S.eq_1 (qz b5p.eq_1 ((qw a8b (.seq .skip b5p) kr))))))))))))):=⟨kr,kr,kr,kr,kr,kr,kr,kr,kr,kr,kr,kr⟩
def b5u:CC:=(.cond (tm 39) (.goto 2) .skip)
def b43:CC:=(.seq (.reg U2) b5u)
def b4Z:CC:=(.seq (.reg Y4) (.goto 0))
def b5s:CC:=(.seq b43 b4Z)
theorem b5Y:type_of% (qz b5u.eq_1 (qz b43.eq_1 (qz b4Z.eq_1 (qz b5s.eq_1 ((qw b6D (.seq .skip b5s) kr)))))):=⟨kr,kr,kr,kr,kr⟩
def f1F:CC:=(.seq (.reg d3K) (.scope J3))
theorem g7p:type_of% (qy f1F.eq_1):=kr
theorem g4S:FnAt Tryz.prog tb b3Q f1F 42 [.tmp 6,.tmp 7] :=j6 i7 Tryz.func210 rfl (by kernel_rfl) (by kernel_rfl) rfl rfl
def e6E:CC:=(.seq (.reg g2o) .ret)
def e7Z:CC:=(.cond (tm 17) e6E .skip)
def e2b:CC:=(.seq (.reg b1N) e7Z)
def e34:CC:=(.drawn e76 [(4,0)])
def c65:CC:=(.drawn d3q [(4,0)])
def e1U:CC:=(.cond (tm 20) e34 c65)
def d6n:CC:=(.seq (.reg b1Q) e1U)
def d3c:CC:=(.seq (.reg b2h) .ret)
def e53:CC:=(.seq d6n d3c)
def e70:CC:=(.seq (.reg b26) e53)
def d3T:CC:=(.seq e2b e70)
def f1T:CC:=(.seq (.reg b1g) d3T)
theorem f2L:type_of% (qz e6E.eq_1 (qz e7Z.eq_1 (qz e2b.eq_1 (qz e34.eq_1 (qz c65.eq_1 (qz e1U.eq_1 (qz d6n.eq_1 (qz d3c.eq_1 (qz e53.eq_1 (qz e70.eq_1 (qz d3T.eq_1 (qy f1T.eq_1)))))))))))):=⟨kr,kr,kr,kr,kr,kr,kr,kr,kr,kr,kr,kr⟩
theorem f1k:FnAt Tryz.prog tb b3K f1T 42 [.tmp 6,.tmp 7] :=j6 i7 Tryz.func211 rfl (by kernel_rfl) (by kernel_rfl) rfl rfl
def d4f:CC:=(.seq (.reg g25) .ret)
def d97:CC:=(.cond (tm 14) d4f .skip)
def e6g:CC:=(.seq (.reg b2y) d97)
def d7d:CC:=(.seq (.reg b2J) .ret)
def e8E:CC:=(.seq e6g d7d)
def f2J:CC:=(.seq (.reg b1P) e8E)
theorem f2W:type_of% (qz d4f.eq_1 (qz d97.eq_1 (qz e6g.eq_1 (qz d7d.eq_1 (qz e8E.eq_1 (qy f2J.eq_1)))))):=⟨kr,kr,kr,kr,kr,kr⟩
theorem g4V:FnAt Tryz.prog tb b3L f2J 25 [.tmp 4,.tmp 5] :=j6 i7 Tryz.func212 rfl (by kernel_rfl) (by kernel_rfl) rfl rfl
def d8b:CC:=(.seq (.reg d66) .ret)
def f1x:CC:=(.seq (.reg d92) d8b)
theorem g61:type_of% (qz d8b.eq_1 (qy f1x.eq_1)):=⟨kr,kr⟩
theorem g5F:FnAt Tryz.prog tb b3v f1x 21 [.tmp 6] :=j6 i7 Tryz.func221 rfl (by kernel_rfl) (by kernel_rfl) rfl rfl
end
end Go.Proofs.YtooooiidpaecmaaGreatDoor
