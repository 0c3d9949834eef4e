import Derived.Test.YtooooiidpaecmaaGreatDoorAmRu
import Derived.Test.YtooooiidpaecmaaGreatDoorAmMv
import Derived.Test.YtooooiidpaecmaaGreatDoorAmRl
import Derived.Test.YtooooiidpaecmaaGreatDoorRows
/- What is known ahead of a run: the fixed runs, sorted keys, sorted rows, the plan, and what lies in memory behind the making of a device. -/
namespace Go.Proofs.YtooooiidpaecmaaGreatDoor
open Go Go.Am
noncomputable def T7:AV:= .agg [iv 64,iv 90,iv 6,iv 30,iv 2,iv 32,iv 1,iv 33,iv 1,iv 34,iv 3,iv 37]
noncomputable def tb0:Tb:=c0L (a7E (a7K (libTb Tryz.prog 199 3 [214,224] []) [6]) 37) 7 T7
noncomputable def cls:List Cl:= [⟨53,[T7],iv 0⟩,⟨74,[T7],.tuple [iv 68096,iv 0]⟩,⟨56,[T7,iv 2],.tuple [iv 35,iv 0,iv 0]⟩,⟨56,[T7,iv 3],.tuple [iv 35,iv 32,iv 0]⟩]
noncomputable def tbA:Tb:=c80 tb0 cls
noncomputable def tb:Tb:=c2p Tryz.prog tbA [8]
set_option maxRecDepth 100000 in
theorem i6:tb.fs=M4 Tryz.prog:=rfl
noncomputable abbrev B(o:BinOp)(t:TypeId):=d8 Tryz.prog o t
noncomputable abbrev C(n:Nat)(f:FuncId)(a:List RO):CO:= .call (some (pth n)) none (.cst (.func f [])) a
noncomputable abbrev G(n k:Nat)(b:Bool)(o:OP):CO:= .op (some (pth n)) (some (pth k,b)) o
noncomputable abbrev O(n:Nat)(o:OP):CO:= .op (some (pth n)) none o
noncomputable abbrev mV(n k:Nat):CO:= .op (some (pth n)) none (.mv (tm k))
noncomputable abbrev lD(n k:Nat):CO:= .op (some (pth n)) none (.load (tm k))
noncomputable abbrev fA(n i k:Nat):CO:= .op (some (pth n)) none (.fa i (tm k))
noncomputable abbrev eX(n i k:Nat):CO:= .op (some (pth n)) none (.ext i (tm k))
noncomputable abbrev nL(n k:Nat):CO:= .op (some (pth n)) none (.nil (tm k))
abbrev Kq(a b:CC):Prop:=∀Q fr m,GX Tryz.prog tb a Q fr m=GX Tryz.prog tb b Q fr m
theorem kr{a:CC}:Kq a a:=fun _ _ _=>rfl
theorem qy{a b:CC}(h:a=b):Kq a b:=by rw[h];exact kr
theorem qz{a b:CC}{R:Prop}(h:a=b)(r:R):Kq a b∧R:=⟨qy h,r⟩
theorem qw(a b:CC)(h:Kq a b):Kq a b:=h
theorem qx{a b:CC}{R:Prop}(h:Kq a b)(r:R):Kq a b∧R:=⟨h,r⟩
theorem wA:type_of% (And.intro @b6e<|And.intro @b44<|And.intro @e1g<|And.intro @d5u<|And.intro @d25<|And.intro @d0q<|And.intro @d7V<|And.intro @c2k<|And.intro @c9w<|And.intro @d70<|And.intro @d9W<|And.intro @e2x<|And.intro @c82<|And.intro @a74<|And.intro @d96<|And.intro @c4y<|And.intro @b7f<|And.intro @d5a<|And.intro @c1E<|And.intro @a8j<|And.intro @d9G<|And.intro @e0q<|And.intro @e0k<|And.intro @e0g<|And.intro @e0y<|And.intro @e0w<|And.intro @e2m<|And.intro @e2v<|And.intro @e1M<|And.intro @e1p<|And.intro @e08<|And.intro @e18<|And.intro @d9M<|And.intro @e2D<|And.intro @e0m<|And.intro @d6t<|And.intro @d15<|And.intro @e1I<|And.intro @d9u<|And.intro @d9T<|And.intro @e0e<|And.intro @d9P<|And.intro @e0c<|And.intro @d9A<|And.intro @d9s<|And.intro @d95<|And.intro @e0h<|And.intro @e0d<|And.intro @e0j<|And.intro @X6<|And.intro @c2Y<|And.intro @b8L<|And.intro @B8<|And.intro @d92<|And.intro @d9t<| @b9x):=And.intro @b6e<|And.intro @b44<|And.intro @e1g<|And.intro @d5u<|And.intro @d25<|And.intro @d0q<|And.intro @d7V<|And.intro @c2k<|And.intro @c9w<|And.intro @d70<|And.intro @d9W<|And.intro @e2x<|And.intro @c82<|And.intro @a74<|And.intro @d96<|And.intro @c4y<|And.intro @b7f<|And.intro @d5a<|And.intro @c1E<|And.intro @a8j<|And.intro @d9G<|And.intro @e0q<|And.intro @e0k<|And.intro @e0g<|And.intro @e0y<|And.intro @e0w<|And.intro @e2m<|And.intro @e2v<|And.intro @e1M<|And.intro @e1p<|And.intro @e08<|And.intro @e18<|And.intro @d9M<|And.intro @e2D<|And.intro @e0m<|And.intro @d6t<|And.intro @d15<|And.intro @e1I<|And.intro @d9u<|And.intro @d9T<|And.intro @e0e<|And.intro @d9P<|And.intro @e0c<|And.intro @d9A<|And.intro @d9s<|And.intro @d95<|And.intro @e0h<|And.intro @e0d<|And.intro @e0j<|And.intro @X6<|And.intro @c2Y<|And.intro @b8L<|And.intro @B8<|And.intro @d92<|And.intro @d9t<| @b9x
theorem wB:type_of% (And.intro @b7b<|And.intro @b4V<|And.intro @d9w<|And.intro @e06<|And.intro @d9y<|And.intro @d9Q<|And.intro @e0H<|And.intro @e0P<|And.intro @e2g<|And.intro @e1n<|And.intro @e0U<|And.intro @e0Y<|And.intro @d9B<|And.intro @e0A<|And.intro @d4M<|And.intro @a8J<|And.intro @b6U<|And.intro @b6V<|And.intro @b6K<|And.intro @a7l<|And.intro @b5x<|And.intro @c4c<|And.intro @b4N<|And.intro @d3y<|And.intro @c5I<|And.intro @b5G<|And.intro @b4S<|And.intro @d4Z<|And.intro @c63<|And.intro @d6<|And.intro @T9<|And.intro @b6g<|And.intro @c2M<|And.intro @R3<|And.intro @a3k<|And.intro @b57<|And.intro @a1m<|And.intro @b52<|And.intro @b7a<|And.intro @c8a<|And.intro @b45<|And.intro @l7<|And.intro @o8<|And.intro @y4<|And.intro @v8<|And.intro @d9Z<|And.intro @e0a<|And.intro @b0y<|And.intro @List.length_cons.{0}<|And.intro @List.length_nil.{0}<|And.intro @Nat.zero_add<|And.intro @Nat.add_zero<|And.intro @decide_true<|And.intro @decide_false<|And.intro @Bool.true_and<| @Bool.and_true):=And.intro @b7b<|And.intro @b4V<|And.intro @d9w<|And.intro @e06<|And.intro @d9y<|And.intro @d9Q<|And.intro @e0H<|And.intro @e0P<|And.intro @e2g<|And.intro @e1n<|And.intro @e0U<|And.intro @e0Y<|And.intro @d9B<|And.intro @e0A<|And.intro @d4M<|And.intro @a8J<|And.intro @b6U<|And.intro @b6V<|And.intro @b6K<|And.intro @a7l<|And.intro @b5x<|And.intro @c4c<|And.intro @b4N<|And.intro @d3y<|And.intro @c5I<|And.intro @b5G<|And.intro @b4S<|And.intro @d4Z<|And.intro @c63<|And.intro @d6<|And.intro @T9<|And.intro @b6g<|And.intro @c2M<|And.intro @R3<|And.intro @a3k<|And.intro @b57<|And.intro @a1m<|And.intro @b52<|And.intro @b7a<|And.intro @c8a<|And.intro @b45<|And.intro @l7<|And.intro @o8<|And.intro @y4<|And.intro @v8<|And.intro @d9Z<|And.intro @e0a<|And.intro @b0y<|And.intro @List.length_cons.{0}<|And.intro @List.length_nil.{0}<|And.intro @Nat.zero_add<|And.intro @Nat.add_zero<|And.intro @decide_true<|And.intro @decide_false<|And.intro @Bool.true_and<| @Bool.and_true
theorem wC:type_of% (And.intro @Bool.and_self<|And.intro @Bool.false_and<|And.intro @Bool.and_false<|And.intro @Bool.or_false<|And.intro @Bool.false_or<|And.intro @Bool.or_true<|And.intro @Bool.true_or<|And.intro @Bool.not_true<|And.intro @Bool.not_false<|And.intro @List.take_succ_cons.{0}<|And.intro @List.take_zero.{0}<|And.intro @List.drop_succ_cons.{0}<|And.intro @List.drop_zero.{0}<|And.intro @List.drop_nil.{0}<|And.intro @List.take_nil.{0}<|And.intro @List.nil_append.{0}<|And.intro @List.cons_append.{0}<|And.intro @List.append_nil.{0}<|And.intro @a37<|And.intro @b0p<|And.intro @c85<|And.intro @c1d<|And.intro @b6I<|And.intro @a72<|And.intro @c4U<|And.intro @b6X<|And.intro @b85<|And.intro @c6X<|And.intro @d9D<|And.intro @b6t<|And.intro @b6o<|And.intro @b59<|And.intro @a4N<|And.intro @d3e<|And.intro @d9F<|And.intro @d5H<|And.intro @b7p<|And.intro @c2S<|And.intro @b6R<|And.intro @b6j<|And.intro @b51<|And.intro @b6M<|And.intro @c4z<|And.intro @c2g<|And.intro @b63<|And.intro @b65<|And.intro @b6a<|And.intro @d3l<|And.intro @c3N<|And.intro @a8Q<|And.intro @b67<|And.intro @d45<|And.intro @b8t<|And.intro @b6S<|And.intro @b9Q<| @d2M):=And.intro @Bool.and_self<|And.intro @Bool.false_and<|And.intro @Bool.and_false<|And.intro @Bool.or_false<|And.intro @Bool.false_or<|And.intro @Bool.or_true<|And.intro @Bool.true_or<|And.intro @Bool.not_true<|And.intro @Bool.not_false<|And.intro @List.take_succ_cons.{0}<|And.intro @List.take_zero.{0}<|And.intro @List.drop_succ_cons.{0}<|And.intro @List.drop_zero.{0}<|And.intro @List.drop_nil.{0}<|And.intro @List.take_nil.{0}<|And.intro @List.nil_append.{0}<|And.intro @List.cons_append.{0}<|And.intro @List.append_nil.{0}<|And.intro @a37<|And.intro @b0p<|And.intro @c85<|And.intro @c1d<|And.intro @b6I<|And.intro @a72<|And.intro @c4U<|And.intro @b6X<|And.intro @b85<|And.intro @c6X<|And.intro @d9D<|And.intro @b6t<|And.intro @b6o<|And.intro @b59<|And.intro @a4N<|And.intro @d3e<|And.intro @d9F<|And.intro @d5H<|And.intro @b7p<|And.intro @c2S<|And.intro @b6R<|And.intro @b6j<|And.intro @b51<|And.intro @b6M<|And.intro @c4z<|And.intro @c2g<|And.intro @b63<|And.intro @b65<|And.intro @b6a<|And.intro @d3l<|And.intro @c3N<|And.intro @a8Q<|And.intro @b67<|And.intro @d45<|And.intro @b8t<|And.intro @b6S<|And.intro @b9Q<| @d2M
theorem wD:type_of% (And.intro @c0M<|And.intro @a4L<|And.intro @d7G<|And.intro @b50<|And.intro @a34<|And.intro @c5w<|And.intro @c5n<|And.intro @b7J<|And.intro @b6A<|And.intro @b58<|And.intro @a4c<|And.intro @c2l<|And.intro @c2V<|And.intro @c0H<|And.intro @b7g<|And.intro @a4K<|And.intro @c06<|And.intro @c1c<|And.intro @b7E<|And.intro @a3I<|And.intro @c3C<|And.intro @b9u<|And.intro @a3J<|And.intro @b6d<|And.intro @d27<|And.intro @c2X<|And.intro @b5s<|And.intro @d5X<|And.intro @c0i<|And.intro @c1G<|And.intro @b8T<|And.intro @b53<|And.intro @List.all_cons.{0}<|And.intro @List.all_nil.{0}<|And.intro @b55<|And.intro @b8J<|And.intro @d9Y<|And.intro @d9S<|And.intro @d7N<|And.intro @e1i<|And.intro @d3L<|And.intro @c4P<|And.intro @b6p<|And.intro @d93<|And.intro @b5w<|And.intro @b49<|And.intro @b6v<|And.intro @nc0<|And.intro @ilt<|And.intro @ile<|And.intro @Option.some.injEq.{0}<|And.intro @true_and<|And.intro @and_true<| @and_self):=And.intro @c0M<|And.intro @a4L<|And.intro @d7G<|And.intro @b50<|And.intro @a34<|And.intro @c5w<|And.intro @c5n<|And.intro @b7J<|And.intro @b6A<|And.intro @b58<|And.intro @a4c<|And.intro @c2l<|And.intro @c2V<|And.intro @c0H<|And.intro @b7g<|And.intro @a4K<|And.intro @c06<|And.intro @c1c<|And.intro @b7E<|And.intro @a3I<|And.intro @c3C<|And.intro @b9u<|And.intro @a3J<|And.intro @b6d<|And.intro @d27<|And.intro @c2X<|And.intro @b5s<|And.intro @d5X<|And.intro @c0i<|And.intro @c1G<|And.intro @b8T<|And.intro @b53<|And.intro @List.all_cons.{0}<|And.intro @List.all_nil.{0}<|And.intro @b55<|And.intro @b8J<|And.intro @d9Y<|And.intro @d9S<|And.intro @d7N<|And.intro @e1i<|And.intro @d3L<|And.intro @c4P<|And.intro @b6p<|And.intro @d93<|And.intro @b5w<|And.intro @b49<|And.intro @b6v<|And.intro @nc0<|And.intro @ilt<|And.intro @ile<|And.intro @Option.some.injEq.{0}<|And.intro @true_and<|And.intro @and_true<| @and_self
noncomputable section
abbrev d9v:FuncId:=3
abbrev b4v:FuncId:=6
abbrev b4A:FuncId:=7
abbrev a6W:FuncId:=8
abbrev a2g:FuncId:=9
abbrev a0R:FuncId:=10
abbrev a0c:FuncId:=13
abbrev f5r:FuncId:=15
abbrev a5j:FuncId:=27
abbrev b0V:FuncId:=28
abbrev a21:FuncId:=29
abbrev b0h:FuncId:=30
abbrev C3:FuncId:=31
abbrev b0M:FuncId:=32
abbrev a49:FuncId:=33
abbrev a2e:FuncId:=38
abbrev b0Q:FuncId:=39
abbrev a5d:FuncId:=41
abbrev a5a:FuncId:=42
abbrev Z5:FuncId:=55
abbrev a6H:FuncId:=56
abbrev a5q:FuncId:=57
abbrev a2t:FuncId:=58
abbrev a6S:FuncId:=59
abbrev b0K:FuncId:=60
abbrev b0u:FuncId:=61
abbrev Z4:FuncId:=62
abbrev a4Z:FuncId:=63
abbrev f39:FuncId:=64
abbrev a0Y:FuncId:=65
abbrev a5h:FuncId:=66
abbrev a47:FuncId:=70
abbrev a0S:FuncId:=71
abbrev a5l:FuncId:=72
abbrev a2X:FuncId:=73
abbrev a2Q:FuncId:=74
abbrev b0t:FuncId:=76
abbrev M2:FuncId:=77
abbrev U5:FuncId:=78
abbrev a2j:FuncId:=79
abbrev b0A:FuncId:=80
abbrev a0U:FuncId:=84
abbrev V3:FuncId:=85
abbrev a5m:FuncId:=87
abbrev V5:FuncId:=92
abbrev V2:FuncId:=100
abbrev U4:FuncId:=101
abbrev U6:FuncId:=102
abbrev b0C:FuncId:=103
abbrev V7:FuncId:=104
abbrev b0X:FuncId:=105
abbrev a5r:FuncId:=106
abbrev Z7:FuncId:=107
abbrev a2h:FuncId:=108
abbrev a0T:FuncId:=109
abbrev b0x:FuncId:=110
abbrev b0d:FuncId:=111
abbrev P2:FuncId:=112
abbrev b1k:FuncId:=113
abbrev a20:FuncId:=114
abbrev a5n:FuncId:=126
abbrev b0m:FuncId:=127
abbrev a5g:FuncId:=128
abbrev b0G:FuncId:=129
abbrev a5o:FuncId:=131
abbrev b0i:FuncId:=132
abbrev a5v:FuncId:=133
abbrev a0X:FuncId:=134
abbrev b0o:FuncId:=143
abbrev b0I:FuncId:=144
abbrev a42:FuncId:=145
abbrev b0e:FuncId:=146
abbrev b0f:FuncId:=147
abbrev b0j:FuncId:=148
abbrev a5e:FuncId:=150
abbrev b0T:FuncId:=151
abbrev a5t:FuncId:=158
abbrev a2c:FuncId:=159
abbrev b0z:FuncId:=160
abbrev a48:FuncId:=162
abbrev e5Y:FuncId:=163
abbrev a5c:FuncId:=168
abbrev a2r:FuncId:=169
abbrev b0O:FuncId:=170
abbrev b0U:FuncId:=171
abbrev b0c:FuncId:=172
abbrev e2R:FuncId:=173
abbrev e2Q:FuncId:=174
abbrev e2P:FuncId:=175
abbrev e2O:FuncId:=176
abbrev e2M:FuncId:=177
abbrev a0Q:FuncId:=179
abbrev b0F:FuncId:=181
abbrev a2b:FuncId:=182
abbrev V6:FuncId:=183
abbrev V1:FuncId:=184
abbrev b0l:FuncId:=187
abbrev a2i:FuncId:=191
abbrev b0S:FuncId:=196
abbrev b0B:FuncId:=197
abbrev a7t:FuncId:=199
abbrev b0H:FuncId:=200
abbrev a4Y:FuncId:=203
abbrev b1j:FuncId:=204
abbrev e2N:FuncId:=205
abbrev e2K:FuncId:=206
abbrev b0N:FuncId:=210
abbrev b0L:FuncId:=211
abbrev a3j:FuncId:=214
abbrev b1i:FuncId:=217
abbrev b0b:FuncId:=221
abbrev b0:TypeId:=3
abbrev b9g:TypeId:=4
abbrev j6:TypeId:=5
abbrev D6:TypeId:=9
abbrev X5:TypeId:=21
abbrev x9:TypeId:=24
abbrev a59:TypeId:=26
abbrev F6:TypeId:=27
abbrev E6:TypeId:=28
abbrev j7:TypeId:=31
abbrev B3:TypeId:=33
abbrev o7:TypeId:=38
abbrev e8n:TypeId:=40
abbrev x7:TypeId:=46
abbrev b4G:TypeId:=64
abbrev b3I:TypeId:=72
abbrev W6:TypeId:=82
abbrev K5:TypeId:=87
abbrev a1h:TypeId:=90
abbrev a2J:TypeId:=118
abbrev b3y:TypeId:=128
abbrev W5:TypeId:=133
abbrev Q6:TypeId:=156
abbrev e3Z:TypeId:=157
abbrev e2L:TypeId:=158
abbrev D5:TypeId:=161
abbrev K8:TypeId:=162
abbrev H2:TypeId:=178
abbrev a0h:TypeId:=185
abbrev J4:TypeId:=209
abbrev b5N:TypeId:=246
abbrev e2V:TypeId:=273
abbrev a6K:TypeId:=286
theorem aD(a b:Int)(h1: -9223372036854775808≤a+b:=by omega)(h2:a+b≤9223372036854775807:=by omega):d8 Tryz.prog .add b0 (iv a) (iv b)=some (iv (a+b)):=d99 b0 h1 h2
theorem sB(a b:Int)(h1: -9223372036854775808≤a-b:=by omega)(h2:a-b≤9223372036854775807:=by omega):d8 Tryz.prog .sub b0 (iv a) (iv b)=some (iv (a-b)):=d9J b0 h1 h2
def a1V:List CO:= [
  O 2 (.mv (.cst (.b false)))]
def a4J:List CO:= [
  C 15 b4v [],
 O 16 (.un .not (tm 15))]
def a4H:List CO:= [
  O 2 (.mv (.cst (.b false)))]
def a4p:List CO:= [
  mV 17 0,
 O 18 (.lt (B .lss b0) (tm 17) (.cst (iv 1))),
 mV 19 18,
 G 20 19 false (.mv (tm 0)),
 G 21 19 false (.gt (B .gtr b0) (tm 20) (.cst (iv 20))),
 O 22 (.pick (tm 19) (.cst (.b true)) (tm 21))]
def a4T:List CO:= [
  O 0 (.mv (.cst (iv 4)))]
def d8X:List CO:= [
  C 23 b4A [],
 O 3 (.alloc x9 12 [(iv 0),(iv 0),(iv 0),(iv 0),(iv 0),(iv 0),(iv 0),(iv 0),(iv 0),(iv 0),(iv 0),(iv 0)]),
 .op none none (.store 12 (tm 3) (tm 23))]
def d2m:List CO:= [
  O 25 (.loadN 12 (tm 3)),
 C 26 a6W [(tm 25)],
 mV 24 26,
 eX 27 0 24,
 eX 28 1 24,
 eX 29 2 24,
 mV 4 27,
 mV 5 28,
 mV 6 29]
def c76:List CO:= [
  O 7 (.mv (.cst (iv 0)))]
def a9x:List CO:= [
  mV 30 7,
 mV 31 0,
 O 32 (.lt (B .lss b0) (tm 30) (tm 31))]
def c3r:List CO:= [
  mV 35 6,
 mV 36 5,
 O 37 (.loadN 12 (tm 3)),
 mV 38 7,
 O 39 (.add (B .add b0) (.cst (iv 97)) (tm 38)),
 O 40 (.convI .u8 (tm 39)),
 O 41 (.bslice j6 1 1 [(.y 0)] [(0,1,(tm 40))]),
 O 42 (.b2s (tm 41)),
 mV 43 7,
 O 44 (.add (B .add b0) (tm 43) (.cst (iv 1))),
 C 45 a2g [(tm 35),(tm 36),(tm 37),(.cst (iv 3)),(tm 42),(tm 44)]]
def d5g:List CO:= [
  mV 33 7,
 O 34 (.add (B .add b0) (tm 33) (.cst (iv 1))),
 mV 7 34]
def c2r:List CO:= [
  mV 47 6,
 mV 48 5,
 O 49 (.loadN 12 (tm 3)),
 C 50 a0R [(tm 47),(tm 48),(tm 49),(.cst (iv 3))],
 mV 46 50,
 eX 51 0 46,
 eX 52 1 46,
 mV 8 51,
 mV 9 52]
def c4D:List CO:= [
  mV 54 6,
 mV 55 5,
 O 56 (.loadN 12 (tm 3)),
 C 57 a0R [(tm 54),(tm 55),(tm 56),(.cst (iv 3))],
 mV 53 57,
 eX 58 0 53,
 eX 59 1 53,
 mV 10 58,
 mV 11 59]
def b70:List CO:= [
  mV 60 9,
 O 61 (.ne (B .neq j7) (tm 60) (.cst (iv 0))),
 mV 62 61,
 G 63 62 false (.mv (tm 11)),
 G 64 62 false (.ne (B .neq j7) (tm 63) (.cst (iv 0))),
 O 65 (.pick (tm 62) (.cst (.b true)) (tm 64)),
 mV 66 65,
 G 67 66 false (.mv (tm 8)),
 G 68 66 false (.len false (tm 67)),
 G 69 66 false (.mv (tm 0)),
 G 70 66 false (.ne (B .neq b0) (tm 68) (tm 69)),
 O 71 (.pick (tm 66) (.cst (.b true)) (tm 70)),
 mV 72 71,
 G 73 72 false (.mv (tm 10)),
 G 74 72 false (.len false (tm 73)),
 G 75 72 false (.mv (tm 0)),
 G 76 72 false (.ne (B .neq b0) (tm 74) (tm 75)),
 O 77 (.pick (tm 72) (.cst (.b true)) (tm 76))]
def e8w:List CO:= [
  O 2 (.mv (.cst (.b false)))]
def c33:List CO:= [
  O 12 (.mv (.cst (iv 0)))]
def a71:List CO:= [
  mV 78 12,
 mV 79 0,
 O 80 (.lt (B .lss b0) (tm 78) (tm 79))]
def c5P:List CO:= [
  mV 83 8,
 mV 84 12,
 O 85 (.build [(iv 0),(tv [])] [(0,1,(.cst (iv 99))),(1,1,(.cst (tv [122])))]),
 O 86 (.iaS 2 (tm 83) (tm 84)),
 .op none none (.store 2 (tm 86) (tm 85))]
def c1u:List CO:= [
  mV 81 12,
 O 82 (.add (B .add b0) (tm 81) (.cst (iv 1))),
 mV 12 82]
def b98:List CO:= [
  mV 87 8,
 O 88 (.build [(iv 0),(tv [])] [(0,1,(.cst (iv 98))),(1,1,(.cst (tv [121])))]),
 O 89 (.bslice o7 1 2 [(iv 0),(tv [])] [(0,2,(tm 88))]),
 O 90 (.app o7 2 24 [(iv 0),(tv [])] (tm 87) (tm 89)),
 mV 8 90]
def c5m:List CO:= [
  mV 92 6,
 mV 93 5,
 O 94 (.loadN 12 (tm 3)),
 C 95 a0R [(tm 92),(tm 93),(tm 94),(.cst (iv 3))],
 mV 91 95,
 eX 96 0 91,
 eX 97 1 91,
 mV 13 96,
 mV 9 97]
def c49:List CO:= [
  mV 98 9,
 O 99 (.ne (B .neq j7) (tm 98) (.cst (iv 0))),
 mV 100 99,
 G 101 100 false (.mv (tm 13)),
 G 102 100 false (.len false (tm 101)),
 G 103 100 false (.mv (tm 0)),
 G 104 100 false (.ne (B .neq b0) (tm 102) (tm 103)),
 O 105 (.pick (tm 100) (.cst (.b true)) (tm 104)),
 mV 106 105,
 G 107 106 false (.mv (tm 8)),
 G 108 106 false (.len false (tm 107)),
 G 109 106 false (.mv (tm 0)),
 G 110 106 false (.add (B .add b0) (tm 109) (.cst (iv 1))),
 G 111 106 false (.ne (B .neq b0) (tm 108) (tm 110)),
 O 112 (.pick (tm 106) (.cst (.b true)) (tm 111))]
def e8P:List CO:= [
  O 2 (.mv (.cst (.b false)))]
def c3P:List CO:= [
  O 14 (.mv (.cst (iv 0)))]
def a8r:List CO:= [
  mV 113 14,
 mV 114 0,
 O 115 (.lt (B .lss b0) (tm 113) (tm 114))]
def b7Z:List CO:= [
  mV 118 10,
 mV 119 14,
 O 120 (.iaS 2 (tm 118) (tm 119)),
 fA 121 0 120,
 lD 122 121,
 mV 123 14,
 O 124 (.add (B .add b0) (tm 123) (.cst (iv 1))),
 O 125 (.ne (B .neq b0) (tm 122) (tm 124)),
 mV 126 125,
 G 127 126 false (.mv (tm 13)),
 G 128 126 false (.mv (tm 14)),
 G 129 126 false (.iaS 2 (tm 127) (tm 128)),
 G 130 126 false (.fa 0 (tm 129)),
 G 131 126 false (.load (tm 130)),
 G 132 126 false (.mv (tm 14)),
 G 133 126 false (.add (B .add b0) (tm 132) (.cst (iv 1))),
 G 134 126 false (.ne (B .neq b0) (tm 131) (tm 133)),
 O 135 (.pick (tm 126) (.cst (.b true)) (tm 134))]
def e9D:List CO:= [
  O 2 (.mv (.cst (.b false)))]
def c4x:List CO:= [
  mV 116 14,
 O 117 (.add (B .add b0) (tm 116) (.cst (iv 1))),
 mV 14 117]
def c5H:List CO:= [
  O 2 (.mv (.cst (.b true)))]
def c8b:List CO:= [
  O 8 (.box x9 (tm 2)),
 O 12 (.mv (.cst (iv 0)))]
def d7c:List CO:= [
  mV 13 0,
 mV 14 1,
 O 15 (.loadN 12 (tm 8)),
 mV 16 3,
 mV 17 4,
 mV 18 5,
 C 19 b0V [(tm 13),(tm 14),(tm 15),(tm 16),(tm 17),(tm 18),(.cst (.b true))],
 mV 12 19]
def d0a:List CO:= [
  O 6 (.box x9 (tm 2)),
 O 8 (.mv (.cst i7)),
 O 9 (.mv (.cst (iv 0)))]
def d1d:List CO:= [
  mV 13 0,
 mV 14 1,
 O 15 (.loadN 12 (tm 6)),
 mV 16 3,
 C 17 a21 [(tm 13),(tm 14),(tm 15),(tm 16)],
 mV 12 17,
 eX 18 0 12,
 eX 19 1 12,
 mV 10 18,
 mV 11 19]
def d37:List CO:= [
  mV 20 11,
 O 21 (.ne (B .neq j7) (tm 20) (.cst (iv 0)))]
def f2x:List CO:= [
  mV 22 11,
 O 8 (.mv (.cst i7)),
 mV 9 22]
def d87:List CO:= [
  mV 23 10,
 nL 24 23,
 fA 25 15 24,
 lD 26 25,
 C 27 b0h [(tm 26),(.cst (.func C3 []))]]
def d5P:List CO:= [
  mV 28 10,
 nL 29 28,
 fA 30 15 29,
 lD 31 30,
 mV 8 31,
 O 9 (.mv (.cst (iv 0)))]
def c6E:List CO:= [
  O 6 (.alloc x7 13 [(iv 0),(iv 0),(iv 0),(iv 0),(iv 0),(iv 0),(iv 0),(iv 0),(iv 0),(iv 0),(iv 0),(iv 0),(iv 0)]),
 O 7 (.mv (.cst (iv 0)))]
def d2H:List CO:= [
  mV 13 0,
 O 14 (.eqp false (B .eql F6) (tm 13) (.cst l9))]
def f0y:List CO:= [
  O 15 (.build [(iv 0),(iv 0),(iv 0),(iv 0),(iv 0),(iv 0),(iv 0),(iv 0),(iv 0),(iv 0),(iv 0),(iv 0),(iv 0)] []),
 .op none none (.store 13 (tm 6) (tm 15)),
 O 7 (.mv (.cst (iv 1)))]
def d6P:List CO:= [
  mV 17 0,
 mV 18 1,
 mV 19 2,
 C 20 a5d [(tm 17),(tm 18),(tm 19)],
 mV 16 20,
 eX 21 0 16,
 eX 22 1 16,
 eX 23 2 16,
 eX 24 3 16,
 mV 8 21,
 mV 9 22,
 mV 10 23,
 mV 11 24]
def c7B:List CO:= [
  mV 25 11,
 O 26 (.ne (B .neq j7) (tm 25) (.cst (iv 0)))]
def f1u:List CO:= [
  O 27 (.build [(iv 0),(iv 0),(iv 0),(iv 0),(iv 0),(iv 0),(iv 0),(iv 0),(iv 0),(iv 0),(iv 0),(iv 0),(iv 0)] []),
 mV 28 11,
 .op none none (.store 13 (tm 6) (tm 27)),
 mV 7 28]
def d2h:List CO:= [
  mV 30 10,
 mV 31 9,
 mV 32 9,
 O 33 (.add (B .add b0) (tm 32) (.cst (iv 32))),
 O 34 (.sl 1 false (tm 30) (some (tm 31)) (some (tm 33)) none),
 C 35 a5a [(tm 34)],
 mV 29 35,
 eX 36 0 29,
 eX 37 1 29,
 O 12 (.alloc x7 13 [(iv 0),(iv 0),(iv 0),(iv 0),(iv 0),(iv 0),(iv 0),(iv 0),(iv 0),(iv 0),(iv 0),(iv 0),(iv 0)]),
 .op none none (.store 13 (tm 12) (tm 36)),
 mV 11 37]
def d3U:List CO:= [
  mV 38 11,
 O 39 (.ne (B .neq j7) (tm 38) (.cst (iv 0)))]
def f1t:List CO:= [
  O 40 (.build [(iv 0),(iv 0),(iv 0),(iv 0),(iv 0),(iv 0),(iv 0),(iv 0),(iv 0),(iv 0),(iv 0),(iv 0),(iv 0)] []),
 .op none none (.store 13 (tm 6) (tm 40)),
 O 7 (.mv (.cst (iv 9)))]
def d5n:List CO:= [
  O 41 (.loadN 13 (tm 12)),
 .op none none (.store 13 (tm 6) (tm 41)),
 O 7 (.mv (.cst (iv 0)))]
def d3D:List CO:= [
  O 7 (.box x7 (tm 3)),
 O 8 (.mv (.cst (iv 0)))]
def d2o:List CO:= [
  mV 17 0,
 O 18 (.eqp false (B .eql F6) (tm 17) (.cst l9))]
def f0U:List CO:= [
  O 8 (.mv (.cst (iv 1)))]
def d02:List CO:= [
  mV 20 0,
 nL 21 20,
 fA 22 1 21,
 O 23 (.loadN 12 (tm 22)),
 mV 24 2,
 C 25 a6H [(tm 23),(tm 24)],
 mV 19 25,
 eX 26 0 19,
 eX 27 1 19,
 eX 28 2 19,
 mV 9 26,
 mV 10 27,
 mV 11 28]
def d5o:List CO:= [
  mV 29 11,
 O 30 (.ne (B .neq j7) (tm 29) (.cst (iv 0)))]
def f1w:List CO:= [
  mV 31 11,
 mV 8 31]
def d5b:List CO:= [
  O 33 (.loadN 13 (tm 7)),
 C 34 a5q [(tm 33)],
 mV 32 34,
 eX 35 0 32,
 eX 36 1 32,
 mV 12 35,
 mV 13 36]
def d2k:List CO:= [
  mV 37 13,
 O 38 (.ne (B .neq j7) (tm 37) (.cst (iv 0)))]
def f0Y:List CO:= [
  mV 39 13,
 mV 8 39]
def c5Y:List CO:= [
  mV 41 0,
 mV 42 1,
 mV 43 2,
 C 44 a5d [(tm 41),(tm 42),(tm 43)],
 mV 40 44,
 eX 45 0 40,
 eX 46 1 40,
 eX 47 2 40,
 eX 48 3 40,
 mV 14 45,
 mV 15 46,
 mV 16 47,
 mV 13 48]
def c3A:List CO:= [
  mV 49 13,
 O 50 (.ne (B .neq j7) (tm 49) (.cst (iv 0)))]
def e9p:List CO:= [
  mV 51 13,
 mV 8 51]
def c39:List CO:= [
  mV 52 16,
 mV 53 15,
 O 54 (.sl 1 false (tm 52) (some (tm 53)) none none),
 mV 55 12,
 O 56 (.copy 1 (tm 54) (tm 55))]
def c1f:List CO:= [
  mV 57 1,
 mV 58 14,
 mV 59 16,
 C 60 Z5 [(tm 57),(tm 58),(tm 59)],
 mV 8 60]
def a96:List CO:= [
  O 9 (.box x9 (tm 2)),
 O 14 (.mv (.cst (iv 0)))]
def a9V:List CO:= [
  mV 19 4,
 C 20 a2t [(tm 19)],
 mV 15 20]
def a9s:List CO:= [
  mV 21 15,
 O 22 (.ne (B .neq j7) (tm 21) (.cst (iv 0)))]
def f1f:List CO:= [
  mV 23 15,
 mV 14 23]
def a9B:List CO:= [
  mV 24 5,
 O 25 (.lt (B .lss b0) (tm 24) (.cst (iv 1))),
 mV 26 25,
 G 27 26 false (.mv (tm 5)),
 G 28 26 false (.gt (B .gtr b0) (tm 27) (.cst (iv 65535))),
 O 29 (.pick (tm 26) (.cst (.b true)) (tm 28))]
def f0M:List CO:= [
  O 14 (.mv (.cst (iv 3)))]
def a90:List CO:= [
  mV 31 0,
 mV 32 1,
 O 33 (.loadN 12 (tm 9)),
 mV 34 3,
 mV 35 4,
 C 36 a2e [(tm 31),(tm 32),(tm 33),(tm 34),(tm 35)],
 mV 30 36,
 eX 37 0 30,
 eX 38 1 30,
 eX 39 2 30,
 mV 16 37,
 mV 17 38,
 mV 18 39]
def a8N:List CO:= [
  mV 41 18,
 O 42 (.ne (B .neq j7) (tm 41) (.cst (iv 0))),
 mV 40 42]
def f2d:List CO:= [
  mV 43 18,
 mV 14 43]
def a8K:List CO:= [
  mV 45 6,
 mV 46 45,
 G 47 46 true (.mv (tm 17)),
 G 48 46 true (.ge (B .geq b0) (tm 47) (.cst (iv 0))),
 O 49 (.pick (tm 46) (tm 48) (.cst (.b false))),
 mV 44 49]
def e9H:List CO:= [
  O 14 (.mv (.cst (iv 12)))]
def a8g:List CO:= [
  mV 51 6,
 mV 50 51]
def b86:List CO:= [
  mV 52 16,
 nL 53 52,
 fA 54 15 53,
 lD 55 54,
 O 56 (.len false (tm 55)),
 mV 17 56]
def c5G:List CO:= [
  mV 58 17,
 O 59 (.lt (B .lss b0) (tm 58) (.cst (iv 0))),
 mV 57 59]
def e8s:List CO:= [
  O 14 (.mv (.cst (iv 11)))]
def a8m:List CO:= [
  mV 60 16,
 mV 61 17,
 mV 62 5,
 mV 63 4,
 O 64 (.build [(iv 0),(tv [])] [(0,1,(tm 62)),(1,1,(tm 63))]),
 C 65 b0Q [(tm 60),(tm 61),(tm 64)],
 mV 14 65]
def a6T:List CO:= [
  O 6 (.box x9 (tm 2)),
 O 8 (.alloc W6 1 [l9]),
 O 9 (.alloc j7 1 [(iv 0)])]
def a6Q:List CO:= [
  mV 20 1,
 mV 21 0,
 mV 22 3,
 C 23 a0c [(tm 20),(tm 21),(tm 22)],
 mV 19 23,
 eX 24 0 19,
 eX 25 1 19,
 O 10 (.alloc x7 13 [(iv 0),(iv 0),(iv 0),(iv 0),(iv 0),(iv 0),(iv 0),(iv 0),(iv 0),(iv 0),(iv 0),(iv 0),(iv 0)]),
 .op none none (.store 13 (tm 10) (tm 24)),
 mV 11 25]
def a6O:List CO:= [
  mV 27 11,
 O 28 (.ne (B .neq j7) (tm 27) (.cst (iv 0))),
 mV 26 28]
def b4B:List CO:= [
  mV 29 11,
 .op none none (.store 1 (tm 8) (.cst l9)),
 .op none none (.store 1 (tm 9) (tm 29))]
def a6V:List CO:= [
  fA 31 0 10,
 lD 32 31,
 O 33 (.eq (B .eql b0) (tm 32) (.cst (iv 0))),
 mV 30 33]
def b4y:List CO:= [
  .op none none (.store 1 (tm 8) (.cst l9)),
 .op none none (.store 1 (tm 9) (.cst (iv 11)))]
def a6L:List CO:= [
  fA 35 0 10,
 lD 36 35,
 O 37 (.ne (B .neq b0) (tm 36) (.cst (iv 2))),
 mV 34 37]
def b4w:List CO:= [
  .op none none (.store 1 (tm 8) (.cst l9)),
 .op none none (.store 1 (tm 9) (.cst (iv 13)))]
def a6N:List CO:= [
  fA 39 2 10,
 lD 40 39,
 O 41 (.rem (B .rem b0) (tm 40) (.cst (iv 16))),
 O 42 (.ne (B .neq b0) (tm 41) (.cst (iv 0))),
 mV 38 42]
def b4r:List CO:= [
  .op none none (.store 1 (tm 8) (.cst l9)),
 .op none none (.store 1 (tm 9) (.cst (iv 9)))]
def a6v:List CO:= [
  mV 43 0,
 mV 44 1,
 O 45 (.loadN 12 (tm 6)),
 mV 46 3,
 O 47 (.build [l9,l9,(iv 0),(iv 0),(iv 0),(iv 0),(iv 0),(iv 0),(iv 0),(iv 0),(iv 0),(iv 0),(iv 0),(iv 0),(iv 0),i7] [(0,1,(tm 43)),(1,1,(tm 44)),(2,12,(tm 45)),(14,1,(tm 46))]),
 O 48 (.box K5 (tm 47)),
 O 12 (.alloc W6 1 [l9]),
 .op none none (.store 1 (tm 12) (tm 48))]
def a6E:List CO:= [
  O 13 (.mv (.cst (iv 0)))]
def a2W:List CO:= [
  mV 49 13,
 fA 50 2 10,
 lD 51 50,
 O 52 (.lt (B .lss b0) (tm 49) (tm 51))]
def a6C:List CO:= [
  mV 58 0,
 mV 59 1,
 O 60 (.loadN 12 (tm 6)),
 mV 61 3,
 mV 62 13,
 fA 63 0 6,
 lD 64 63,
 C 65 a6S [(tm 58),(tm 59),(tm 60),(tm 61),(tm 62),(tm 64)],
 mV 57 65,
 eX 66 0 57,
 eX 67 1 57,
 mV 14 66,
 mV 15 67]
def a6J:List CO:= [
  mV 68 15,
 O 69 (.ne (B .neq j7) (tm 68) (.cst (iv 0)))]
def b37:List CO:= [
  mV 70 15,
 .op none none (.store 1 (tm 8) (.cst l9)),
 .op none none (.store 1 (tm 9) (tm 70))]
def a6u:List CO:= [
  mV 71 14,
 C 72 b0K [(tm 71),(.cst (iv 16))]]
def e4s:List CO:= [
  mV 16 73]
def a6D:List CO:= [
  mV 75 16,
 C 76 b0u [(tm 75)],
 mV 74 76,
 eX 77 0 74,
 eX 78 1 74,
 O 17 (.alloc o7 2 [(iv 0),(tv [])]),
 .op none none (.store 2 (tm 17) (tm 77)),
 mV 18 78]
def a6F:List CO:= [
  mV 79 18,
 O 80 (.ne (B .neq j7) (tm 79) (.cst (iv 0))),
 mV 81 80,
 G 82 81 false (.fa 0 (tm 17)),
 G 83 81 false (.load (tm 82)),
 G 84 81 false (.eq (B .eql b0) (tm 83) (.cst (iv 0))),
 O 85 (.pick (tm 81) (.cst (.b true)) (tm 84))]
def b4q:List CO:= [
  .op none none (.store 1 (tm 8) (.cst l9)),
 .op none none (.store 1 (tm 9) (.cst (iv 9)))]
def a6A:List CO:= [
  lD 86 12,
 lD 87 12,
 nL 88 87,
 fA 89 15 88,
 lD 90 89,
 O 91 (.loadN 2 (tm 17)),
 O 92 (.bslice o7 1 2 [(iv 0),(tv [])] [(0,2,(tm 91))]),
 O 93 (.app o7 2 24 [(iv 0),(tv [])] (tm 90) (tm 92)),
 nL 94 86,
 fA 95 15 94,
 .op none none (.store 1 (tm 95) (tm 93))]
def a6y:List CO:= [
  mV 53 13,
 fA 54 0 6,
 lD 55 54,
 O 56 (.add (B .add b0) (tm 53) (tm 55)),
 mV 13 56]
def a6x:List CO:= [
  lD 96 12,
 .op none none (.store 1 (tm 8) (tm 96)),
 .op none none (.store 1 (tm 9) (.cst (iv 0)))]
noncomputable def z8:Code:=a38 (Tryz.prog.funcs[29]?)
noncomputable def b4n:CC:=(.reg a6T)
theorem e4r:i8 Tryz.prog ((sL z8))=b4n:=by kernel_rfl
noncomputable def b4h:CC:=(.reg a6Q)
theorem e4l:i8 Tryz.prog ((sL (sR z8)))=b4h:=by kernel_rfl
noncomputable def b4f:CC:=(.block 0 (.seq (.reg a6O) (.cond (tm 26) (.seq (.reg b4B) .ret) (.seq (.reg a6V) (.cond (tm 30) (.seq (.reg b4y) .ret) (.seq (.reg a6L) (.cond (tm 34) (.seq (.reg b4w) .ret) (.seq (.reg a6N) (.cond (tm 38) (.seq (.reg b4r) .ret) .skip)))))))))
theorem e4y:i8 Tryz.prog ((sL (sR (sR z8))))=b4f:=by kernel_rfl
noncomputable def b4m:CC:=(.reg a6v)
theorem e4j:i8 Tryz.prog ((sL (sR (sR (sR z8)))))=b4m:=by kernel_rfl
noncomputable def b36:CC:=(.reg a6E)
theorem e4t:i8 Tryz.prog ((sL (sL (sR (sR (sR (sR z8)))))))=b36:=by kernel_rfl
noncomputable def b4a:CC:=(.seq (.reg a2W) (.cond (tm 52) .skip (.exit 1)))
theorem e4h:i8 Tryz.prog ((sL (lB (bB (sR (sL (sR (sR (sR (sR z8))))))))))=b4a:=by kernel_rfl
noncomputable def b4l:CC:=(.reg a6C)
theorem e4w:i8 Tryz.prog ((sL (bB (sL (sR (lB (bB (sR (sL (sR (sR (sR (sR z8)))))))))))))=b4l:=by kernel_rfl
noncomputable def b4j:CC:=(.seq (.reg a6J) (.cond (tm 69) (.seq (.reg b37) .ret) .skip))
theorem e4q:i8 Tryz.prog ((sL (sR (bB (sL (sR (lB (bB (sR (sL (sR (sR (sR (sR z8))))))))))))))=b4j:=by kernel_rfl
noncomputable def b38:CC:=(.reg a6u)
theorem e4m:i8 Tryz.prog ((sL (sR (sR (bB (sL (sR (lB (bB (sR (sL (sR (sR (sR (sR z8)))))))))))))))=b38:=by kernel_rfl
noncomputable def e4u:CC:=(.reg e4s)
theorem e4p:i8 Tryz.prog ((rAs (bB (sR (sR (sR (bB (sL (sR (lB (bB (sR (sL (sR (sR (sR (sR z8)))))))))))))))))=e4u:=by kernel_rfl
noncomputable def a6e:CC:=(.block 4 (.seq (.reg a6D) (.seq (.seq (.reg a6F) (.cond (tm 85) (.seq (.reg b4q) .ret) .skip)) (.drawn a6A [(0,0),(0,7),(0,8),(1,0),(1,7),(4,0),(4,7),(5,0)]))))
theorem e32:i8 Tryz.prog ((rBd (bB (sR (sR (sR (bB (sL (sR (lB (bB (sR (sL (sR (sR (sR (sR z8)))))))))))))))))=a6e:=by kernel_rfl
theorem e4f:cO (rF (bB (sR (sR (sR (bB (sL (sR (lB (bB (sR (sL (sR (sR (sR (sR z8))))))))))))))))=(tm 72):=by kernel_rfl
theorem e4g:(rPs (bB (sR (sR (sR (bB (sL (sR (lB (bB (sR (sL (sR (sR (sR (sR z8)))))))))))))))).toList= [73] :=by kernel_rfl
noncomputable def b31:CC:=(.reg a6y)
theorem e30:i8 Tryz.prog ((sR (sR (lB (bB (sR (sL (sR (sR (sR (sR z8)))))))))))=b31:=by kernel_rfl
noncomputable def b3Y:CC:=(.seq (.reg a6x) .ret)
theorem e33:i8 Tryz.prog ((sR (sR (sR (sR (sR z8))))))=b3Y:=by kernel_rfl
noncomputable def b3E:Code:=(.seq (sL z8) (.seq (sL (sR z8)) (.seq (sL (sR (sR z8))) (.seq (sL (sR (sR (sR z8)))) (.seq (.seq (sL (sL (sR (sR (sR (sR z8)))))) (.block 1 (.loop (.seq (sL (lB (bB (sR (sL (sR (sR (sR (sR z8))))))))) (.seq (.block 2 (.seq (sL (bB (sL (sR (lB (bB (sR (sL (sR (sR (sR (sR z8)))))))))))) (.seq (sL (sR (bB (sL (sR (lB (bB (sR (sL (sR (sR (sR (sR z8))))))))))))) (.seq (sL (sR (sR (bB (sL (sR (lB (bB (sR (sL (sR (sR (sR (sR z8)))))))))))))) (.block 3 (.rangeFunc (rF (bB (sR (sR (sR (bB (sL (sR (lB (bB (sR (sL (sR (sR (sR (sR z8)))))))))))))))) (rPs (bB (sR (sR (sR (bB (sL (sR (lB (bB (sR (sL (sR (sR (sR (sR z8)))))))))))))))) (rAs (bB (sR (sR (sR (bB (sL (sR (lB (bB (sR (sL (sR (sR (sR (sR z8)))))))))))))))) (rBd (bB (sR (sR (sR (bB (sL (sR (lB (bB (sR (sL (sR (sR (sR (sR z8)))))))))))))))))))))) (sR (sR (lB (bB (sR (sL (sR (sR (sR (sR z8))))))))))))))) (sR (sR (sR (sR (sR z8))))))))))
theorem e29:Tryz.f29.body=some b3E:=by kernel_rfl
theorem e23:u6 Tryz.f29.ntmps b3E=true:=by kernel_rfl
theorem e4a:y7 (pth 29) tb.fs=some Tryz.f29:=by rw[i6];exact X7 Tryz.func29
theorem e3v:Tryz.f29.results.toList= [.cell 8 W6,.cell 9 j7] :=rfl
def a9I:List CO:= [
  mV 4 0,
 mV 5 0,
 O 6 (.len false (tm 5)),
 mV 7 1,
 C 8 Z4 [(tm 4),(tm 6),(tm 7)]]
def d2L:List CO:= [
  O 2 (.box o7 (tm 0)),
 O 3 (.box o7 (tm 1)),
 O 4 (.mv (.cst (iv 0)))]
def d53:List CO:= [
  fA 5 1 2,
 lD 6 5,
 fA 7 1 3,
 lD 8 7,
 C 9 b0M [(tm 6),(tm 8)],
 mV 4 9]
def a4f:List CO:= [
  O 4 (.mv (.cst (iv 0)))]
def a4F:List CO:= [
  mV 7 0,
 C 8 a4Z [(tm 7)],
 mV 5 8]
def a31:List CO:= [
  mV 9 1,
 C 10 a4Z [(tm 9)],
 mV 6 10]
def a3V:List CO:= [
  mV 11 5]
def f04:List CO:= [
  mV 12 6]
def f2f:List CO:= [
  O 4 (.mv (.cst (iv 0)))]
def f1Y:List CO:= [
  O 4 (.mv (.cst (iv (-1))))]
def a4j:List CO:= [
  mV 13 6]
def f0R:List CO:= [
  O 4 (.mv (.cst (iv 1)))]
def a30:List CO:= [
  mV 14 0,
 mV 15 1,
 O 16 (.lt (B .lss D6) (tm 14) (tm 15))]
def c0r:List CO:= [
  O 4 (.mv (.cst (iv (-1))))]
def a7Z:List CO:= [
  mV 17 0,
 mV 18 1,
 O 19 (.gt (B .gtr D6) (tm 17) (tm 18))]
def c3l:List CO:= [
  O 4 (.mv (.cst (iv 1)))]
def c2s:List CO:= [
  O 4 (.mv (.cst (iv 0)))]
def d4Y:List CO:= [
  O 6 (.box x9 (tm 2)),
 O 8 (.mv (.cst l9)),
 O 9 (.mv (.cst (iv 0)))]
def d6B:List CO:= [
  mV 13 1,
 mV 14 0,
 mV 15 3,
 C 16 a0c [(tm 13),(tm 14),(tm 15)],
 mV 12 16,
 eX 17 0 12,
 eX 18 1 12,
 O 10 (.alloc x7 13 [(iv 0),(iv 0),(iv 0),(iv 0),(iv 0),(iv 0),(iv 0),(iv 0),(iv 0),(iv 0),(iv 0),(iv 0),(iv 0)]),
 .op none none (.store 13 (tm 10) (tm 17)),
 mV 11 18]
def c7e:List CO:= [
  mV 20 11,
 O 21 (.ne (B .neq j7) (tm 20) (.cst (iv 0))),
 mV 19 21]
def f0N:List CO:= [
  mV 22 11,
 O 8 (.mv (.cst l9)),
 mV 9 22]
def c7i:List CO:= [
  fA 24 0 10,
 lD 25 24,
 O 26 (.eq (B .eql b0) (tm 25) (.cst (iv 0))),
 mV 23 26]
def f06:List CO:= [
  O 8 (.mv (.cst l9)),
 O 9 (.mv (.cst (iv 11)))]
def d7J:List CO:= [
  mV 27 0,
 mV 28 1,
 O 29 (.loadN 12 (tm 6)),
 mV 30 3,
 O 31 (.loadN 13 (tm 10)),
 O 32 (.build [l9,l9,(iv 0),(iv 0),(iv 0),(iv 0),(iv 0),(iv 0),(iv 0),(iv 0),(iv 0),(iv 0),(iv 0),(iv 0),(iv 0),(iv 0),(iv 0),(iv 0),(iv 0),(iv 0),(iv 0),(iv 0),(iv 0),(iv 0),(iv 0),(iv 0),(iv 0),(iv 0)] [(0,1,(tm 27)),(1,1,(tm 28)),(2,12,(tm 29)),(14,1,(tm 30)),(15,13,(tm 31))]),
 O 33 (.box Q6 (tm 32)),
 mV 8 33,
 O 9 (.mv (.cst (iv 0)))]
def d3P:List CO:= [
  O 7 (.box x9 (tm 2)),
 O 9 (.box D6 (tm 4)),
 O 10 (.mv (.cst l9)),
 O 11 (.mv (.cst (iv 0))),
 O 12 (.mv (.cst (iv 0)))]
def d4R:List CO:= [
  lD 16 9,
 C 17 a2t [(tm 16)],
 mV 13 17]
def d60:List CO:= [
  mV 18 13,
 O 19 (.ne (B .neq j7) (tm 18) (.cst (iv 0)))]
def f1n:List CO:= [
  mV 20 13,
 O 10 (.mv (.cst l9)),
 O 11 (.mv (.cst (iv 0))),
 mV 12 20]
def d40:List CO:= [
  mV 22 0,
 mV 23 1,
 O 24 (.loadN 12 (tm 7)),
 mV 25 3,
 C 26 a21 [(tm 22),(tm 23),(tm 24),(tm 25)],
 mV 21 26,
 eX 27 0 21,
 eX 28 1 21,
 mV 14 27,
 mV 15 28]
def c7j:List CO:= [
  mV 29 15,
 O 30 (.ne (B .neq j7) (tm 29) (.cst (iv 0)))]
def f0f:List CO:= [
  mV 31 15,
 O 10 (.mv (.cst l9)),
 O 11 (.mv (.cst (iv 0))),
 mV 12 31]
def c67:List CO:= [
  mV 32 14,
 mV 33 14,
 nL 34 33,
 fA 35 15 34,
 lD 36 35,
 O 37 (.fn a0S [(tm 9)]),
 C 38 a47 [(tm 36),(tm 37)],
 mV 10 32,
 mV 11 38,
 O 12 (.mv (.cst (iv 0)))]
def c6r:List CO:= [
  O 5 (.box o7 (tm 2)),
 O 6 (.mv (.cst (iv 0)))]
def c9Y:List CO:= [
  O 10 (.loadN 2 (tm 5)),
 C 11 a5l [(tm 10)],
 mV 9 11,
 eX 12 0 9,
 eX 13 1 9,
 mV 7 12,
 mV 8 13]
def d2C:List CO:= [
  mV 14 8,
 O 15 (.ne (B .neq j7) (tm 14) (.cst (iv 0)))]
def f1D:List CO:= [
  mV 16 8,
 mV 6 16]
def d6H:List CO:= [
  mV 17 0,
 nL 18 17,
 fA 19 0 18,
 lD 20 19,
 mV 21 0,
 nL 22 21,
 fA 23 1 22,
 lD 24 23,
 mV 25 0,
 nL 26 25,
 fA 27 2 26,
 O 28 (.loadN 12 (tm 27)),
 mV 29 0,
 nL 30 29,
 fA 31 14 30,
 lD 32 31,
 mV 33 1,
 O 34 (.mul (B .mul b0) (tm 33) (.cst (iv 16))),
 mV 35 7,
 C 36 a2X [(tm 20),(tm 24),(tm 28),(tm 32),(tm 34),(tm 35)],
 mV 6 36]
def d32:List CO:= [
  O 6 (.mv (.cst (iv 0))),
 O 7 (.mv (.cst (iv 0))),
 O 8 (.mv (.cst i7)),
 O 9 (.mv (.cst (iv 0)))]
def d2Y:List CO:= [
  mV 11 0,
 nL 12 11,
 fA 13 1 12,
 O 14 (.loadN 12 (tm 13)),
 mV 15 2,
 C 16 a6H [(tm 14),(tm 15)],
 mV 10 16,
 eX 17 0 10,
 eX 18 1 10,
 eX 19 2 10,
 mV 6 17,
 mV 7 18,
 mV 9 19]
def d09:List CO:= [
  mV 20 9,
 O 21 (.eq (B .eql j7) (tm 20) (.cst (iv 0)))]
def c6Z:List CO:= [
  mV 23 1,
 mV 24 6,
 C 25 M2 [(tm 23),(tm 24)],
 mV 22 25,
 eX 26 0 22,
 eX 27 1 22,
 mV 8 26,
 mV 9 27]
def d7f:List CO:= [
  mV 28 6,
 mV 29 7,
 mV 30 8,
 mV 31 9,
 mV 6 28,
 mV 7 29,
 mV 8 30,
 mV 9 31]
def d1x:List CO:= [
  O 2 (.alloc x7 13 [(iv 0),(iv 0),(iv 0),(iv 0),(iv 0),(iv 0),(iv 0),(iv 0),(iv 0),(iv 0),(iv 0),(iv 0),(iv 0)]),
 O 3 (.mv (.cst (iv 0)))]
def c7K:List CO:= [
  mV 10 0,
 O 11 (.len false (tm 10)),
 O 12 (.ne (B .neq b0) (tm 11) (.cst (iv 32)))]
def f0C:List CO:= [
  O 13 (.build [(iv 0),(iv 0),(iv 0),(iv 0),(iv 0),(iv 0),(iv 0),(iv 0),(iv 0),(iv 0),(iv 0),(iv 0),(iv 0)] []),
 .op none none (.store 13 (tm 2) (tm 13)),
 O 3 (.mv (.cst (iv 4)))]
def d0t:List CO:= [
  O 4 (.alloc x7 13 [(iv 0),(iv 0),(iv 0),(iv 0),(iv 0),(iv 0),(iv 0),(iv 0),(iv 0),(iv 0),(iv 0),(iv 0),(iv 0)])]
def d2B:List CO:= [
  O 5 (.alloc b0 1 [(iv 0)])]
def c7d:List CO:= [
  mV 14 0,
 O 15 (.build [i7,(iv 0)] [(0,1,(tm 14)),(1,1,(.cst (iv 0)))]),
 O 16 (.box H2 (tm 15)),
 mV 6 16]
def c9l:List CO:= [
  mV 17 6,
 fA 18 0 4,
 O 19 (.bslice K8 2 2 [l9] [(0,1,(tm 18)),(1,1,(tm 5))]),
 C 20 U5 [(tm 17),(.cst (iv 1)),(tm 19)]]
def c6R:List CO:= [
  mV 21 6,
 fA 22 1 4,
 O 23 (.bslice K8 1 1 [l9] [(0,1,(tm 22))]),
 C 24 U5 [(tm 21),(.cst (iv 2)),(tm 23)]]
def c6n:List CO:= [
  mV 25 6,
 fA 26 2 4,
 O 27 (.bslice K8 1 1 [l9] [(0,1,(tm 26))]),
 C 28 U5 [(tm 25),(.cst (iv 4)),(tm 27)]]
def c9Z:List CO:= [
  O 29 (.mv (.cst (iv 0)))]
def a7U:List CO:= [
  O 30 (.lt (B .lss b0) (tm 29) (.cst (iv 8)))]
def c0m:List CO:= [
  mV 31 29,
 mV 7 31]
def c5g:List CO:= [
  mV 32 7,
 mV 33 6,
 C 34 a2j [(tm 33),(.cst (iv 2))],
 fA 35 3 4,
 O 36 (.iaA 8 1 (tm 35) (tm 32)),
 .op none none (.store 1 (tm 36) (tm 34))]
def c4C:List CO:= [
  O 37 (.add (B .add b0) (tm 29) (.cst (iv 1))),
 mV 29 37]
def c3V:List CO:= [
  mV 38 6,
 fA 39 11 4,
 fA 40 12 4,
 O 41 (.bslice K8 2 2 [l9] [(0,1,(tm 39)),(1,1,(tm 40))]),
 C 42 U5 [(tm 38),(.cst (iv 2)),(tm 41)]]
def b9X:List CO:= [
  O 44 (.loadN 13 (tm 4)),
 C 45 a5q [(tm 44)],
 mV 43 45,
 eX 46 0 43,
 eX 47 1 43,
 mV 8 46,
 mV 9 47]
def b8R:List CO:= [
  O 48 (.loadN 13 (tm 4)),
 mV 49 0,
 mV 50 8,
 mV 51 9,
 C 52 b0A [(tm 48),(tm 49),(tm 50),(tm 51)],
 eX 53 0 52,
 eX 54 1 52,
 .op none none (.store 13 (tm 2) (tm 53)),
 mV 3 54]
def c6k:List CO:= [
  O 6 (.mv (.cst (iv 0)))]
def d8x:List CO:= [
  mV 7 0,
 mV 8 1,
 mV 9 2,
 C 10 V2 [(tm 7),(.cst (.func U4 [])),(.cst (.func U6 [])),(tm 8),(tm 9)],
 mV 6 10]
def d3O:List CO:= [
  O 1 (.box x7 (tm 0)),
 O 2 (.mv (.cst i7)),
 O 3 (.mv (.cst (iv 0)))]
def d2S:List CO:= [
  fA 5 0 1,
 lD 6 5,
 O 7 (.lt (B .lss b0) (tm 6) (.cst (iv 0))),
 mV 8 7,
 G 9 8 false (.fa 0 (tm 1)),
 G 10 8 false (.load (tm 9)),
 G 11 8 false (.gt (B .gtr b0) (tm 10) (.cst (iv 2))),
 O 12 (.pick (tm 8) (.cst (.b true)) (tm 11)),
 mV 13 12,
 G 14 13 false (.fa 0 (tm 1)),
 G 15 13 false (.load (tm 14)),
 G 16 13 false (.eq (B .eql b0) (tm 15) (.cst (iv 0))),
 G 17 13 false (.mv (tm 16)),
 G 18 17 true (.loadN 13 (tm 1)),
 G 19 17 true (.build [(iv 0),(iv 0),(iv 0),(iv 0),(iv 0),(iv 0),(iv 0),(iv 0),(iv 0),(iv 0),(iv 0),(iv 0),(iv 0)] []),
 G 20 17 true (.ne (B .neq x7) (tm 18) (tm 19)),
 G 21 13 false (.pick (tm 17) (tm 20) (.cst (.b false))),
 O 22 (.pick (tm 13) (.cst (.b true)) (tm 21))]
def f2t:List CO:= [
  O 2 (.mv (.cst i7)),
 O 3 (.mv (.cst (iv 4)))]
def d43:List CO:= [
  O 23 (.build [i7,(iv 0)] []),
 O 24 (.box a0h (tm 23)),
 mV 4 24]
def c7a:List CO:= [
  mV 25 4,
 fA 26 0 1,
 lD 27 26,
 O 28 (.bslice b0 2 2 [(iv 0)] [(0,1,(tm 27)),(1,1,(.cst (iv 0)))]),
 C 29 V3 [(tm 25),(.cst (iv 1)),(tm 28)]]
def d41:List CO:= [
  mV 30 4,
 fA 31 1 1,
 lD 32 31,
 C 33 a0U [(tm 30),(.cst (iv 2)),(tm 32)]]
def c52:List CO:= [
  mV 34 4,
 fA 35 2 1,
 lD 36 35,
 C 37 a0U [(tm 34),(.cst (iv 4)),(tm 36)]]
def d1f:List CO:= [
  mV 38 4,
 fA 39 3 1,
 O 40 (.sla 8 1 (tm 39) none none none),
 C 41 V3 [(tm 38),(.cst (iv 2)),(tm 40)]]
def d85:List CO:= [
  mV 42 4,
 fA 43 11 1,
 lD 44 43,
 fA 45 12 1,
 lD 46 45,
 O 47 (.bslice b0 2 2 [(iv 0)] [(0,1,(tm 44)),(1,1,(tm 46))]),
 C 48 V3 [(tm 42),(.cst (iv 2)),(tm 47)]]
def d5N:List CO:= [
  mV 49 4,
 C 50 a5m [(tm 49),(.cst (iv 32))],
 eX 51 0 50,
 eX 52 1 50,
 mV 2 51,
 mV 3 52]
def c7z:List CO:= [
  O 2 (.mv (.cst (iv 0)))]
def c6B:List CO:= [
  O 3 (.mv (.cst (.func V7 [])))]
def d5M:List CO:= [
  mV 4 0,
 O 5 (.eq (B .eql D6) (tm 4) (.cst (tv []))),
 mV 6 5,
 G 7 6 false (.mv (tm 0)),
 G 8 6 false (.len true (tm 7)),
 G 9 6 false (.gt (B .gtr b0) (tm 8) (.cst (iv 13))),
 O 10 (.pick (tm 6) (.cst (.b true)) (tm 9)),
 mV 11 10,
 G 12 11 false (.mv (tm 0)),
 G 13 11 false (.eq (B .eql D6) (tm 12) (.cst (tv [46]))),
 O 14 (.pick (tm 11) (.cst (.b true)) (tm 13)),
 mV 15 14,
 G 16 15 false (.mv (tm 0)),
 G 17 15 false (.eq (B .eql D6) (tm 16) (.cst (tv [46,46]))),
 O 18 (.pick (tm 15) (.cst (.b true)) (tm 17)),
 mV 19 18,
 G 20 19 false (.mv (tm 0)),
 G 21 19 false (.mv (tm 3)),
 .call (some (pth 22)) (some (pth 19,false)) (.cst (.func b0X [])) [(tm 20),(tm 21)],
 O 23 (.pick (tm 19) (.cst (.b true)) (tm 22))]
def f0g:List CO:= [
  O 2 (.mv (.cst (iv 16)))]
def c8D:List CO:= [
  O 2 (.mv (.cst (iv 0)))]
def a6z:List CO:= [
  O 6 (.box E6 (tm 0)),
 O 7 (.box F6 (tm 1)),
 O 8 (.box x9 (tm 2)),
 O 9 (.box b0 (tm 3)),
 O 10 (.box b0 (tm 4)),
 O 11 (.box b0 (tm 5)),
 O 12 (.alloc B3 1 [i7]),
 O 13 (.alloc j7 1 [(iv 0)])]
def a6B:List CO:= [
  lD 20 10,
 O 21 (.lt (B .lss b0) (tm 20) (.cst (iv 0))),
 mV 22 21,
 G 23 22 false (.load (tm 11)),
 G 24 22 false (.lt (B .lss b0) (tm 23) (.cst (iv 0))),
 O 25 (.pick (tm 22) (.cst (.b true)) (tm 24)),
 mV 19 25]
def b4i:List CO:= [
  .op none none (.store 1 (tm 12) (.cst i7)),
 .op none none (.store 1 (tm 13) (.cst (iv 1)))]
def a6G:List CO:= [
  lD 27 11,
 O 28 (.gt (B .gtr b0) (tm 27) (.cst (iv 4096))),
 mV 26 28]
def b4p:List CO:= [
  .op none none (.store 1 (tm 12) (.cst i7)),
 .op none none (.store 1 (tm 13) (.cst (iv 5)))]
def a6t:List CO:= [
  lD 30 6,
 lD 31 7,
 O 32 (.loadN 12 (tm 8)),
 lD 33 9,
 C 34 a49 [(tm 30),(tm 31),(tm 32),(tm 33)],
 mV 29 34,
 eX 35 0 29,
 eX 36 1 29,
 mV 14 35,
 .op none none (.store 1 (tm 13) (tm 36))]
def a6I:List CO:= [
  lD 37 13,
 O 38 (.ne (B .neq j7) (tm 37) (.cst (iv 0)))]
def b4d:List CO:= [
  lD 39 13,
 .op none none (.store 1 (tm 12) (.cst i7)),
 .op none none (.store 1 (tm 13) (tm 39))]
def a6s:List CO:= [
  lD 40 11,
 mV 41 14,
 nL 42 41,
 fA 43 15 42,
 fA 44 2 43,
 lD 45 44,
 lD 46 10,
 O 47 (.sub (B .sub b0) (tm 45) (tm 46)),
 O 48 (.max (.cst (iv 0)) (tm 47)),
 O 49 (.min (tm 40) (tm 48)),
 .op none none (.store 1 (tm 11) (tm 49))]
def a6r:List CO:= [
  lD 50 11,
 O 51 (.mksl j6 1 1 [(.y 0)] (tm 50) (tm 50)),
 .op none none (.store 1 (tm 12) (tm 51))]
def a6l:List CO:= [
  O 52 (.fn a5r [(tm 8),(tm 10),(tm 11)])]
def e4c:List CO:= [
  O 15 (.alloc J4 4 [(iv 0),(iv 0),(iv 0),(iv 0)]),
 .op none none (.store 4 (tm 15) (tm 53))]
def a2R:List CO:= [
  lD 55 7,
 lD 56 6,
 lD 57 9,
 fA 58 0 15,
 lD 59 58,
 C 60 a2h [(tm 55),(tm 56),(tm 57),(tm 59)],
 mV 54 60,
 eX 61 0 54,
 eX 62 1 54,
 mV 16 61,
 mV 17 62]
def a2U:List CO:= [
  mV 63 17,
 O 64 (.ne (B .neq j7) (tm 63) (.cst (iv 0)))]
def b3Q:List CO:= [
  mV 65 17,
 .op none none (.store 1 (tm 12) (.cst i7)),
 .op none none (.store 1 (tm 13) (tm 65))]
def a2T:List CO:= [
  mV 66 16,
 O 67 (.eq (B .eql b0) (tm 66) (.cst (iv 0)))]
def a6d:List CO:= [
  lD 69 6,
 mV 70 16,
 C 71 M2 [(tm 69),(tm 70)],
 mV 68 71,
 eX 72 0 68,
 eX 73 1 68,
 mV 18 72,
 mV 17 73]
def a6n:List CO:= [
  mV 74 17,
 O 75 (.ne (B .neq j7) (tm 74) (.cst (iv 0)))]
def b3W:List CO:= [
  mV 76 17,
 .op none none (.store 1 (tm 12) (.cst i7)),
 .op none none (.store 1 (tm 13) (tm 76))]
def a6c:List CO:= [
  lD 77 12,
 fA 78 3 15,
 lD 79 78,
 O 80 (.sl 1 false (tm 77) (some (tm 79)) none none),
 mV 81 18,
 fA 82 1 15,
 lD 83 82,
 fA 84 2 15,
 lD 85 84,
 O 86 (.sl 1 false (tm 81) (some (tm 83)) (some (tm 85)) none),
 O 87 (.copy 1 (tm 80) (tm 86))]
def a6g:List CO:= [
  lD 88 12,
 .op none none (.store 1 (tm 12) (tm 88)),
 .op none none (.store 1 (tm 13) (.cst (iv 0)))]
noncomputable def B1:Code:=a38 (Tryz.prog.funcs[59]?)
noncomputable def b30:CC:=(.reg a6z)
theorem e3V:i8 Tryz.prog ((sL B1))=b30:=by kernel_rfl
noncomputable def b3X:CC:=(.block 0 (.seq (.reg a6B) (.cond (tm 19) (.seq (.reg b4i) .ret) (.seq (.reg a6G) (.cond (tm 26) (.seq (.reg b4p) .ret) .skip)))))
theorem e34:i8 Tryz.prog ((sL (sR B1)))=b3X:=by kernel_rfl
noncomputable def b3P:CC:=(.reg a6t)
theorem e37:i8 Tryz.prog ((sL (sR (sR B1))))=b3P:=by kernel_rfl
noncomputable def b3N:CC:=(.seq (.reg a6I) (.cond (tm 38) (.seq (.drawn b4d [(0,0),(0,2)]) .ret) .skip))
theorem e4d:i8 Tryz.prog ((sL (sR (sR (sR B1)))))=b3N:=by kernel_rfl
noncomputable def b3V:CC:=(.drawn a6s [(0,0),(5,0),(6,0)])
theorem e4b:i8 Tryz.prog ((sL (sR (sR (sR (sR B1))))))=b3V:=by kernel_rfl
noncomputable def b3S:CC:=(.reg a6r)
theorem e3U:i8 Tryz.prog ((sL (sR (sR (sR (sR (sR B1)))))))=b3S:=by kernel_rfl
noncomputable def b3T:CC:=(.reg a6l)
theorem e4e:i8 Tryz.prog ((sL (sL (sR (sR (sR (sR (sR (sR B1)))))))))=b3T:=by kernel_rfl
noncomputable def e31:CC:=(.reg e4c)
theorem e38:i8 Tryz.prog ((rAs (bB (sR (sL (sR (sR (sR (sR (sR (sR B1)))))))))))=e31:=by kernel_rfl
noncomputable def a6k:CC:=(.block 2 (.seq (.reg a2R) (.seq (.seq (.reg a2U) (.cond (tm 64) (.seq (.reg b3Q) .ret) .skip)) (.seq (.seq (.reg a2T) (.cond (tm 67) (.exit 2) .skip)) (.seq (.reg a6d) (.seq (.seq (.reg a6n) (.cond (tm 75) (.seq (.reg b3W) .ret) .skip)) (.drawn a6c [(0,0),(2,0),(3,0),(6,0),(8,0),(9,0)])))))))
theorem e3X:i8 Tryz.prog ((rBd (bB (sR (sL (sR (sR (sR (sR (sR (sR B1)))))))))))=a6k:=by kernel_rfl
theorem e3O:cO (rF (bB (sR (sL (sR (sR (sR (sR (sR (sR B1))))))))))=(tm 52):=by kernel_rfl
theorem e3F:(rPs (bB (sR (sL (sR (sR (sR (sR (sR (sR B1)))))))))).toList= [53] :=by kernel_rfl
noncomputable def b3O:CC:=(.seq (.reg a6g) .ret)
theorem e39:i8 Tryz.prog ((sR (sR (sR (sR (sR (sR (sR B1))))))))=b3O:=by kernel_rfl
noncomputable def b3l:Code:=(.seq (sL B1) (.seq (sL (sR B1)) (.seq (sL (sR (sR B1))) (.seq (sL (sR (sR (sR B1)))) (.seq (sL (sR (sR (sR (sR B1))))) (.seq (sL (sR (sR (sR (sR (sR B1)))))) (.seq (.seq (sL (sL (sR (sR (sR (sR (sR (sR B1)))))))) (.block 1 (.rangeFunc (rF (bB (sR (sL (sR (sR (sR (sR (sR (sR B1)))))))))) (rPs (bB (sR (sL (sR (sR (sR (sR (sR (sR B1)))))))))) (rAs (bB (sR (sL (sR (sR (sR (sR (sR (sR B1)))))))))) (rBd (bB (sR (sL (sR (sR (sR (sR (sR (sR B1))))))))))))) (sR (sR (sR (sR (sR (sR (sR B1))))))))))))))
theorem e27:Tryz.f59.body=some b3l:=by kernel_rfl
theorem e2W:u6 Tryz.f59.ntmps b3l=true:=by kernel_rfl
theorem e3P:y7 (pth 59) tb.fs=some Tryz.f59:=by rw[i6];exact X7 Tryz.func59
theorem e3o:Tryz.f59.results.toList= [.cell 12 B3,.cell 13 j7] :=rfl
def d6q:List CO:= [
  O 2 (.box B3 (tm 0)),
 O 3 (.box b0 (tm 1)),
 O 4 (.mv (.cst b1h))]
def d0N:List CO:= [
  lD 5 3,
 O 6 (.lt (B .lss b0) (tm 5) (.cst (iv 1)))]
def f00:List CO:= [
  O 7 (.mkI D6 (.cst (tv [99,97,110,110,111,116,32,98,101,32,108,101,115,115,32,116,104,97,110,32,49]))),
 .op none none (.none)]
def d1k:List CO:= [
  O 8 (.fn a0T [(tm 2),(tm 3)]),
 mV 4 8]
def d0M:List CO:= [
  O 2 (.alloc o7 2 [(iv 0),(tv [])]),
 O 3 (.mv (.cst (iv 0)))]
def d7X:List CO:= [
  mV 9 0,
 O 10 (.len false (tm 9)),
 O 11 (.ne (B .neq b0) (tm 10) (.cst (iv 16)))]
def f1R:List CO:= [
  O 12 (.build [(iv 0),(tv [])] []),
 .op none none (.store 2 (tm 2) (tm 12)),
 O 3 (.mv (.cst (iv 4)))]
def c7Y:List CO:= [
  mV 14 0,
 C 15 b0x [(tm 14),(.cst (iv 2)),(.cst (iv 13))],
 mV 13 15,
 eX 16 0 13,
 eX 17 1 13,
 mV 4 16,
 mV 5 17]
def c8c:List CO:= [
  mV 18 5,
 O 19 (.ne (B .neq j7) (tm 18) (.cst (iv 0)))]
def f2i:List CO:= [
  O 20 (.build [(iv 0),(tv [])] []),
 .op none none (.store 2 (tm 2) (tm 20)),
 O 3 (.mv (.cst (iv 4)))]
def d8n:List CO:= [
  mV 21 0,
 O 22 (.build [i7,(iv 0)] [(0,1,(tm 21)),(1,1,(.cst (iv 0)))]),
 O 23 (.box H2 (tm 22)),
 mV 6 23]
def c90:List CO:= [
  mV 24 6,
 C 25 a2j [(tm 24),(.cst (iv 2))],
 mV 26 4,
 O 27 (.build [(iv 0),(tv [])] [(0,1,(tm 25)),(1,1,(tm 26))]),
 O 7 (.alloc o7 2 [(iv 0),(tv [])]),
 .op none none (.store 2 (tm 7) (tm 27))]
def c8Q:List CO:= [
  O 29 (.loadN 2 (tm 7)),
 C 30 a5l [(tm 29)],
 mV 28 30,
 eX 31 0 28,
 eX 32 1 28,
 mV 8 31,
 mV 5 32]
def c7C:List CO:= [
  O 33 (.loadN 2 (tm 7)),
 mV 34 0,
 mV 35 8,
 mV 36 5,
 C 37 b0d [(tm 33),(tm 34),(tm 35),(tm 36)],
 eX 38 0 37,
 eX 39 1 37,
 .op none none (.store 2 (tm 2) (tm 38)),
 mV 3 39]
def a4G:List CO:= [
  O 6 (.mv (.cst (iv 20)))]
def a4E:List CO:= [
  mV 10 6,
 O 7 (.mv (.cst (iv 0))),
 mV 8 10]
def a1N:List CO:= [
  mV 11 8,
 mV 12 1,
 O 13 (.le (B .leq b0) (tm 11) (tm 12))]
def d1E:List CO:= [
  mV 14 0,
 mV 15 7,
 mV 16 8,
 mV 17 2,
 C 18 P2 [(tm 14),(tm 15),(tm 16),(tm 17)]]
def d5F:List CO:= [
  mV 19 8,
 mV 7 19]
def d7g:List CO:= [
  mV 20 8,
 mV 21 6,
 O 22 (.add (B .add b0) (tm 20) (tm 21)),
 mV 8 22]
def a4e:List CO:= [
  mV 23 0,
 mV 24 7,
 mV 25 1,
 mV 26 2,
 C 27 P2 [(tm 23),(tm 24),(tm 25),(tm 26)]]
def a4M:List CO:= [
  mV 28 6,
 mV 29 1,
 O 30 (.lt (B .lss b0) (tm 28) (tm 29))]
def f1E:List CO:= [
  mV 31 6,
 O 32 (.mul (B .mul b0) (.cst (iv 2)) (tm 31)),
 O 7 (.mv (.cst (iv 0))),
 mV 8 32]
def f0m:List CO:= [
  mV 33 8,
 mV 34 1,
 O 35 (.le (B .leq b0) (tm 33) (tm 34))]
def e8y:List CO:= [
  mV 36 0,
 mV 37 7,
 mV 38 7,
 mV 39 6,
 O 40 (.add (B .add b0) (tm 38) (tm 39)),
 mV 41 8,
 mV 42 2,
 C 43 b1k [(tm 36),(tm 37),(tm 40),(tm 41),(tm 42)]]
def e8C:List CO:= [
  mV 44 8,
 mV 7 44]
def e8q:List CO:= [
  mV 45 8,
 mV 46 6,
 O 47 (.mul (B .mul b0) (.cst (iv 2)) (tm 46)),
 O 48 (.add (B .add b0) (tm 45) (tm 47)),
 mV 8 48]
def e8Y:List CO:= [
  mV 49 7,
 mV 50 6,
 O 51 (.add (B .add b0) (tm 49) (tm 50)),
 mV 9 51]
def e8I:List CO:= [
  mV 52 9,
 mV 53 1,
 O 54 (.lt (B .lss b0) (tm 52) (tm 53))]
def e9k:List CO:= [
  mV 55 0,
 mV 56 7,
 mV 57 9,
 mV 58 1,
 mV 59 2,
 C 60 b1k [(tm 55),(tm 56),(tm 57),(tm 58),(tm 59)]]
def e9h:List CO:= [
  mV 61 6,
 O 62 (.mul (B .mul b0) (tm 61) (.cst (iv 2))),
 mV 6 62]
def c92:List CO:= [
  O 2 (.mv (.cst (.b false)))]
def c7v:List CO:= [
  mV 3 0,
 mV 4 0,
 O 5 (.ne (B .neq D6) (tm 3) (tm 4)),
 mV 2 5]
def a9H:List CO:= [
  O 5 (.box D5 (tm 2)),
 O 6 (.mv (.cst (iv 0))),
 O 7 (.mv (.cst (iv 0)))]
def a9C:List CO:= [
  fA 12 1 5,
 lD 13 12,
 O 14 (.eq (B .eql b0) (tm 13) (.cst (iv 0)))]
def d71:List CO:= [
  mV 16 0,
 mV 17 1,
 fA 18 0 5,
 lD 19 18,
 C 20 a0c [(tm 16),(tm 17),(tm 19)],
 mV 15 20,
 eX 21 0 15,
 eX 22 1 15,
 O 8 (.alloc x7 13 [(iv 0),(iv 0),(iv 0),(iv 0),(iv 0),(iv 0),(iv 0),(iv 0),(iv 0),(iv 0),(iv 0),(iv 0),(iv 0)]),
 .op none none (.store 13 (tm 8) (tm 21)),
 mV 9 22]
def d18:List CO:= [
  fA 23 2 5,
 lD 24 23,
 C 25 a5h [(tm 8),(tm 24)],
 nL 26 25,
 lD 27 26,
 mV 28 9,
 mV 6 27,
 mV 7 28]
def d2I:List CO:= [
  mV 30 1,
 fA 31 1 5,
 lD 32 31,
 C 33 M2 [(tm 30),(tm 32)],
 mV 29 33,
 eX 34 0 29,
 eX 35 1 29,
 mV 10 34,
 mV 11 35]
def d1U:List CO:= [
  mV 36 11,
 O 37 (.ne (B .neq j7) (tm 36) (.cst (iv 0)))]
def f0c:List CO:= [
  mV 38 11,
 O 6 (.mv (.cst (iv 0))),
 mV 7 38]
def c98:List CO:= [
  mV 39 10,
 fA 40 2 5,
 lD 41 40,
 O 42 (.mul (B .mul b0) (.cst (iv 2)) (tm 41)),
 C 43 a20 [(tm 39),(tm 42),(.cst (iv 2))],
 eX 44 0 43,
 eX 45 1 43,
 mV 6 44,
 mV 7 45]
def a3S:List CO:= [
  O 4 (.mv (.cst l9))]
def a3Y:List CO:= [
  mV 5 1]
def a4l:List CO:= [
  O 7 (.eq (B .eql b0) (tm 5) (.cst (iv 8))),
 mV 6 7]
def d8C:List CO:= [
  mV 8 0,
 nL 9 8,
 fA 10 11 9,
 mV 4 10]
def a94:List CO:= [
  O 12 (.eq (B .eql b0) (tm 5) (.cst (iv 9))),
 mV 11 12]
def d1r:List CO:= [
  mV 13 0,
 nL 14 13,
 fA 15 12 14,
 mV 4 15]
def d5x:List CO:= [
  mV 16 0,
 mV 17 1,
 nL 18 16,
 fA 19 3 18,
 O 20 (.iaA 8 1 (tm 19) (tm 17)),
 mV 4 20]
def c77:List CO:= [
  O 4 (.mv (.cst (iv 0)))]
def d9f:List CO:= [
  mV 6 0,
 O 7 (.len false (tm 6)),
 O 8 (.mv (.cst (iv 0)))]
def a4D:List CO:= [
  O 9 (.lt (B .lss b0) (tm 8) (tm 7))]
def a8v:List CO:= [
  mV 10 8,
 mV 5 10]
def a9J:List CO:= [
  mV 11 1,
 mV 12 0,
 mV 13 5,
 O 14 (.iaS 2 (tm 12) (tm 13)),
 O 15 (.loadN 2 (tm 14)),
 .call (some (pth 16)) none (tm 11) [(tm 15)]]
def c9g:List CO:= [
  mV 17 5,
 mV 4 17]
def d0k:List CO:= [
  O 18 (.add (B .add b0) (tm 8) (.cst (iv 1))),
 mV 8 18]
def d7U:List CO:= [
  O 4 (.mv (.cst (iv (-1))))]
def c8e:List CO:= [
  O 2 (.box o7 (tm 0)),
 O 3 (.mv (.cst (.b false)))]
def c8n:List CO:= [
  fA 4 1 2,
 lD 5 4,
 lD 6 1,
 O 7 (.eq (B .eql D6) (tm 5) (tm 6)),
 mV 3 7]
def c50:List CO:= [
  O 1 (.box o7 (tm 0)),
 O 2 (.mv (.cst i7)),
 O 3 (.mv (.cst (iv 0)))]
def d0G:List CO:= [
  fA 6 0 1,
 lD 7 6,
 O 8 (.eq (B .eql b0) (tm 7) (.cst (iv 0))),
 mV 9 8,
 G 10 9 true (.fa 1 (tm 1)),
 G 11 9 true (.load (tm 10)),
 G 12 9 true (.ne (B .neq D6) (tm 11) (.cst (tv []))),
 O 13 (.pick (tm 9) (tm 12) (.cst (.b false))),
 mV 5 13]
def f0V:List CO:= [
  O 2 (.mv (.cst i7)),
 O 3 (.mv (.cst (iv 4)))]
def d1X:List CO:= [
  fA 15 0 1,
 lD 16 15,
 O 17 (.ne (B .neq b0) (tm 16) (.cst (iv 0))),
 mV 18 17,
 G 19 18 true (.fa 1 (tm 1)),
 G 20 18 true (.load (tm 19)),
 .call (some (pth 21)) (some (pth 18,true)) (.cst (.func a2t [])) [(tm 20)],
 G 22 18 true (.ne (B .neq j7) (tm 21) (.cst (iv 0))),
 O 23 (.pick (tm 18) (tm 22) (.cst (.b false))),
 mV 14 23]
def f1z:List CO:= [
  O 2 (.mv (.cst i7)),
 O 3 (.mv (.cst (iv 16)))]
def d8h:List CO:= [
  O 24 (.build [i7,(iv 0)] []),
 O 25 (.box a0h (tm 24)),
 mV 4 25]
def d1Q:List CO:= [
  mV 26 4,
 fA 27 0 1,
 lD 28 27,
 C 29 a0U [(tm 26),(.cst (iv 2)),(tm 28)]]
def d4G:List CO:= [
  mV 30 4,
 mV 31 4,
 nL 32 31,
 fA 33 0 32,
 lD 34 33,
 fA 35 1 1,
 lD 36 35,
 O 37 (.app j6 1 1 [(.y 0)] (tm 34) (tm 36)),
 nL 38 30,
 fA 39 0 38,
 .op none none (.store 1 (tm 39) (tm 37))]
def c8Y:List CO:= [
  mV 40 4,
 C 41 a5m [(tm 40),(.cst (iv 16))],
 eX 42 0 41,
 eX 43 1 41,
 mV 2 42,
 mV 3 43]
def a6m:List CO:= [
  O 6 (.box E6 (tm 0)),
 O 7 (.box F6 (tm 1)),
 O 8 (.box x9 (tm 2)),
 O 9 (.box b0 (tm 3)),
 O 10 (.box b0 (tm 4)),
 O 11 (.box B3 (tm 5)),
 O 12 (.alloc j7 1 [(iv 0)])]
def a6q:List CO:= [
  lD 24 10,
 O 25 (.lt (B .lss b0) (tm 24) (.cst (iv 0)))]
def b3U:List CO:= [
  .op none none (.store 1 (tm 12) (.cst (iv 1)))]
def a6p:List CO:= [
  O 27 (.loadN 12 (tm 8)),
 C 28 a2Q [(tm 27)],
 mV 26 28,
 eX 29 0 26,
 eX 30 1 26,
 mV 13 29,
 mV 14 30]
def a6b:List CO:= [
  mV 31 14,
 O 32 (.ne (B .neq j7) (tm 31) (.cst (iv 0))),
 mV 33 32,
 G 34 33 false (.load (tm 11)),
 G 35 33 false (.len false (tm 34)),
 G 36 33 false (.gt (B .gtr b0) (tm 35) (.cst (iv 4096))),
 O 37 (.pick (tm 33) (.cst (.b true)) (tm 36)),
 mV 38 37,
 G 39 38 false (.load (tm 10)),
 G 40 38 false (.mv (tm 13)),
 G 41 38 false (.load (tm 11)),
 G 42 38 false (.len false (tm 41)),
 G 43 38 false (.sub (B .sub b0) (tm 40) (tm 42)),
 G 44 38 false (.gt (B .gtr b0) (tm 39) (tm 43)),
 O 45 (.pick (tm 38) (.cst (.b true)) (tm 44))]
def b3R:List CO:= [
  .op none none (.store 1 (tm 12) (.cst (iv 5)))]
def a6f:List CO:= [
  lD 47 6,
 lD 48 7,
 O 49 (.loadN 12 (tm 8)),
 lD 50 9,
 C 51 a49 [(tm 47),(tm 48),(tm 49),(tm 50)],
 mV 46 51,
 eX 52 0 46,
 eX 53 1 46,
 O 15 (.alloc a1h 1 [l9]),
 .op none none (.store 1 (tm 15) (tm 52)),
 mV 16 53]
def a6i:List CO:= [
  mV 54 16,
 O 55 (.ne (B .neq j7) (tm 54) (.cst (iv 0))),
 mV 56 55,
 G 57 56 false (.load (tm 11)),
 G 58 56 false (.len false (tm 57)),
 G 59 56 false (.eq (B .eql b0) (tm 58) (.cst (iv 0))),
 O 60 (.pick (tm 56) (.cst (.b true)) (tm 59))]
def b32:List CO:= [
  mV 61 16,
 .op none none (.store 1 (tm 12) (tm 61))]
def a2S:List CO:= [
  lD 62 10,
 lD 63 11,
 O 64 (.len false (tm 63)),
 O 65 (.add (B .add b0) (tm 62) (tm 64)),
 lD 66 15,
 nL 67 66,
 fA 68 15 67,
 fA 69 2 68,
 lD 70 69,
 O 71 (.gt (B .gtr b0) (tm 65) (tm 70))]
def a5U:List CO:= [
  lD 72 15,
 lD 73 15,
 nL 74 73,
 fA 75 15 74,
 fA 76 2 75,
 lD 77 76,
 C 78 b0t [(tm 72),(tm 77)],
 mV 17 78]
def a5V:List CO:= [
  mV 79 17,
 O 80 (.ne (B .neq j7) (tm 79) (.cst (iv 0)))]
def b3x:List CO:= [
  mV 81 17,
 .op none none (.store 1 (tm 12) (tm 81))]
def a51:List CO:= [
  O 82 (.fn a5n [(tm 8),(tm 10),(tm 11)])]
def e3K:List CO:= [
  O 18 (.alloc J4 4 [(iv 0),(iv 0),(iv 0),(iv 0)]),
 .op none none (.store 4 (tm 18) (tm 83))]
def a5T:List CO:= [
  lD 85 7,
 lD 86 6,
 lD 87 9,
 fA 88 0 18,
 lD 89 88,
 C 90 b0m [(tm 85),(tm 86),(tm 87),(tm 89)],
 mV 84 90,
 eX 91 0 84,
 eX 92 1 84,
 eX 93 2 84,
 mV 19 91,
 mV 20 92,
 mV 21 93]
def a1i:List CO:= [
  mV 94 21,
 O 95 (.ne (B .neq j7) (tm 94) (.cst (iv 0)))]
def a6a:List CO:= [
  mV 96 21,
 .op none none (.store 1 (tm 12) (tm 96))]
def a2O:List CO:= [
  fA 97 0 8,
 lD 98 97,
 O 99 (.mksl j6 1 1 [(.y 0)] (tm 98) (tm 98)),
 mV 22 99]
def a2P:List CO:= [
  mV 100 20,
 O 101 (.un .not (tm 100))]
def a50:List CO:= [
  lD 103 6,
 mV 104 19,
 C 105 M2 [(tm 103),(tm 104)],
 mV 102 105,
 eX 106 0 102,
 eX 107 1 102,
 mV 22 106,
 mV 21 107]
def a5Y:List CO:= [
  mV 108 21,
 O 109 (.ne (B .neq j7) (tm 108) (.cst (iv 0)))]
def b3B:List CO:= [
  mV 110 21,
 .op none none (.store 1 (tm 12) (tm 110))]
def a2N:List CO:= [
  mV 111 22,
 fA 112 1 18,
 lD 113 112,
 fA 114 2 18,
 lD 115 114,
 O 116 (.sl 1 false (tm 111) (some (tm 113)) (some (tm 115)) none),
 lD 117 11,
 fA 118 3 18,
 lD 119 118,
 O 120 (.sl 1 false (tm 117) (some (tm 119)) none none),
 O 121 (.copy 1 (tm 116) (tm 120))]
def a55:List CO:= [
  lD 122 15,
 mV 123 19,
 mV 124 22,
 C 125 a5g [(tm 122),(tm 123),(tm 124)],
 mV 23 125]
def a58:List CO:= [
  mV 126 23,
 O 127 (.ne (B .neq j7) (tm 126) (.cst (iv 0)))]
def b3K:List CO:= [
  mV 128 23,
 .op none none (.store 1 (tm 12) (tm 128))]
def a5Z:List CO:= [
  lD 129 6,
 lD 130 7,
 lD 131 9,
 lD 132 10,
 lD 133 11,
 O 134 (.len false (tm 133)),
 O 135 (.add (B .add b0) (tm 132) (tm 134)),
 C 136 b0G [(tm 129),(tm 130),(tm 131),(tm 135)],
 .op none none (.store 1 (tm 12) (tm 136))]
noncomputable def z7:Code:=a38 (Tryz.prog.funcs[73]?)
noncomputable def b3w:CC:=(.reg a6m)
theorem e3s:i8 Tryz.prog ((sL z7))=b3w:=by kernel_rfl
noncomputable def b3G:CC:=(.seq (.reg a6q) (.cond (tm 25) (.seq (.reg b3U) .ret) .skip))
theorem e3D:i8 Tryz.prog ((sL (sR z7)))=b3G:=by kernel_rfl
noncomputable def b3D:CC:=(.seq (.reg a6p) (.seq (.reg a6b) (.cond (tm 45) (.seq (.reg b3R) .ret) .skip)))
theorem e3B:i8 Tryz.prog ((sL (sR (sR z7))))=b3D:=by kernel_rfl
noncomputable def b3z:CC:=(.reg a6f)
theorem e3E:i8 Tryz.prog ((sL (sR (sR (sR z7)))))=b3z:=by kernel_rfl
noncomputable def b3C:CC:=(.seq (.reg a6i) (.cond (tm 60) (.seq (.reg b32) .ret) .skip))
theorem e3J:i8 Tryz.prog ((sL (sR (sR (sR (sR z7))))))=b3C:=by kernel_rfl
noncomputable def b3A:CC:=(.seq (.drawn a2S [(0,0),(1,0),(4,0),(8,0)]) (.cond (tm 71) (.seq (.drawn a5U [(0,0),(1,0),(5,0)]) (.seq (.reg a5V) (.cond (tm 80) (.seq (.reg b3x) .ret) .skip))) .skip))
theorem e3t:i8 Tryz.prog ((sL (sR (sR (sR (sR (sR z7)))))))=b3A:=by kernel_rfl
noncomputable def b3H:CC:=(.reg a51)
theorem e3x:i8 Tryz.prog ((sL (sL (sR (sR (sR (sR (sR (sR z7)))))))))=b3H:=by kernel_rfl
noncomputable def e3C:CC:=(.reg e3K)
theorem e3u:i8 Tryz.prog ((rAs (bB (sR (sL (sR (sR (sR (sR (sR (sR z7)))))))))))=e3C:=by kernel_rfl
noncomputable def a56:CC:=(.block 1 (.seq (.reg a5T) (.seq (.seq (.reg a1i) (.cond (tm 95) (.seq (.reg a6a) .ret) .skip)) (.seq (.reg a2O) (.seq (.seq (.reg a2P) (.cond (tm 101) (.seq (.reg a50) (.seq (.reg a5Y) (.cond (tm 109) (.seq (.reg b3B) .ret) .skip))) .skip)) (.seq (.drawn a2N [(2,0),(4,0),(5,0),(6,0),(8,0),(9,0)]) (.seq (.reg a55) (.seq (.reg a58) (.cond (tm 127) (.seq (.reg b3K) .ret) .skip)))))))))
theorem e3r:i8 Tryz.prog ((rBd (bB (sR (sL (sR (sR (sR (sR (sR (sR z7)))))))))))=a56:=by kernel_rfl
theorem e3a:cO (rF (bB (sR (sL (sR (sR (sR (sR (sR (sR z7))))))))))=(tm 82):=by kernel_rfl
theorem e3m:(rPs (bB (sR (sL (sR (sR (sR (sR (sR (sR z7)))))))))).toList= [83] :=by kernel_rfl
noncomputable def b3F:CC:=(.seq (.reg a5Z) .ret)
theorem e3Q:i8 Tryz.prog ((sR (sR (sR (sR (sR (sR (sR z7))))))))=b3F:=by kernel_rfl
noncomputable def b2X:Code:=(.seq (sL z7) (.seq (sL (sR z7)) (.seq (sL (sR (sR z7))) (.seq (sL (sR (sR (sR z7)))) (.seq (sL (sR (sR (sR (sR z7))))) (.seq (sL (sR (sR (sR (sR (sR z7)))))) (.seq (.seq (sL (sL (sR (sR (sR (sR (sR (sR z7)))))))) (.block 0 (.rangeFunc (rF (bB (sR (sL (sR (sR (sR (sR (sR (sR z7)))))))))) (rPs (bB (sR (sL (sR (sR (sR (sR (sR (sR z7)))))))))) (rAs (bB (sR (sL (sR (sR (sR (sR (sR (sR z7)))))))))) (rBd (bB (sR (sL (sR (sR (sR (sR (sR (sR z7))))))))))))) (sR (sR (sR (sR (sR (sR (sR z7))))))))))))))
theorem e2X:Tryz.f73.body=some b2X:=by kernel_rfl
theorem e2U:u6 Tryz.f73.ntmps b2X=true:=by kernel_rfl
theorem e3l:y7 (pth 73) tb.fs=some Tryz.f73:=by rw[i6];exact X7 Tryz.func73
theorem e24:Tryz.f73.results.toList= [.cell 12 j7] :=rfl
def a4b:List CO:= [
  O 4 (.mv (.cst (iv 0)))]
def a4z:List CO:= [
  mV 9 1,
 mV 10 0,
 nL 11 10,
 fA 12 2 11,
 fA 13 0 12,
 lD 14 13,
 O 15 (.rem (B .rem b0) (tm 9) (tm 14)),
 mV 5 15]
def a4k:List CO:= [
  mV 16 5,
 O 17 (.eq (B .eql b0) (tm 16) (.cst (iv 0)))]
def d0W:List CO:= [
  O 4 (.mv (.cst (iv 0)))]
def a9e:List CO:= [
  mV 19 0,
 nL 20 19,
 fA 21 1 20,
 lD 22 21,
 mV 23 0,
 nL 24 23,
 fA 25 0 24,
 lD 26 25,
 mV 27 0,
 nL 28 27,
 fA 29 14 28,
 lD 30 29,
 mV 31 1,
 mV 32 0,
 nL 33 32,
 fA 34 2 33,
 fA 35 0 34,
 lD 36 35,
 O 37 (.quo (B .quo b0) (tm 31) (tm 36)),
 C 38 a2h [(tm 22),(tm 26),(tm 30),(tm 37)],
 mV 18 38,
 eX 39 0 18,
 eX 40 1 18,
 mV 6 39,
 mV 7 40]
def a81:List CO:= [
  mV 41 7,
 O 42 (.ne (B .neq j7) (tm 41) (.cst (iv 0))),
 mV 43 42,
 G 44 43 false (.mv (tm 6)),
 G 45 43 false (.eq (B .eql b0) (tm 44) (.cst (iv 0))),
 O 46 (.pick (tm 43) (.cst (.b true)) (tm 45))]
def c8T:List CO:= [
  mV 47 7,
 mV 4 47]
def d7u:List CO:= [
  mV 49 0,
 nL 50 49,
 fA 51 0 50,
 lD 52 51,
 mV 53 6,
 C 54 M2 [(tm 52),(tm 53)],
 mV 48 54,
 eX 55 0 48,
 eX 56 1 48,
 mV 8 55,
 mV 7 56]
def d5i:List CO:= [
  mV 57 7,
 O 58 (.ne (B .neq j7) (tm 57) (.cst (iv 0)))]
def f0F:List CO:= [
  mV 59 7,
 mV 4 59]
def c4m:List CO:= [
  mV 60 8,
 mV 61 5,
 O 62 (.sl 1 false (tm 60) (some (tm 61)) none none),
 .op none none (.clrs [(.y 0)] (tm 62))]
def c3o:List CO:= [
  mV 63 0,
 mV 64 6,
 mV 65 8,
 C 66 a5g [(tm 63),(tm 64),(tm 65)],
 mV 4 66]
def a4i:List CO:= [
  O 4 (.mv (.cst i7)),
 O 5 (.mv (.cst (iv 0)))]
def a4u:List CO:= [
  mV 11 0,
 C 12 a5o [(tm 11)],
 mV 6 12]
def a3Q:List CO:= [
  mV 13 6,
 O 14 (.ne (B .neq j7) (tm 13) (.cst (iv 0)))]
def f2l:List CO:= [
  mV 15 6,
 O 4 (.mv (.cst i7)),
 mV 5 15]
def a4a:List CO:= [
  mV 16 0,
 nL 17 16,
 fA 18 1 17,
 lD 19 18,
 mV 20 0,
 nL 21 20,
 fA 22 2 21,
 lD 23 22,
 O 24 (.bslice b3y 2 2 [b04] [(0,1,(tm 19)),(1,1,(tm 23))]),
 O 25 (.len false (tm 24)),
 O 26 (.mv (.cst (iv 0)))]
def Y7:List CO:= [
  O 27 (.lt (B .lss b0) (tm 26) (tm 25))]
def a0A:List CO:= [
  O 28 (.iaS 1 (tm 24) (tm 26)),
 lD 29 28,
 mV 8 29]
def a0J:List CO:= [
  mV 31 8,
 mV 32 1,
 O 33 (.look (some .i64) i7 true (tm 31) (tm 32)),
 mV 30 33,
 eX 34 0 30,
 eX 35 1 30,
 mV 9 34,
 mV 10 35]
def a0D:List CO:= [
  mV 36 10]
def a9P:List CO:= [
  mV 37 9,
 C 38 V5 [(tm 37)],
 mV 4 38,
 O 5 (.mv (.cst (iv 0)))]
def a3E:List CO:= [
  O 39 (.add (B .add b0) (tm 26) (.cst (iv 1))),
 mV 26 39]
def b9U:List CO:= [
  mV 40 0,
 nL 41 40,
 fA 42 0 41,
 lD 43 42,
 mV 44 1,
 C 45 b0i [(tm 43),(tm 44)],
 eX 46 0 45,
 eX 47 1 45,
 mV 4 46,
 mV 5 47]
def a9z:List CO:= [
  mV 8 2,
 O 9 (.len false (tm 8)),
 O 10 (.mv (.cst (iv 0)))]
def a0z:List CO:= [
  O 11 (.lt (B .lss b0) (tm 10) (tm 9))]
def a4g:List CO:= [
  O 12 (.iaS 1 (tm 8) (tm 10)),
 lD 13 12,
 mV 7 13]
def a4t:List CO:= [
  mV 14 7,
 mV 15 0,
 mV 16 1,
 C 17 a2j [(tm 15),(tm 16)],
 nL 18 14,
 .op none none (.store 1 (tm 18) (tm 17))]
def a4S:List CO:= [
  O 19 (.add (B .add b0) (tm 10) (.cst (iv 1))),
 mV 10 19]
def d7S:List CO:= [
  O 4 (.mv (.cst (iv 0)))]
def c7M:List CO:= [
  mV 8 0,
 nL 9 8,
 fA 10 0 9,
 lD 11 10,
 mV 12 0,
 nL 13 12,
 fA 14 1 13,
 lD 15 14,
 mV 16 1,
 C 17 a20 [(tm 11),(tm 15),(tm 16)],
 mV 7 17,
 eX 18 0 7,
 eX 19 1 7,
 mV 5 18,
 mV 6 19]
def d5Z:List CO:= [
  mV 20 0,
 nL 21 20,
 fA 22 1 21,
 lD 23 22,
 mV 24 1,
 O 25 (.add (B .add b0) (tm 23) (tm 24)),
 nL 26 20,
 fA 27 1 26,
 .op none none (.store 1 (tm 27) (tm 25))]
def d5L:List CO:= [
  mV 28 5,
 mV 4 28]
def c8E:List CO:= [
  O 4 (.box x7 (tm 0)),
 O 8 (.alloc x7 13 [(iv 0),(iv 0),(iv 0),(iv 0),(iv 0),(iv 0),(iv 0),(iv 0),(iv 0),(iv 0),(iv 0),(iv 0),(iv 0)]),
 O 9 (.mv (.cst (iv 0)))]
def c9k:List CO:= [
  mV 11 3,
 O 12 (.ne (B .neq j7) (tm 11) (.cst (iv 0))),
 mV 13 12,
 G 14 13 false (.mv (tm 1)),
 G 15 13 false (.mv (tm 2)),
 .call (some (pth 16)) (some (pth 13,false)) (.cst (.func a5v [])) [(tm 14),(tm 15)],
 G 17 13 false (.un .not (tm 16)),
 O 18 (.pick (tm 13) (.cst (.b true)) (tm 17))]
def f0j:List CO:= [
  O 10 (.alloc x7 13 [(iv 0),(iv 0),(iv 0),(iv 0),(iv 0),(iv 0),(iv 0),(iv 0),(iv 0),(iv 0),(iv 0),(iv 0),(iv 0)])]
def f1W:List CO:= [
  O 19 (.loadN 13 (tm 10)),
 .op none none (.store 13 (tm 8) (tm 19)),
 O 9 (.mv (.cst (iv 4)))]
def d3r:List CO:= [
  O 20 (.loadN 13 (tm 4)),
 .op none none (.store 13 (tm 8) (tm 20)),
 O 9 (.mv (.cst (iv 0)))]
def d5O:List CO:= [
  mV 9 1,
 O 10 (.mksl j6 1 1 [(.y 0)] (tm 9) (tm 9)),
 mV 11 1,
 mV 12 2,
 C 13 a0X [(tm 10),(.cst (iv 0)),(tm 11),(tm 12)],
 mV 8 13,
 eX 14 0 8,
 eX 15 1 8,
 mV 6 14,
 mV 7 15]
def d6W:List CO:= [
  mV 16 7,
 O 17 (.ne (B .neq j7) (tm 16) (.cst (iv 0))),
 mV 18 17,
 G 19 18 true (.mv (tm 0)),
 G 20 18 true (.nil (tm 19)),
 G 21 18 true (.fa 1 (tm 20)),
 G 22 18 true (.load (tm 21)),
 G 23 18 true (.eq (B .eql j7) (tm 22) (.cst (iv 0))),
 O 24 (.pick (tm 18) (tm 23) (.cst (.b false)))]
def f1J:List CO:= [
  mV 25 0,
 mV 26 7,
 nL 27 25,
 fA 28 1 27,
 .op none none (.store 1 (tm 28) (tm 26))]
def d7b:List CO:= [
  mV 29 0,
 mV 30 0,
 nL 31 30,
 fA 32 0 31,
 lD 33 32,
 mV 34 6,
 O 35 (.app j6 1 1 [(.y 0)] (tm 33) (tm 34)),
 nL 36 29,
 fA 37 0 36,
 .op none none (.store 1 (tm 37) (tm 35))]
def a9f:List CO:= [
  mV 8 2,
 O 9 (.len false (tm 8)),
 O 10 (.mv (.cst (iv 0)))]
def a1T:List CO:= [
  O 11 (.lt (B .lss b0) (tm 10) (tm 9))]
def a84:List CO:= [
  O 12 (.iaS 1 (tm 8) (tm 10)),
 lD 13 12,
 mV 7 13]
def a97:List CO:= [
  mV 14 0,
 mV 15 1,
 mV 16 7,
 C 17 a0U [(tm 14),(tm 15),(tm 16)]]
def a8x:List CO:= [
  O 18 (.add (B .add b0) (tm 10) (.cst (iv 1))),
 mV 10 18]
def c8U:List CO:= [
  O 4 (.mv (.cst i7)),
 O 5 (.mv (.cst (iv 0)))]
def d2R:List CO:= [
  mV 6 0,
 nL 7 6,
 fA 8 1 7,
 lD 9 8,
 O 10 (.ne (B .neq j7) (tm 9) (.cst (iv 0)))]
def f2h:List CO:= [
  mV 11 0,
 nL 12 11,
 fA 13 1 12,
 lD 14 13,
 O 4 (.mv (.cst i7)),
 mV 5 14]
def d5d:List CO:= [
  mV 15 0,
 nL 16 15,
 fA 17 0 16,
 lD 18 17,
 mV 19 1,
 mV 20 0,
 nL 21 20,
 fA 22 0 21,
 lD 23 22,
 O 24 (.len false (tm 23)),
 O 25 (.sub (B .sub b0) (tm 19) (tm 24)),
 O 26 (.appz j6 1 1 [(.y 0)] (tm 18) (tm 25)),
 mV 4 26,
 O 5 (.mv (.cst (iv 0)))]
def d9a:List CO:= [
  O 2 (.mv (.cst i7))]
def c54:List CO:= [
  mV 3 0,
 O 4 (.eq (B .eql B3) (tm 3) (.cst i7))]
def f0h:List CO:= [
  O 2 (.mv (.cst i7))]
def d4K:List CO:= [
  O 5 (.bslice j6 0 0 [(.y 0)] []),
 mV 6 0,
 O 7 (.app j6 1 1 [(.y 0)] (tm 5) (tm 6)),
 mV 2 7]
def a9Q:List CO:= [
  O 10 (.mv (.cst (iv 0)))]
def a9i:List CO:= [
  mV 12 0,
 C 13 a5o [(tm 12)],
 mV 11 13]
def a8y:List CO:= [
  mV 15 11,
 O 16 (.ne (B .neq j7) (tm 15) (.cst (iv 0))),
 mV 14 16]
def f0n:List CO:= [
  mV 17 11,
 mV 10 17]
def a8S:List CO:= [
  mV 19 3,
 mV 20 2,
 mV 21 0,
 nL 22 21,
 fA 23 0 22,
 lD 24 23,
 nL 25 24,
 fA 26 3 25,
 O 27 (.loadN 12 (tm 26)),
 .call (some (pth 28)) none (tm 20) [(tm 27)],
 O 29 (.lt (B .lss b0) (tm 19) (tm 28)),
 mV 30 29,
 G 31 30 false (.mv (tm 3)),
 G 32 30 false (.mv (tm 0)),
 G 33 30 false (.nil (tm 32)),
 G 34 30 false (.fa 0 (tm 33)),
 G 35 30 false (.load (tm 34)),
 G 36 30 false (.nil (tm 35)),
 G 37 30 false (.fa 3 (tm 36)),
 G 38 30 false (.fa 1 (tm 37)),
 G 39 30 false (.load (tm 38)),
 G 40 30 false (.ge (B .geq b0) (tm 31) (tm 39)),
 O 41 (.pick (tm 30) (.cst (.b true)) (tm 40)),
 mV 18 41]
def f1L:List CO:= [
  O 10 (.mv (.cst (iv 2)))]
def a8W:List CO:= [
  mV 43 4,
 O 44 (.len false (tm 43)),
 mV 45 0,
 nL 46 45,
 fA 47 0 46,
 lD 48 47,
 nL 49 48,
 fA 50 3 49,
 fA 51 0 50,
 lD 52 51,
 O 53 (.ne (B .neq b0) (tm 44) (tm 52)),
 mV 42 53]
def f0J:List CO:= [
  O 10 (.mv (.cst (iv 1)))]
def a9E:List CO:= [
  mV 54 0,
 mV 55 3,
 C 56 b0o [(tm 54),(tm 55)]]
def a9b:List CO:= [
  mV 57 1,
 mV 58 0,
 .call (some (pth 59)) none (tm 57) [(tm 58)],
 mV 60 3,
 mV 61 4,
 C 62 V5 [(tm 61)],
 .op none none (.mupd (some .i64) (tm 59) (tm 60) (tm 62))]
def a8c:List CO:= [
  O 10 (.mv (.cst (iv 0)))]
def d2p:List CO:= [
  O 2 (.mv (.cst b04))]
def d2q:List CO:= [
  mV 3 0,
 nL 4 3,
 fA 5 1 4,
 lD 6 5,
 mV 2 6]
def c8C:List CO:= [
  O 1 (.box x9 (tm 0)),
 O 2 (.mv (.cst (iv 0)))]
def d7E:List CO:= [
  fA 3 5 1,
 lD 4 3,
 mV 2 4]
def a9K:List CO:= [
  O 6 (.mv (.cst (.b false)))]
def a9v:List CO:= [
  mV 7 0,
 mV 8 1,
 O 9 (.ge (B .geq b0) (tm 7) (tm 8)),
 mV 10 9,
 G 11 10 true (.mv (tm 0)),
 G 12 10 true (.mv (tm 2)),
 G 13 10 true (.le (B .leq b0) (tm 11) (tm 12)),
 O 14 (.pick (tm 10) (tm 13) (.cst (.b false))),
 mV 6 14]
def d6g:List CO:= [
  O 2 (.mv (.cst (.b false)))]
def d9r:List CO:= [
  mV 3 0,
 O 4 (.ge (B .geq X5) (tm 3) (.cst (.p (.int .i32 (97))))),
 mV 5 4,
 G 6 5 true (.mv (tm 0)),
 G 7 5 true (.le (B .leq X5) (tm 6) (.cst (.p (.int .i32 (122))))),
 O 8 (.pick (tm 5) (tm 7) (.cst (.b false))),
 mV 9 8,
 G 10 9 false (.mv (tm 0)),
 G 11 9 false (.ge (B .geq X5) (tm 10) (.cst (.p (.int .i32 (48))))),
 G 12 9 false (.mv (tm 11)),
 G 13 12 true (.mv (tm 0)),
 G 14 12 true (.le (B .leq X5) (tm 13) (.cst (.p (.int .i32 (57))))),
 G 15 9 false (.pick (tm 12) (tm 14) (.cst (.b false))),
 O 16 (.pick (tm 9) (.cst (.b true)) (tm 15)),
 mV 17 16,
 G 18 17 false (.mv (tm 0)),
 G 19 17 false (.eq (B .eql X5) (tm 18) (.cst (.p (.int .i32 (46))))),
 O 20 (.pick (tm 17) (.cst (.b true)) (tm 19)),
 mV 21 20,
 G 22 21 false (.mv (tm 0)),
 G 23 21 false (.eq (B .eql X5) (tm 22) (.cst (.p (.int .i32 (95))))),
 O 24 (.pick (tm 21) (.cst (.b true)) (tm 23)),
 mV 25 24,
 G 26 25 false (.mv (tm 0)),
 G 27 25 false (.eq (B .eql X5) (tm 26) (.cst (.p (.int .i32 (45))))),
 O 28 (.pick (tm 25) (.cst (.b true)) (tm 27)),
 O 29 (.un .not (tm 28)),
 mV 2 29]
def d9k:List CO:= [
  O 4 (.mv (.cst (.b false)))]
def d2t:List CO:= [
  mV 5 0,
 mV 6 1,
 C 7 b0I [(tm 5),(tm 6)],
 O 8 (.ge (B .geq b0) (tm 7) (.cst (iv 0))),
 mV 4 8]
def d1h:List CO:= [
  fA 5 0 1,
 lD 6 5,
 lD 7 2,
 lD 8 3,
 mV 9 0,
 C 10 Z7 [(tm 6),(tm 7),(tm 8),(tm 9)]]
def c8t:List CO:= [
  O 8 (.mv (.cst (iv 0)))]
def a95:List CO:= [
  mV 11 8,
 mV 12 2,
 O 13 (.lt (B .lss b0) (tm 11) (tm 12))]
def d7W:List CO:= [
  mV 14 1,
 mV 15 8,
 O 16 (.add (B .add b0) (tm 14) (tm 15)),
 mV 17 0,
 O 18 (.rem (B .rem b0) (tm 16) (tm 17)),
 mV 9 18]
def d9q:List CO:= [
  mV 19 0,
 mV 20 9,
 mV 21 2,
 O 22 (.add (B .add b0) (tm 20) (tm 21)),
 mV 23 8,
 O 24 (.sub (B .sub b0) (tm 22) (tm 23)),
 O 25 (.min (tm 19) (tm 24)),
 mV 10 25]
def d7s:List CO:= [
  mV 26 3,
 mV 27 1,
 mV 28 8,
 O 29 (.add (B .add b0) (tm 27) (tm 28)),
 mV 30 0,
 O 31 (.quo (B .quo b0) (tm 29) (tm 30)),
 mV 32 9,
 mV 33 10,
 mV 34 8,
 O 35 (.build [(iv 0),(iv 0),(iv 0),(iv 0)] [(0,1,(tm 31)),(1,1,(tm 32)),(2,1,(tm 33)),(3,1,(tm 34))]),
 .call (some (pth 36)) none (tm 26) [(tm 35)],
 O 37 (.un .not (tm 36))]
def c7L:List CO:= [
  mV 38 8,
 mV 39 10,
 mV 40 9,
 O 41 (.sub (B .sub b0) (tm 39) (tm 40)),
 O 42 (.add (B .add b0) (tm 38) (tm 41)),
 mV 8 42]
def d2O:List CO:= [
  O 8 (.mv (.cst (iv 0))),
 O 9 (.mv (.cst (iv 0)))]
def d2f:List CO:= [
  mV 14 0,
 O 15 (.eqp false (B .eql F6) (tm 14) (.cst l9))]
def f0v:List CO:= [
  O 8 (.mv (.cst (iv 0))),
 O 9 (.mv (.cst (iv 1)))]
def d4n:List CO:= [
  mV 17 0,
 nL 18 17,
 fA 19 1 18,
 O 20 (.loadN 12 (tm 19)),
 mV 21 3,
 C 22 a42 [(tm 20),(tm 21)],
 mV 16 22,
 eX 23 0 16,
 eX 24 1 16,
 mV 10 23,
 mV 11 24]
def c8z:List CO:= [
  mV 25 11,
 O 26 (.ne (B .neq j7) (tm 25) (.cst (iv 0)))]
def f1X:List CO:= [
  mV 27 11,
 O 8 (.mv (.cst (iv 0))),
 mV 9 27]
def d4u:List CO:= [
  mV 28 2,
 O 29 (.build [(iv 0),(iv 0),(iv 0)] [(0,1,(tm 28))]),
 O 12 (.alloc D5 3 [(iv 0),(iv 0),(iv 0)]),
 .op none none (.store 3 (tm 12) (tm 29))]
def d8r:List CO:= [
  O 13 (.mv (.cst (iv 0)))]
def d31:List CO:= [
  mV 30 10,
 O 31 (.len false (tm 30)),
 O 32 (.mv (.cst (iv 0)))]
def a4q:List CO:= [
  O 33 (.lt (B .lss b0) (tm 32) (tm 31))]
def a7W:List CO:= [
  O 34 (.iaS 1 (tm 30) (tm 32)),
 lD 35 34,
 fA 36 2 12,
 .op none none (.store 1 (tm 36) (tm 35))]
def a8k:List CO:= [
  mV 38 0,
 mV 39 1,
 O 40 (.loadN 3 (tm 12)),
 C 41 a0Y [(tm 38),(tm 39),(tm 40)],
 mV 37 41,
 eX 42 0 37,
 eX 43 1 37,
 mV 13 42,
 mV 11 43]
def a8e:List CO:= [
  mV 44 11,
 O 45 (.ne (B .neq j7) (tm 44) (.cst (iv 0)))]
def e9P:List CO:= [
  mV 46 11,
 O 8 (.mv (.cst (iv 0))),
 mV 9 46]
def a7V:List CO:= [
  mV 47 13,
 O 48 (.eq (B .eql b0) (tm 47) (.cst (iv 0)))]
def c5J:List CO:= [
  mV 49 13,
 fA 50 1 12,
 .op none none (.store 1 (tm 50) (tm 49))]
def c26:List CO:= [
  O 51 (.add (B .add b0) (tm 32) (.cst (iv 1))),
 mV 32 51]
def a8l:List CO:= [
  mV 52 13,
 mV 8 52,
 O 9 (.mv (.cst (iv 0)))]
def d1Z:List CO:= [
  O 4 (.mv (.cst (iv 0)))]
def a83:List CO:= [
  mV 6 4,
 lD 7 1,
 O 8 (.len false (tm 7)),
 O 9 (.lt (B .lss b0) (tm 6) (tm 8))]
def d9b:List CO:= [
  lD 13 2,
 lD 14 1,
 mV 15 4,
 O 16 (.sl 1 false (tm 14) (some (tm 15)) none none),
 O 17 (.len false (tm 16)),
 O 18 (.min (tm 13) (tm 17)),
 mV 5 18]
def d4l:List CO:= [
  mV 19 0,
 lD 20 1,
 mV 21 4,
 mV 22 4,
 mV 23 5,
 O 24 (.add (B .add b0) (tm 22) (tm 23)),
 mV 25 4,
 mV 26 5,
 O 27 (.add (B .add b0) (tm 25) (tm 26)),
 O 28 (.sl 1 true (tm 20) (some (tm 21)) (some (tm 24)) (some (tm 27))),
 .call (some (pth 29)) none (tm 19) [(tm 28)],
 O 30 (.un .not (tm 29))]
def d9d:List CO:= [
  mV 10 4,
 lD 11 2,
 O 12 (.add (B .add b0) (tm 10) (tm 11)),
 mV 4 12]
def d7n:List CO:= [
  O 6 (.mv (.cst (tv []))),
 O 7 (.mv (.cst (iv 0)))]
def c8g:List CO:= [
  mV 14 0,
 mV 15 1,
 mV 16 2,
 C 17 b0e [(tm 14),(tm 15),(tm 16)],
 mV 13 17,
 eX 18 0 13,
 eX 19 1 13,
 mV 8 18,
 mV 9 19]
def d0i:List CO:= [
  mV 20 9,
 O 21 (.ne (B .neq j7) (tm 20) (.cst (iv 0)))]
def f2a:List CO:= [
  mV 22 9,
 O 6 (.mv (.cst (tv []))),
 mV 7 22]
def c6s:List CO:= [
  mV 24 8,
 O 25 (.b2s (tm 24)),
 C 26 b0f [(tm 25),(.cst (tv [0]))],
 mV 23 26,
 eX 27 0 23,
 eX 28 1 23,
 eX 29 2 23,
 mV 10 27,
 mV 11 28,
 mV 12 29]
def d3m:List CO:= [
  mV 30 11,
 C 31 b0j [(tm 30),(.cst (tv [0]))],
 O 32 (.ne (B .neq D6) (tm 31) (.cst (tv [])))]
def f2u:List CO:= [
  O 6 (.mv (.cst (tv []))),
 O 7 (.mv (.cst (iv 4)))]
def d8a:List CO:= [
  mV 33 10,
 mV 6 33,
 O 7 (.mv (.cst (iv 0)))]
def c6o:List CO:= [
  O 4 (.box o7 (tm 0)),
 O 8 (.alloc o7 2 [(iv 0),(tv [])]),
 O 9 (.mv (.cst (iv 0)))]
def c72:List CO:= [
  mV 11 3,
 O 12 (.ne (B .neq j7) (tm 11) (.cst (iv 0))),
 mV 13 12,
 G 14 13 false (.mv (tm 1)),
 G 15 13 false (.mv (tm 2)),
 .call (some (pth 16)) (some (pth 13,false)) (.cst (.func a5v [])) [(tm 14),(tm 15)],
 G 17 13 false (.un .not (tm 16)),
 O 18 (.pick (tm 13) (.cst (.b true)) (tm 17))]
def f2n:List CO:= [
  O 10 (.alloc o7 2 [(iv 0),(tv [])])]
def f0A:List CO:= [
  O 19 (.loadN 2 (tm 10)),
 .op none none (.store 2 (tm 8) (tm 19)),
 O 9 (.mv (.cst (iv 4)))]
def d8c:List CO:= [
  O 20 (.loadN 2 (tm 4)),
 .op none none (.store 2 (tm 8) (tm 20)),
 O 9 (.mv (.cst (iv 0)))]
def a8U:List CO:= [
  mV 10 1,
 O 11 (.add (B .add b0) (tm 10) (.cst (iv 1))),
 mV 8 11]
def a3O:List CO:= [
  mV 12 8,
 mV 13 2,
 O 14 (.lt (B .lss b0) (tm 12) (tm 13))]
def d5E:List CO:= [
  mV 17 8,
 mV 9 17]
def a4x:List CO:= [
  mV 18 9,
 mV 19 1,
 O 20 (.gt (B .gtr b0) (tm 18) (tm 19)),
 mV 21 20,
 G 22 21 true (.mv (tm 3)),
 G 23 21 true (.mv (tm 0)),
 G 24 21 true (.mv (tm 9)),
 G 25 21 true (.iaS 2 (tm 23) (tm 24)),
 G 26 21 true (.loadN 2 (tm 25)),
 G 27 21 true (.mv (tm 0)),
 G 28 21 true (.mv (tm 9)),
 G 29 21 true (.sub (B .sub b0) (tm 28) (.cst (iv 1))),
 G 30 21 true (.iaS 2 (tm 27) (tm 29)),
 G 31 21 true (.loadN 2 (tm 30)),
 .call (some (pth 32)) (some (pth 21,true)) (tm 22) [(tm 26),(tm 31)],
 G 33 21 true (.lt (B .lss b0) (tm 32) (.cst (iv 0))),
 O 34 (.pick (tm 21) (tm 33) (.cst (.b false)))]
def d3s:List CO:= [
  mV 37 0,
 mV 38 9,
 mV 39 0,
 mV 40 9,
 O 41 (.sub (B .sub b0) (tm 40) (.cst (iv 1))),
 mV 42 0,
 mV 43 9,
 O 44 (.sub (B .sub b0) (tm 43) (.cst (iv 1))),
 O 45 (.iaS 2 (tm 42) (tm 44)),
 O 46 (.loadN 2 (tm 45)),
 mV 47 0,
 mV 48 9,
 O 49 (.iaS 2 (tm 47) (tm 48)),
 O 50 (.loadN 2 (tm 49)),
 O 51 (.iaS 2 (tm 37) (tm 38)),
 .op none none (.store 2 (tm 51) (tm 46)),
 O 52 (.iaS 2 (tm 39) (tm 41)),
 .op none none (.store 2 (tm 52) (tm 50))]
def d5V:List CO:= [
  mV 35 9,
 O 36 (.sub (B .sub b0) (tm 35) (.cst (iv 1))),
 mV 9 36]
def a8z:List CO:= [
  mV 15 8,
 O 16 (.add (B .add b0) (tm 15) (.cst (iv 1))),
 mV 8 16]
def b33:List CO:= [
  O 6 (.mv (.cst (iv 0))),
 O 7 (.mv (.cst (iv 0)))]
def b4k:List CO:= [
  mV 14 0,
 mV 15 1,
 mV 16 2,
 C 17 a5e [(tm 14),(tm 15),(tm 16)],
 mV 13 17,
 eX 18 0 13,
 eX 19 1 13,
 mV 8 18,
 mV 9 19]
def b4o:List CO:= [
  O 10 (.alloc b0 1 [(iv 0)]),
 .op none none (.store 1 (tm 10) (.cst (iv 0)))]
def b4c:List CO:= [
  mV 20 8,
 C 21 b0T [(tm 20)]]
def a2Y:List CO:= [
  mV 12 23]
def a6w:List CO:= [
  lD 24 10,
 O 25 (.slow (B .shl b0) (tm 24) (.cst (.p (.int .u64 (8))))),
 mV 26 12,
 O 27 (.convI .i64 (tm 26)),
 O 28 (.slow (B .or b0) (tm 25) (tm 27)),
 .op none none (.store 1 (tm 10) (tm 28))]
def b4g:List CO:= [
  lD 29 10,
 mV 30 9,
 mV 6 29,
 mV 7 30]
def d0T:List CO:= [
  fA 5 0 1,
 lD 6 5,
 lD 7 2,
 lD 8 3,
 O 9 (.len false (tm 8)),
 mV 10 0,
 C 11 Z7 [(tm 6),(tm 7),(tm 9),(tm 10)]]
def d80:List CO:= [
  O 8 (.mv (.cst (iv 0))),
 O 9 (.mv (.cst (.b false))),
 O 10 (.mv (.cst (iv 0)))]
def d1p:List CO:= [
  mV 15 0,
 O 16 (.eqp false (B .eql F6) (tm 15) (.cst l9))]
def f0S:List CO:= [
  O 8 (.mv (.cst (iv 0))),
 O 9 (.mv (.cst (.b false))),
 O 10 (.mv (.cst (iv 1)))]
def d14:List CO:= [
  mV 18 0,
 nL 19 18,
 fA 20 1 19,
 O 21 (.loadN 12 (tm 20)),
 mV 22 3,
 C 23 a42 [(tm 21),(tm 22)],
 mV 17 23,
 eX 24 0 17,
 eX 25 1 17,
 mV 11 24,
 mV 10 25]
def c6I:List CO:= [
  mV 26 10,
 O 27 (.ne (B .neq j7) (tm 26) (.cst (iv 0)))]
def f0z:List CO:= [
  mV 28 10,
 O 8 (.mv (.cst (iv 0))),
 O 9 (.mv (.cst (.b false))),
 mV 10 28]
def d6T:List CO:= [
  mV 29 2,
 O 30 (.build [(iv 0),(iv 0),(iv 0)] [(0,1,(tm 29))]),
 O 12 (.alloc D5 3 [(iv 0),(iv 0),(iv 0)]),
 .op none none (.store 3 (tm 12) (tm 30))]
def d8f:List CO:= [
  mV 31 11,
 O 32 (.len false (tm 31)),
 O 33 (.mv (.cst (iv 0)))]
def a4W:List CO:= [
  O 34 (.lt (B .lss b0) (tm 33) (tm 32))]
def a9o:List CO:= [
  mV 35 33,
 O 36 (.iaS 1 (tm 31) (tm 33)),
 lD 37 36,
 mV 13 35,
 mV 14 37]
def a76:List CO:= [
  mV 38 14,
 fA 39 2 12,
 .op none none (.store 1 (tm 39) (tm 38))]
def a8q:List CO:= [
  mV 40 9,
 mV 41 40,
 G 42 41 true (.mv (tm 13)),
 G 43 41 true (.gt (B .gtr b0) (tm 42) (.cst (iv 0))),
 O 44 (.pick (tm 41) (tm 43) (.cst (.b false)))]
def c5s:List CO:= [
  mV 45 1,
 fA 46 1 12,
 lD 47 46,
 mV 48 0,
 nL 49 48,
 fA 50 1 49,
 fA 51 0 50,
 lD 52 51,
 O 53 (.mksl j6 1 1 [(.y 0)] (tm 52) (tm 52)),
 C 54 Z5 [(tm 45),(tm 47),(tm 53)],
 mV 10 54]
def c4h:List CO:= [
  mV 55 10,
 O 56 (.ne (B .neq j7) (tm 55) (.cst (iv 0)))]
def e8W:List CO:= [
  mV 57 10,
 O 8 (.mv (.cst (iv 0))),
 O 9 (.mv (.cst (.b false))),
 mV 10 57]
def a3x:List CO:= [
  mV 59 0,
 mV 60 1,
 O 61 (.loadN 3 (tm 12)),
 C 62 a0Y [(tm 59),(tm 60),(tm 61)],
 mV 58 62,
 eX 63 0 58,
 eX 64 1 58,
 mV 8 63,
 mV 10 64]
def a3r:List CO:= [
  mV 65 10,
 O 66 (.ne (B .neq j7) (tm 65) (.cst (iv 0)))]
def e89:List CO:= [
  mV 67 10,
 O 8 (.mv (.cst (iv 0))),
 O 9 (.mv (.cst (.b false))),
 mV 10 67]
def a3u:List CO:= [
  mV 68 8,
 O 69 (.eq (B .eql b0) (tm 68) (.cst (iv 0))),
 mV 9 69]
def a3A:List CO:= [
  mV 70 9]
def a8t:List CO:= [
  mV 72 0,
 nL 73 72,
 fA 74 0 73,
 lD 75 74,
 mV 76 1,
 C 77 a5t [(tm 75),(tm 76)],
 mV 71 77,
 eX 78 0 71,
 eX 79 1 71,
 mV 8 78,
 mV 10 79]
def a8o:List CO:= [
  mV 80 10,
 O 81 (.ne (B .neq j7) (tm 80) (.cst (iv 0)))]
def c2O:List CO:= [
  mV 82 10,
 O 8 (.mv (.cst (iv 0))),
 O 9 (.mv (.cst (.b false))),
 mV 10 82]
def b9J:List CO:= [
  mV 83 0,
 mV 84 1,
 O 85 (.loadN 3 (tm 12)),
 mV 86 8,
 C 87 a2c [(tm 83),(tm 84),(tm 85),(tm 86)],
 mV 10 87]
def c1l:List CO:= [
  mV 88 10,
 O 89 (.ne (B .neq j7) (tm 88) (.cst (iv 0)))]
def e9C:List CO:= [
  mV 90 10,
 O 8 (.mv (.cst (iv 0))),
 O 9 (.mv (.cst (.b false))),
 mV 10 90]
def a73:List CO:= [
  mV 91 8,
 fA 92 1 12,
 .op none none (.store 1 (tm 92) (tm 91))]
def a8s:List CO:= [
  O 93 (.add (B .add b0) (tm 33) (.cst (iv 1))),
 mV 33 93]
def b9f:List CO:= [
  mV 94 8,
 mV 95 9,
 mV 8 94,
 mV 9 95,
 O 10 (.mv (.cst (iv 0)))]
def a9d:List CO:= [
  O 6 (.mv (.cst (iv 0)))]
def a8X:List CO:= [
  mV 7 0,
 nL 8 7,
 fA 9 15 8,
 fA 10 0 9,
 lD 11 10,
 O 12 (.eq (B .eql b0) (tm 11) (.cst (iv 2)))]
def d4q:List CO:= [
  mV 13 0,
 nL 14 13,
 fA 15 0 14,
 lD 16 15,
 mV 17 1,
 mV 18 2,
 C 19 Z5 [(tm 16),(tm 17),(tm 18)],
 mV 6 19]
def c7p:List CO:= [
  mV 20 0,
 nL 21 20,
 fA 22 0 21,
 lD 23 22,
 mV 24 1,
 mV 25 2,
 C 26 b0z [(tm 23),(tm 24),(tm 25)],
 mV 6 26]
def a9W:List CO:= [
  O 8 (.mv (.cst (iv 0)))]
def a9g:List CO:= [
  mV 12 1,
 mV 13 0,
 mV 14 2,
 C 15 a0c [(tm 12),(tm 13),(tm 14)],
 mV 11 15,
 eX 16 0 11,
 eX 17 1 11,
 O 9 (.alloc x7 13 [(iv 0),(iv 0),(iv 0),(iv 0),(iv 0),(iv 0),(iv 0),(iv 0),(iv 0),(iv 0),(iv 0),(iv 0),(iv 0)]),
 .op none none (.store 13 (tm 9) (tm 16)),
 mV 10 17]
def a9y:List CO:= [
  mV 18 10,
 O 19 (.ne (B .neq j7) (tm 18) (.cst (iv 0))),
 mV 20 19,
 G 21 20 false (.mv (tm 3)),
 G 22 20 false (.fa 2 (tm 9)),
 G 23 20 false (.load (tm 22)),
 G 24 20 false (.le (B .leq b0) (tm 21) (tm 23)),
 O 25 (.pick (tm 20) (.cst (.b true)) (tm 24))]
def d3k:List CO:= [
  mV 26 10,
 mV 8 26]
def c9Q:List CO:= [
  mV 27 3,
 fA 28 2 9,
 .op none none (.store 1 (tm 28) (tm 27))]
def c7P:List CO:= [
  mV 29 1,
 mV 30 0,
 mV 31 2,
 O 32 (.loadN 13 (tm 9)),
 C 33 a5j [(tm 29),(tm 30),(tm 31),(tm 32)],
 mV 8 33]
def d2l:List CO:= [
  O 2 (.mv (.cst (iv 0)))]
def d1e:List CO:= [
  mV 4 0,
 O 5 (.eqp false (B .eql E6) (tm 4) (.cst l9)),
 mV 3 5]
def f1y:List CO:= [
  O 2 (.mv (.cst (iv 1)))]
def d4y:List CO:= [
  mV 7 0,
 nL 8 7,
 fA 9 0 8,
 lD 10 9,
 nL 11 10,
 fA 12 17 11,
 lD 13 12,
 mV 14 0,
 O 15 (.eqp true (B .neq E6) (tm 13) (tm 14)),
 mV 6 15]
def f0b:List CO:= [
  O 2 (.mv (.cst (iv 22)))]
def c9A:List CO:= [
  O 2 (.mv (.cst (iv 0)))]
def d5A:List CO:= [
  O 4 (.mv (.cst i7)),
 O 5 (.mv (.cst (iv 0)))]
def d2z:List CO:= [
  mV 11 0,
 O 12 (.eqp false (B .eql a59) (tm 11) (.cst l9)),
 mV 10 12]
def f1o:List CO:= [
  O 4 (.mv (.cst i7)),
 O 5 (.mv (.cst (iv 1)))]
def c6S:List CO:= [
  mV 14 1,
 O 15 (.lt (B .lss b0) (tm 14) (.cst (iv 0))),
 mV 16 15,
 G 17 16 false (.mv (tm 1)),
 G 18 16 false (.mv (tm 0)),
 G 19 16 false (.nil (tm 18)),
 G 20 16 false (.fa 3 (tm 19)),
 G 21 16 false (.fa 1 (tm 20)),
 G 22 16 false (.load (tm 21)),
 G 23 16 false (.ge (B .geq b0) (tm 17) (tm 22)),
 O 24 (.pick (tm 16) (.cst (.b true)) (tm 23)),
 mV 13 24]
def f05:List CO:= [
  O 4 (.mv (.cst i7)),
 O 5 (.mv (.cst (iv 2)))]
def d6p:List CO:= [
  mV 26 0,
 nL 27 26,
 fA 28 15 27,
 lD 29 28,
 mV 30 1,
 O 31 (.look (some .i64) i7 true (tm 29) (tm 30)),
 mV 25 31,
 eX 32 0 25,
 eX 33 1 25,
 mV 6 32,
 mV 7 33]
def c7Z:List CO:= [
  mV 34 7]
def d1n:List CO:= [
  mV 35 6,
 C 36 V5 [(tm 35)],
 mV 4 36,
 O 5 (.mv (.cst (iv 0)))]
def f1k:List CO:= [
  mV 38 0,
 mV 39 1,
 C 40 a48 [(tm 38),(tm 39)],
 mV 37 40,
 eX 41 0 37,
 eX 42 1 37,
 mV 8 41,
 mV 9 42]
def f2q:List CO:= [
  mV 43 9]
def e8G:List CO:= [
  mV 44 8,
 mV 4 44,
 O 5 (.mv (.cst (iv 0)))]
def e92:List CO:= [
  mV 45 0,
 nL 46 45,
 fA 47 2 46,
 lD 48 47,
 mV 49 1,
 C 50 e5Y [(tm 48),(tm 49)],
 eX 51 0 50,
 eX 52 1 50,
 mV 4 51,
 mV 5 52]
def d68:List CO:= [
  O 4 (.mv (.cst (.b false)))]
def d0e:List CO:= [
  mV 5 0,
 O 6 (.b2s (tm 5)),
 mV 7 1,
 O 8 (.b2s (tm 7)),
 O 9 (.eq (B .eql D6) (tm 6) (tm 8)),
 mV 4 9]
def a8E:List CO:= [
  O 8 (.mv (.cst i7)),
 O 9 (.mv (.cst (iv 0)))]
def a8H:List CO:= [
  mV 15 0,
 mV 16 1,
 mV 17 2,
 C 18 a5e [(tm 15),(tm 16),(tm 17)],
 mV 14 18,
 eX 19 0 14,
 eX 20 1 14,
 mV 10 19,
 mV 11 20]
def a9p:List CO:= [
  mV 21 11,
 O 22 (.ne (B .neq j7) (tm 21) (.cst (iv 0)))]
def f1b:List CO:= [
  mV 23 11,
 O 8 (.mv (.cst i7)),
 mV 9 23]
def a8P:List CO:= [
  mV 24 3,
 O 25 (.lt (B .lss b0) (tm 24) (.cst (iv 0))),
 mV 26 25,
 G 27 26 false (.mv (tm 3)),
 G 28 26 false (.mv (tm 2)),
 G 29 26 false (.mul (B .mul b0) (.cst (iv 8)) (tm 28)),
 G 30 26 false (.slow (B .shr b0) (tm 27) (tm 29)),
 G 31 26 false (.ne (B .neq b0) (tm 30) (.cst (iv 0))),
 O 32 (.pick (tm 26) (.cst (.b true)) (tm 31))]
def f1U:List CO:= [
  O 8 (.mv (.cst i7)),
 O 9 (.mv (.cst (iv 3)))]
def a9w:List CO:= [
  mV 33 0,
 C 34 V5 [(tm 33)],
 mV 12 34]
def a9l:List CO:= [
  mV 35 2,
 O 36 (.mv (.cst (iv 0)))]
def a0E:List CO:= [
  O 37 (.lt (B .lss b0) (tm 36) (tm 35))]
def a4B:List CO:= [
  mV 38 36,
 mV 13 38]
def a3D:List CO:= [
  mV 39 12,
 mV 40 1,
 mV 41 13,
 O 42 (.add (B .add b0) (tm 40) (tm 41)),
 mV 43 3,
 mV 44 13,
 O 45 (.mul (B .mul b0) (.cst (iv 8)) (tm 44)),
 O 46 (.slow (B .shr b0) (tm 43) (tm 45)),
 O 47 (.convI .u8 (tm 46)),
 O 48 (.iaS 1 (tm 39) (tm 42)),
 .op none none (.store 1 (tm 48) (tm 47))]
def a3G:List CO:= [
  O 49 (.add (B .add b0) (tm 36) (.cst (iv 1))),
 mV 36 49]
def a75:List CO:= [
  mV 50 12,
 mV 8 50,
 O 9 (.mv (.cst (iv 0)))]
def c6G:List CO:= [
  mV 4 0,
 nL 5 4,
 fA 6 1 5,
 lD 7 6,
 mV 8 1,
 .op none none (.mdel (some .i64) (tm 7) (tm 8))]
def d0Y:List CO:= [
  mV 9 0,
 nL 10 9,
 fA 11 2 10,
 lD 12 11,
 mV 13 1,
 .op none none (.mdel (some .i64) (tm 12) (tm 13))]
def d1J:List CO:= [
  mV 14 0,
 nL 15 14,
 fA 16 3 15,
 lD 17 16,
 mV 18 1,
 .op none none (.mdel (some .i64) (tm 17) (tm 18))]
def c9J:List CO:= [
  O 4 (.mv (.cst (iv 0)))]
def d4w:List CO:= [
  mV 5 0,
 mV 6 1,
 C 7 a5c [(tm 5),(tm 6),(.cst (.b true))],
 mV 4 7]
def a4U:List CO:= [
  O 2 (.box x9 (tm 0)),
 O 4 (.mv (.cst i7)),
 O 5 (.mv (.cst (iv 0)))]
def a4o:List CO:= [
  O 11 (.loadN 12 (tm 2)),
 C 12 a2Q [(tm 11)],
 mV 10 12,
 eX 13 0 10,
 eX 14 1 10,
 mV 6 13,
 mV 7 14]
def a4y:List CO:= [
  mV 15 7,
 O 16 (.ne (B .neq j7) (tm 15) (.cst (iv 0)))]
def f0e:List CO:= [
  mV 17 7,
 O 4 (.mv (.cst i7)),
 mV 5 17]
def a4A:List CO:= [
  mV 18 1,
 mV 19 6,
 O 20 (.sub (B .sub b0) (tm 19) (.cst (iv 1))),
 fA 21 0 2,
 lD 22 21,
 O 23 (.quo (B .quo b0) (tm 20) (tm 22)),
 C 24 b0C [(tm 18),(.cst (iv 0)),(tm 23)],
 O 25 (.un .not (tm 24))]
def f2c:List CO:= [
  O 4 (.mv (.cst i7)),
 O 5 (.mv (.cst (iv 2)))]
def a4O:List CO:= [
  fA 26 0 2,
 lD 27 26,
 O 28 (.quo (B .quo b0) (tm 27) (.cst (iv 2))),
 mV 8 28]
def a4Q:List CO:= [
  mV 29 1,
 O 30 (.sub (B .sub b0) (tm 29) (.cst (iv 8))),
 mV 9 30]
def a3C:List CO:= [
  mV 42 9,
 O 43 (.lt (B .lss b0) (tm 42) (.cst (iv 0))),
 mV 41 43]
def b8W:List CO:= [
  mV 44 1,
 O 45 (.bslice b0 1 1 [(iv 0)] [(0,1,(tm 44))]),
 mV 4 45,
 O 5 (.mv (.cst (iv 0)))]
def a7S:List CO:= [
  mV 47 9,
 mV 48 8,
 O 49 (.lt (B .lss b0) (tm 47) (tm 48)),
 mV 46 49]
def b8I:List CO:= [
  mV 50 9,
 O 51 (.bslice b0 2 2 [(iv 0)] [(0,1,(.cst (iv 8))),(1,1,(tm 50))]),
 mV 4 51,
 O 5 (.mv (.cst (iv 0)))]
def c9j:List CO:= [
  mV 31 9,
 mV 32 8,
 O 33 (.sub (B .sub b0) (tm 31) (tm 32)),
 mV 9 33]
def d6V:List CO:= [
  mV 34 9,
 mV 35 8,
 O 36 (.quo (B .quo b0) (tm 34) (tm 35)),
 mV 37 9,
 mV 38 8,
 O 39 (.rem (B .rem b0) (tm 37) (tm 38)),
 O 40 (.bslice b0 3 3 [(iv 0)] [(0,1,(.cst (iv 9))),(1,1,(tm 36)),(2,1,(tm 39))]),
 mV 4 40,
 O 5 (.mv (.cst (iv 0)))]
def d6u:List CO:= [
  O 6 (.mv (.cst i7)),
 O 7 (.mv (.cst (iv 0)))]
def c9D:List CO:= [
  mV 10 2,
 O 11 (.lt (B .lss b0) (tm 10) (.cst (iv 0)))]
def f1g:List CO:= [
  O 6 (.mv (.cst i7)),
 O 7 (.mv (.cst (iv 1)))]
def d1z:List CO:= [
  mV 13 0,
 mV 14 1,
 mV 15 2,
 C 16 a2r [(tm 13),(tm 14),(tm 15)],
 mV 12 16,
 eX 17 0 12,
 eX 18 1 12,
 mV 8 17,
 mV 9 18]
def d2g:List CO:= [
  mV 19 9,
 O 20 (.un .not (tm 19))]
def f0w:List CO:= [
  O 6 (.mv (.cst i7)),
 O 7 (.mv (.cst (iv 2)))]
def d10:List CO:= [
  mV 21 8,
 mV 6 21,
 O 7 (.mv (.cst (iv 0)))]
def c9C:List CO:= [
  O 4 (.mv (.cst (tv []))),
 O 5 (.mv (.cst (tv []))),
 O 6 (.mv (.cst (.b false)))]
def d0z:List CO:= [
  mV 7 0,
 mV 8 1,
 C 9 b0O [(tm 7),(tm 8)],
 eX 10 0 9,
 eX 11 1 9,
 eX 12 2 9,
 mV 4 10,
 mV 5 11,
 mV 6 12]
def a8F:List CO:= [
  O 4 (.mv (.cst (tv [])))]
def a8u:List CO:= [
  mV 7 0,
 O 8 (.eq (B .eql D6) (tm 7) (.cst (tv []))),
 mV 9 8,
 G 10 9 false (.mv (tm 1)),
 G 11 9 false (.eq (B .eql D6) (tm 10) (.cst (tv []))),
 O 12 (.pick (tm 9) (.cst (.b true)) (tm 11))]
def d8H:List CO:= [
  mV 13 0,
 mV 4 13]
def d6i:List CO:= [
  mV 14 1,
 O 15 (.len true (tm 14)),
 O 16 (.eq (B .eql b0) (tm 15) (.cst (iv 1))),
 mV 17 16,
 G 18 17 true (.mv (tm 1)),
 G 19 17 true (.ixS (tm 18) (.cst (iv 0))),
 G 20 17 true (.lt (B .lss j6) (tm 19) (.cst (.y 128))),
 O 21 (.pick (tm 17) (tm 20) (.cst (.b false)))]
def d6S:List CO:= [
  mV 22 0,
 mV 23 1,
 O 24 (.ixS (tm 23) (.cst (iv 0))),
 C 25 b0c [(tm 22),(tm 24)],
 mV 26 1,
 O 27 (.ixS (tm 26) (.cst (iv 0))),
 C 28 b0U [(tm 25),(tm 27)],
 mV 4 28]
def f1P:List CO:= [
  mV 30 1,
 C 31 e2R [(tm 30)],
 mV 29 31,
 eX 32 0 29,
 eX 33 1 29,
 O 5 (.alloc e2V 256 [(.b false),(.b false),(.b false),(.b false),(.b false),(.b false),(.b false),(.b false),(.b false),(.b false),(.b false),(.b false),(.b false),(.b false),(.b false),(.b false),(.b false),(.b false),(.b false),(.b false),(.b false),(.b false),(.b false),(.b false),(.b false),(.b false),(.b false),(.b false),(.b false),(.b false),(.b false),(.b false),(.b false),(.b false),(.b false),(.b false),(.b false),(.b false),(.b false),(.b false),(.b false),(.b false),(.b false),(.b false),(.b false),(.b false),(.b false),(.b false),(.b false),(.b false),(.b false),(.b false),(.b false),(.b false),(.b false),(.b false),(.b false),(.b false),(.b false),(.b false),(.b false),(.b false),(.b false),(.b false),(.b false),(.b false),(.b false),(.b false),(.b false),(.b false),(.b false),(.b false),(.b false),(.b false),(.b false),(.b false),(.b false),(.b false),(.b false),(.b false),(.b false),(.b false),(.b false),(.b false),(.b false),(.b false),(.b false),(.b false),(.b false),(.b false),(.b false),(.b false),(.b false),(.b false),(.b false),(.b false),(.b false),(.b false),(.b false),(.b false),(.b false),(.b false),(.b false),(.b false),(.b false),(.b false),(.b false),(.b false),(.b false),(.b false),(.b false),(.b false),(.b false),(.b false),(.b false),(.b false),(.b false),(.b false),(.b false),(.b false),(.b false),(.b false),(.b false),(.b false),(.b false),(.b false),(.b false),(.b false),(.b false),(.b false),(.b false),(.b false),(.b false),(.b false),(.b false),(.b false),(.b false),(.b false),(.b false),(.b false),(.b false),(.b false),(.b false),(.b false),(.b false),(.b false),(.b false),(.b false),(.b false),(.b false),(.b false),(.b false),(.b false),(.b false),(.b false),(.b false),(.b false),(.b false),(.b false),(.b false),(.b false),(.b false),(.b false),(.b false),(.b false),(.b false),(.b false),(.b false),(.b false),(.b false),(.b false),(.b false),(.b false),(.b false),(.b false),(.b false),(.b false),(.b false),(.b false),(.b false),(.b false),(.b false),(.b false),(.b false),(.b false),(.b false),(.b false),(.b false),(.b false),(.b false),(.b false),(.b false),(.b false),(.b false),(.b false),(.b false),(.b false),(.b false),(.b false),(.b false),(.b false),(.b false),(.b false),(.b false),(.b false),(.b false),(.b false),(.b false),(.b false),(.b false),(.b false),(.b false),(.b false),(.b false),(.b false),(.b false),(.b false),(.b false),(.b false),(.b false),(.b false),(.b false),(.b false),(.b false),(.b false),(.b false),(.b false),(.b false),(.b false),(.b false),(.b false),(.b false),(.b false),(.b false),(.b false),(.b false),(.b false),(.b false),(.b false),(.b false),(.b false),(.b false),(.b false),(.b false),(.b false),(.b false),(.b false),(.b false),(.b false),(.b false),(.b false),(.b false),(.b false),(.b false),(.b false),(.b false)]),
 .op none none (.store 256 (tm 5) (tm 32)),
 mV 6 33]
def f1C:List CO:= [
  mV 34 6]
def f0D:List CO:= [
  mV 35 0,
 C 36 e2P [(tm 35),(tm 5)],
 C 37 e2Q [(tm 36),(tm 5)],
 mV 4 37]
def f1N:List CO:= [
  mV 38 0,
 mV 39 1,
 C 40 e2M [(tm 38),(tm 39)],
 mV 41 1,
 C 42 e2O [(tm 40),(tm 41)],
 mV 4 42]
def a4P:List CO:= [
  O 6 (.mv (.cst i7)),
 O 7 (.mv (.cst (iv 0)))]
def a4I:List CO:= [
  mV 10 2]
def a3M:List CO:= [
  O 12 (.eq (B .eql b0) (tm 10) (.cst (iv 1))),
 mV 11 12]
def a8L:List CO:= [
  O 13 (.eq (B .eql b0) (tm 10) (.cst (iv 2))),
 mV 11 13]
def c8Z:List CO:= [
  O 14 (.eq (B .eql b0) (tm 10) (.cst (iv 4))),
 mV 11 14]
def a4V:List CO:= [
  mV 16 0,
 mV 17 1,
 mV 18 2,
 C 19 a2r [(tm 16),(tm 17),(tm 18)],
 mV 15 19,
 eX 20 0 15,
 eX 21 1 15,
 mV 8 20,
 mV 9 21]
def a3N:List CO:= [
  mV 22 9,
 O 23 (.un .not (tm 22))]
def f2b:List CO:= [
  O 6 (.mv (.cst i7)),
 O 7 (.mv (.cst (iv 2)))]
def a3R:List CO:= [
  mV 24 8,
 mV 6 24,
 O 7 (.mv (.cst (iv 0)))]
def f07:List CO:= [
  O 6 (.mv (.cst i7)),
 O 7 (.mv (.cst (iv 1)))]
def d3A:List CO:= [
  O 1 (.box B3 (tm 0)),
 O 2 (.mv (.cst b1h))]
def d7I:List CO:= [
  O 3 (.fn a0Q [(tm 1)]),
 mV 2 3]
def a9S:List CO:= [
  O 4 (.mv (.cst (iv 0))),
 O 5 (.mv (.cst (iv 0)))]
def a9R:List CO:= [
  mV 6 0,
 O 7 (.eqp false (B .eql b3I) (tm 6) (.cst l9))]
def f2s:List CO:= [
  O 4 (.mv (.cst (iv 0))),
 O 5 (.mv (.cst (iv 1)))]
def a92:List CO:= [
  mV 8 0,
 nL 9 8,
 fA 10 13 9,
 O 11 (.loadN 2 (tm 10)),
 mV 12 1,
 mV 13 0,
 nL 14 13,
 fA 15 1 14,
 fA 16 11 15,
 lD 17 16,
 mV 18 0,
 nL 19 18,
 fA 20 1 19,
 fA 21 1 20,
 lD 22 21,
 mV 23 0,
 nL 24 23,
 fA 25 0 24,
 lD 26 25,
 O 27 (.bfn a2b [(tm 26)]),
 C 28 b0F [(tm 11),(tm 12),(tm 17),(tm 22),(tm 27)],
 eX 29 0 28,
 eX 30 1 28,
 mV 4 29,
 mV 5 30]
def a9T:List CO:= [
  O 6 (.box D5 (tm 2)),
 O 8 (.mv (.cst (iv 0)))]
def a8I:List CO:= [
  fA 13 1 6,
 lD 14 13,
 O 15 (.eq (B .eql b0) (tm 14) (.cst (iv 0)))]
def c5W:List CO:= [
  mV 17 0,
 mV 18 1,
 fA 19 0 6,
 lD 20 19,
 C 21 a0c [(tm 17),(tm 18),(tm 20)],
 mV 16 21,
 eX 22 0 16,
 eX 23 1 16,
 O 9 (.alloc x7 13 [(iv 0),(iv 0),(iv 0),(iv 0),(iv 0),(iv 0),(iv 0),(iv 0),(iv 0),(iv 0),(iv 0),(iv 0),(iv 0)]),
 .op none none (.store 13 (tm 9) (tm 22)),
 mV 10 23]
def c7x:List CO:= [
  mV 24 10,
 O 25 (.ne (B .neq j7) (tm 24) (.cst (iv 0)))]
def f0l:List CO:= [
  mV 26 10,
 mV 8 26]
def c57:List CO:= [
  fA 27 2 6,
 lD 28 27,
 C 29 a5h [(tm 9),(tm 28)],
 mV 30 3,
 nL 31 29,
 .op none none (.store 1 (tm 31) (tm 30))]
def d3Y:List CO:= [
  mV 32 0,
 mV 33 1,
 fA 34 0 6,
 lD 35 34,
 O 36 (.loadN 13 (tm 9)),
 C 37 a5j [(tm 32),(tm 33),(tm 35),(tm 36)],
 mV 8 37]
def c8d:List CO:= [
  mV 39 1,
 fA 40 1 6,
 lD 41 40,
 C 42 M2 [(tm 39),(tm 41)],
 mV 38 42,
 eX 43 0 38,
 eX 44 1 38,
 mV 11 43,
 mV 12 44]
def d3p:List CO:= [
  mV 45 12,
 O 46 (.ne (B .neq j7) (tm 45) (.cst (iv 0)))]
def f1F:List CO:= [
  mV 47 12,
 mV 8 47]
def b8n:List CO:= [
  mV 49 11,
 fA 50 2 6,
 lD 51 50,
 O 52 (.mul (B .mul b0) (.cst (iv 2)) (tm 51)),
 mV 53 3,
 C 54 a0X [(tm 49),(tm 52),(.cst (iv 2)),(tm 53)],
 mV 48 54,
 eX 55 0 48,
 eX 56 1 48,
 mV 11 55,
 mV 12 56]
def c3D:List CO:= [
  mV 57 12,
 O 58 (.ne (B .neq j7) (tm 57) (.cst (iv 0)))]
def e9u:List CO:= [
  mV 59 12,
 mV 8 59]
def c3J:List CO:= [
  mV 60 1,
 fA 61 1 6,
 lD 62 61,
 mV 63 11,
 C 64 Z5 [(tm 60),(tm 62),(tm 63)],
 mV 8 64]
def c8r:List CO:= [
  O 6 (.mv (.cst (iv 0)))]
def d1Y:List CO:= [
  mV 7 0,
 mV 8 1,
 mV 9 2,
 C 10 V2 [(tm 7),(.cst (.func V6 [])),(.cst (.func V1 [])),(tm 8),(tm 9)],
 mV 6 10]
def c6u:List CO:= [
  O 4 (.mv (.cst i7)),
 O 5 (.mv (.cst (.b false)))]
def c7y:List CO:= [
  mV 8 0,
 nL 9 8,
 fA 10 1 9,
 lD 11 10,
 C 12 b0l [(tm 11)],
 O 13 (.len false (tm 12)),
 O 14 (.mv (.cst (iv 0)))]
def c7F:List CO:= [
  O 15 (.lt (B .lss b0) (tm 14) (tm 13))]
def f0t:List CO:= [
  O 16 (.iaS 2 (tm 12) (tm 14)),
 O 17 (.loadN 2 (tm 16)),
 O 7 (.alloc a6K 2 [(iv 0),i7]),
 .op none none (.store 2 (tm 7) (tm 17))]
def f1x:List CO:= [
  fA 18 0 7,
 lD 19 18,
 mV 20 1,
 O 21 (.eq (B .eql b0) (tm 19) (tm 20))]
def f2e:List CO:= [
  fA 22 1 7,
 lD 23 22,
 mV 4 23,
 O 5 (.mv (.cst (.b true)))]
def f0q:List CO:= [
  O 24 (.add (B .add b0) (tm 14) (.cst (iv 1))),
 mV 14 24]
def d7Y:List CO:= [
  O 4 (.mv (.cst i7)),
 O 5 (.mv (.cst (.b false)))]
def d8d:List CO:= [
  O 6 (.mv (.cst (iv 0)))]
def d3G:List CO:= [
  mV 9 0,
 O 10 (.rangeS (tm 9))]
def a9q:List CO:= [
  O 11 (.nextS (tm 10)),
 eX 12 0 11]
def d4p:List CO:= [
  eX 13 1 11,
 eX 14 2 11,
 mV 7 13,
 mV 8 14]
def c75:List CO:= [
  mV 15 1,
 mV 16 8,
 .call (some (pth 17)) none (tm 15) [(tm 16)],
 mV 18 2,
 O 19 (.eq (B .eql b9g) (tm 17) (tm 18))]
def f0s:List CO:= [
  mV 20 7,
 mV 6 20]
def d6D:List CO:= [
  O 6 (.mv (.cst (iv (-1))))]
def d4z:List CO:= [
  O 6 (.mv (.cst i7)),
 O 7 (.mv (.cst (.b false)))]
def c7R:List CO:= [
  mV 8 1,
 O 9 (.lt (B .lss b0) (tm 8) (.cst (iv 0))),
 mV 10 9,
 G 11 10 false (.mv (tm 2)),
 G 12 10 false (.lt (B .lss b0) (tm 11) (.cst (iv 0))),
 O 13 (.pick (tm 10) (.cst (.b true)) (tm 12)),
 mV 14 13,
 G 15 14 false (.mv (tm 1)),
 G 16 14 false (.mv (tm 0)),
 G 17 14 false (.len false (tm 16)),
 G 18 14 false (.gt (B .gtr b0) (tm 15) (tm 17)),
 O 19 (.pick (tm 14) (.cst (.b true)) (tm 18)),
 mV 20 19,
 G 21 20 false (.mv (tm 2)),
 G 22 20 false (.mv (tm 0)),
 G 23 20 false (.len false (tm 22)),
 G 24 20 false (.mv (tm 1)),
 G 25 20 false (.sub (B .sub b0) (tm 23) (tm 24)),
 G 26 20 false (.gt (B .gtr b0) (tm 21) (tm 25)),
 O 27 (.pick (tm 20) (.cst (.b true)) (tm 26))]
def f0H:List CO:= [
  O 6 (.mv (.cst i7)),
 O 7 (.mv (.cst (.b false)))]
def d3Q:List CO:= [
  mV 28 0,
 mV 29 1,
 mV 30 1,
 mV 31 2,
 O 32 (.add (B .add b0) (tm 30) (tm 31)),
 O 33 (.sl 1 false (tm 28) (some (tm 29)) (some (tm 32)) none),
 mV 6 33,
 O 7 (.mv (.cst (.b true)))]
def a8B:List CO:= [
  O 4 (.mv (.cst (tv []))),
 O 5 (.mv (.cst (tv []))),
 O 6 (.mv (.cst (.b false)))]
def a88:List CO:= [
  mV 8 0,
 mV 9 1,
 C 10 a2i [(tm 8),(tm 9)],
 mV 7 10]
def a8O:List CO:= [
  mV 11 7,
 O 12 (.ge (B .geq b0) (tm 11) (.cst (iv 0)))]
def c7g:List CO:= [
  mV 13 0,
 mV 14 7,
 O 15 (.sls (tm 13) none (some (tm 14))),
 mV 16 0,
 mV 17 7,
 mV 18 1,
 O 19 (.len true (tm 18)),
 O 20 (.add (B .add b0) (tm 17) (tm 19)),
 O 21 (.sls (tm 16) (some (tm 20)) none),
 mV 4 15,
 mV 5 21,
 O 6 (.mv (.cst (.b true)))]
def d0v:List CO:= [
  mV 22 0,
 mV 4 22,
 O 5 (.mv (.cst (tv []))),
 O 6 (.mv (.cst (.b false)))]
def d64:List CO:= [
  O 4 (.mv (.cst (tv [])))]
def c7m:List CO:= [
  mV 5 0,
 O 6 (.len true (tm 5)),
 O 7 (.gt (B .gtr b0) (tm 6) (.cst (iv 0))),
 mV 8 7,
 G 9 8 true (.mv (tm 0)),
 G 10 8 true (.ixS (tm 9) (.cst (iv 0))),
 G 11 8 true (.mv (tm 1)),
 G 12 8 true (.eq (B .eql j6) (tm 10) (tm 11)),
 O 13 (.pick (tm 8) (tm 12) (.cst (.b false)))]
def f0W:List CO:= [
  mV 14 0,
 O 15 (.sls (tm 14) (some (.cst (iv 1))) none),
 mV 0 15]
def d1o:List CO:= [
  mV 16 0,
 mV 4 16]
def d7P:List CO:= [
  O 4 (.mv (.cst (tv [])))]
def a93:List CO:= [
  mV 5 0,
 O 6 (.len true (tm 5)),
 O 7 (.gt (B .gtr b0) (tm 6) (.cst (iv 0))),
 mV 8 7,
 G 9 8 true (.mv (tm 0)),
 G 10 8 true (.mv (tm 0)),
 G 11 8 true (.len true (tm 10)),
 G 12 8 true (.sub (B .sub b0) (tm 11) (.cst (iv 1))),
 G 13 8 true (.ixS (tm 9) (tm 12)),
 G 14 8 true (.mv (tm 1)),
 G 15 8 true (.eq (B .eql j6) (tm 13) (tm 14)),
 O 16 (.pick (tm 8) (tm 15) (.cst (.b false)))]
def d1A:List CO:= [
  mV 17 0,
 mV 18 0,
 O 19 (.len true (tm 18)),
 O 20 (.sub (B .sub b0) (tm 19) (.cst (iv 1))),
 O 21 (.sls (tm 17) none (some (tm 20))),
 mV 0 21]
def d6K:List CO:= [
  mV 22 0,
 mV 4 22]
def c9q:List CO:= [
  lD 4 1,
 O 5 (.len false (tm 4)),
 O 6 (.sub (B .sub b0) (tm 5) (.cst (iv 1))),
 mV 3 6]
def a98:List CO:= [
  mV 7 3,
 O 8 (.ge (B .geq b0) (tm 7) (.cst (iv 0)))]
def d3n:List CO:= [
  mV 11 0,
 mV 12 3,
 lD 13 1,
 mV 14 3,
 O 15 (.iaS 1 (tm 13) (tm 14)),
 lD 16 15,
 .call (some (pth 17)) none (tm 11) [(tm 12),(tm 16)],
 O 18 (.un .not (tm 17))]
def c6a:List CO:= [
  mV 9 3,
 O 10 (.sub (B .sub b0) (tm 9) (.cst (iv 1))),
 mV 3 10]
def c87:List CO:= [
  O 5 (.box W5 (tm 0)),
 O 10 (.mv (.cst (iv 0))),
 O 11 (.mv (.cst (iv 0)))]
def a9j:List CO:= [
  mV 14 2,
 mV 12 14,
 O 13 (.mv (.cst (iv 0)))]
def a4r:List CO:= [
  O 16 (.loadN 2 (tm 5)),
 mV 17 1,
 mV 18 12,
 mV 19 3,
 C 20 b0S [(tm 16),(tm 17),(tm 18),(tm 19)],
 mV 15 20,
 eX 21 0 15,
 eX 22 1 15,
 mV 12 21,
 mV 13 22]
def a0G:List CO:= [
  mV 24 13,
 O 25 (.ne (B .neq j7) (tm 24) (.cst (iv 0))),
 mV 23 25]
def a8D:List CO:= [
  mV 26 13,
 O 10 (.mv (.cst (iv 0))),
 mV 11 26]
def a0y:List CO:= [
  mV 28 12,
 mV 29 3,
 O 30 (.ge (B .geq b0) (tm 28) (tm 29)),
 mV 27 30]
def a4n:List CO:= [
  O 10 (.mv (.cst (iv 0))),
 O 11 (.mv (.cst (iv 10)))]
def a1S:List CO:= [
  mV 32 4,
 mV 33 12,
 .call (some (pth 34)) none (tm 32) [(tm 33)],
 mV 31 34]
def a3T:List CO:= [
  mV 35 12,
 O 36 (.add (B .add b0) (tm 35) (.cst (iv 1))),
 mV 12 36]
def a4d:List CO:= [
  O 37 (.loadN 2 (tm 5)),
 mV 38 1,
 mV 39 12,
 C 40 b0B [(tm 37),(tm 38),(tm 39),(.cst (.b true))],
 mV 13 40]
def a3H:List CO:= [
  mV 41 13,
 O 42 (.ne (B .neq j7) (tm 41) (.cst (iv 0)))]
def a8d:List CO:= [
  mV 43 13,
 O 10 (.mv (.cst (iv 0))),
 mV 11 43]
def a3F:List CO:= [
  mV 44 12,
 mV 10 44,
 O 11 (.mv (.cst (iv 0)))]
noncomputable def a0l:Code:=c1i (Tryz.prog.funcs[181]?)
noncomputable def b5k:CC:=(.seq (.reg a9j) (.seq .skip (.seq (.reg a4r) (.seq (.block 0 (.seq (.reg a0G) (.cond (tm 23) (.seq (.reg a8D) .ret) (.seq (.reg a0y) (.cond (tm 27) (.seq (.reg a4n) .ret) (.seq (.reg a1S) (.cond (tm 31) (.seq (.reg a3T) (.goto 0)) .skip))))))) (.seq (.seq (.reg a4d) (.seq (.reg a3H) (.cond (tm 42) (.seq (.reg a8d) .ret) .skip))) (.seq (.reg a3F) .ret))))))
theorem e5g:i8 Tryz.prog a0l=b5k:=by kernel_rfl
noncomputable def a2Z:CC:=(.seq .skip (.seq (.reg a4r) (.seq (.block 0 (.seq (.reg a0G) (.cond (tm 23) (.seq (.reg a8D) .ret) (.seq (.reg a0y) (.cond (tm 27) (.seq (.reg a4n) .ret) (.seq (.reg a1S) (.cond (tm 31) (.seq (.reg a3T) (.goto 0)) .skip))))))) (.seq (.seq (.reg a4d) (.seq (.reg a3H) (.cond (tm 42) (.seq (.reg a8d) .ret) .skip))) (.seq (.reg a3F) .ret)))))
theorem e4F:findLabel a0l 0=some (T8 a0l 0):=by kernel_rfl
theorem e4D:i8 Tryz.prog (T8 a0l 0)=a2Z:=by kernel_rfl
def a87:List CO:= [
  O 4 (.mv (.cst (.b false)))]
def a85:List CO:= [
  mV 9 0,
 O 10 (.eqp false (B .eql a59) (tm 9) (.cst l9))]
def f1Z:List CO:= [
  O 4 (.mv (.cst (.b false)))]
def a9Z:List CO:= [
  mV 12 0,
 nL 13 12,
 fA 14 16 13,
 lD 15 14,
 mV 16 1,
 O 17 (.look (some .i64) (.agg []) true (tm 15) (tm 16)),
 mV 11 17,
 eX 18 0 11,
 eX 19 1 11,
 O 5 (.alloc b5N 0 []),
 .op none none (.store 0 (tm 5) (tm 18)),
 mV 6 19]
def a82:List CO:= [
  mV 21 0,
 mV 22 1,
 C 23 a48 [(tm 21),(tm 22)],
 mV 20 23,
 eX 24 0 20,
 eX 25 1 20,
 mV 7 24,
 mV 8 25]
def a8V:List CO:= [
  mV 26 0,
 nL 27 26,
 fA 28 17 27,
 lD 29 28,
 O 30 (.eqp true (B .neq E6) (tm 29) (.cst l9)),
 mV 31 30,
 G 32 31 true (.mv (tm 6)),
 G 33 31 true (.un .not (tm 32)),
 O 34 (.pick (tm 31) (tm 33) (.cst (.b false)))]
def a9X:List CO:= [
  mV 36 0,
 nL 37 36,
 fA 38 17 37,
 lD 39 38,
 nL 40 39,
 fA 41 3 40,
 lD 42 41,
 mV 43 1,
 O 44 (.look (some .i64) (.agg []) true (tm 42) (tm 43)),
 mV 35 44,
 eX 45 0 35,
 eX 46 1 35,
 mV 6 46]
def a8G:List CO:= [
  mV 47 6,
 mV 48 47,
 G 49 48 false (.mv (tm 8)),
 O 50 (.pick (tm 48) (.cst (.b true)) (tm 49)),
 mV 4 50]
def d1B:List CO:= [
  O 2 (.mv (.cst b04))]
def d86:List CO:= [
  mV 3 0,
 nL 4 3,
 fA 5 2 4,
 lD 6 5,
 mV 2 6]
def d5C:List CO:= [
  O 1 (.box x9 (tm 0)),
 O 2 (.mv (.cst (iv 0)))]
def d5m:List CO:= [
  fA 3 11 1,
 lD 4 3,
 mV 2 4]
def c9H:List CO:= [
  O 2 (.mv (.cst i7))]
def c6i:List CO:= [
  mV 6 0,
 O 7 (.eqp false (B .eql b4G) (tm 6) (.cst l9))]
def f02:List CO:= [
  O 2 (.mv (.cst i7))]
def c9n:List CO:= [
  O 3 (.mv (.cst i7))]
def d0C:List CO:= [
  mV 8 0,
 nL 9 8,
 fA 10 16 9,
 lD 11 10,
 C 12 b0H [(tm 11)],
 C 13 a7t [(tm 12)],
 O 14 (.len false (tm 13)),
 O 15 (.mv (.cst (iv 0)))]
def d59:List CO:= [
  O 16 (.lt (B .lss b0) (tm 15) (tm 14))]
def f1r:List CO:= [
  O 17 (.iaS 1 (tm 13) (tm 15)),
 lD 18 17,
 mV 5 18]
def f1d:List CO:= [
  mV 19 3,
 mV 20 5,
 mV 21 0,
 nL 22 21,
 fA 23 16 22,
 lD 24 23,
 mV 25 5,
 O 26 (.look (some .i64) i7 false (tm 24) (tm 25)),
 C 27 V5 [(tm 26)],
 O 28 (.build [(iv 0),i7] [(0,1,(tm 20)),(1,1,(tm 27))]),
 O 29 (.bslice a6K 1 2 [(iv 0),i7] [(0,2,(tm 28))]),
 O 30 (.app a6K 2 32 [(iv 0),i7] (tm 19) (tm 29)),
 mV 3 30]
def f1M:List CO:= [
  O 31 (.add (B .add b0) (tm 15) (.cst (iv 1))),
 mV 15 31]
def d4B:List CO:= [
  mV 32 3,
 mV 2 32]
def c8j:List CO:= [
  O 4 (.mv (.cst (iv 0)))]
def c6v:List CO:= [
  mV 14 1,
 O 15 (.len true (tm 14)),
 mV 5 15]
def c9i:List CO:= [
  mV 17 5,
 O 18 (.eq (B .eql b0) (tm 17) (.cst (iv 0))),
 mV 19 18,
 G 20 19 false (.mv (tm 1)),
 G 21 19 false (.mv (tm 0)),
 G 22 19 false (.eq (B .eql D6) (tm 20) (tm 21)),
 O 23 (.pick (tm 19) (.cst (.b true)) (tm 22)),
 mV 16 23]
def f2o:List CO:= [
  O 4 (.mv (.cst (iv 0)))]
def d7D:List CO:= [
  mV 25 5,
 O 26 (.eq (B .eql b0) (tm 25) (.cst (iv 1))),
 mV 24 26]
def c6V:List CO:= [
  mV 27 0,
 mV 28 1,
 O 29 (.ixS (tm 28) (.cst (iv 0))),
 C 30 a4Y [(tm 27),(tm 29)],
 mV 4 30]
def f01:List CO:= [
  mV 32 5,
 mV 33 0,
 O 34 (.len true (tm 33)),
 O 35 (.ge (B .geq b0) (tm 32) (tm 34)),
 mV 31 35]
def f1I:List CO:= [
  O 4 (.mv (.cst (iv (-1))))]
def f0r:List CO:= [
  mV 37 5,
 O 38 (.load (.cst (.p (.pointer (some ⟨0,0,none⟩))))),
 O 39 (.le (B .leq b0) (tm 37) (tm 38)),
 mV 40 39,
 G 41 40 true (.mv (tm 0)),
 G 42 40 true (.len true (tm 41)),
 G 43 40 true (.le (B .leq b0) (tm 42) (.cst (iv 64))),
 O 44 (.pick (tm 40) (tm 43) (.cst (.b false))),
 mV 36 44]
def f2m:List CO:= [
  mV 45 0,
 mV 46 1,
 C 47 b1j [(tm 45),(tm 46)],
 mV 4 47]
def e8t:List CO:= [
  mV 48 1,
 O 49 (.ixS (tm 48) (.cst (iv 0))),
 mV 6 49]
def e9r:List CO:= [
  mV 50 1,
 O 51 (.ixS (tm 50) (.cst (iv 1))),
 mV 7 51]
def e9O:List CO:= [
  O 8 (.mv (.cst (iv 0)))]
def e9o:List CO:= [
  mV 52 0,
 O 53 (.len true (tm 52)),
 mV 54 5,
 O 55 (.sub (B .sub b0) (tm 53) (tm 54)),
 O 56 (.add (B .add b0) (tm 55) (.cst (iv 1))),
 mV 9 56]
def e86:List CO:= [
  O 10 (.mv (.cst (iv 0)))]
def e9I:List CO:= [
  mV 57 8,
 mV 58 9,
 O 59 (.lt (B .lss b0) (tm 57) (tm 58))]
def e8r:List CO:= [
  mV 60 0,
 mV 61 8,
 O 62 (.ixS (tm 60) (tm 61)),
 mV 63 6,
 O 64 (.ne (B .neq j6) (tm 62) (tm 63))]
def e9N:List CO:= [
  mV 65 0,
 mV 66 8,
 O 67 (.add (B .add b0) (tm 66) (.cst (iv 1))),
 mV 68 9,
 O 69 (.sls (tm 65) (some (tm 67)) (some (tm 68))),
 mV 70 6,
 C 71 a4Y [(tm 69),(tm 70)],
 mV 11 71]
def e9x:List CO:= [
  mV 72 11,
 O 73 (.lt (B .lss b0) (tm 72) (.cst (iv 0)))]
def e8u:List CO:= [
  O 4 (.mv (.cst (iv (-1))))]
def e8K:List CO:= [
  mV 74 8,
 mV 75 11,
 O 76 (.add (B .add b0) (tm 75) (.cst (iv 1))),
 O 77 (.add (B .add b0) (tm 74) (tm 76)),
 mV 8 77]
def e8R:List CO:= [
  mV 78 0,
 mV 79 8,
 O 80 (.add (B .add b0) (tm 79) (.cst (iv 1))),
 O 81 (.ixS (tm 78) (tm 80)),
 mV 82 7,
 O 83 (.eq (B .eql j6) (tm 81) (tm 82)),
 mV 84 83,
 G 85 84 true (.mv (tm 0)),
 G 86 84 true (.mv (tm 8)),
 G 87 84 true (.mv (tm 8)),
 G 88 84 true (.mv (tm 5)),
 G 89 84 true (.add (B .add b0) (tm 87) (tm 88)),
 G 90 84 true (.sls (tm 85) (some (tm 86)) (some (tm 89))),
 G 91 84 true (.mv (tm 1)),
 G 92 84 true (.eq (B .eql D6) (tm 90) (tm 91)),
 O 93 (.pick (tm 84) (tm 92) (.cst (.b false)))]
def e8A:List CO:= [
  mV 94 8,
 mV 4 94]
def e9b:List CO:= [
  mV 95 8,
 O 96 (.add (B .add b0) (tm 95) (.cst (iv 1))),
 mV 8 96]
def e8h:List CO:= [
  mV 97 10,
 O 98 (.add (B .add b0) (tm 97) (.cst (iv 1))),
 mV 10 98]
def e97:List CO:= [
  mV 99 5,
 O 100 (.load (.cst (.p (.pointer (some ⟨0,0,none⟩))))),
 O 101 (.le (B .leq b0) (tm 99) (tm 100)),
 mV 102 101,
 G 103 102 true (.mv (tm 10)),
 G 104 102 true (.mv (tm 8)),
 .call (some (pth 105)) (some (pth 102,true)) (.cst (.func e2N [])) [(tm 104)],
 G 106 102 true (.gt (B .gtr b0) (tm 103) (tm 105)),
 O 107 (.pick (tm 102) (tm 106) (.cst (.b false)))]
def e9a:List CO:= [
  mV 108 0,
 mV 109 8,
 O 110 (.sls (tm 108) (some (tm 109)) none),
 mV 111 1,
 C 112 b1j [(tm 110),(tm 111)],
 mV 12 112]
def e8O:List CO:= [
  mV 113 12,
 O 114 (.ge (B .geq b0) (tm 113) (.cst (iv 0)))]
def e84:List CO:= [
  mV 115 12,
 mV 116 8,
 O 117 (.add (B .add b0) (tm 115) (tm 116)),
 mV 4 117]
def e93:List CO:= [
  O 4 (.mv (.cst (iv (-1))))]
def e9e:List CO:= [
  mV 118 5,
 O 119 (.load (.cst (.p (.pointer (some ⟨0,0,none⟩))))),
 O 120 (.gt (B .gtr b0) (tm 118) (tm 119)),
 mV 121 120,
 G 122 121 true (.mv (tm 10)),
 G 123 121 true (.mv (tm 8)),
 G 124 121 true (.slow (B .shr b0) (tm 123) (.cst (.p (.int .u64 (4))))),
 G 125 121 true (.add (B .add b0) (.cst (iv 4)) (tm 124)),
 G 126 121 true (.ge (B .geq b0) (tm 122) (tm 125)),
 O 127 (.pick (tm 121) (tm 126) (.cst (.b false))),
 mV 128 127,
 G 129 128 true (.mv (tm 8)),
 G 130 128 true (.mv (tm 9)),
 G 131 128 true (.lt (B .lss b0) (tm 129) (tm 130)),
 O 132 (.pick (tm 128) (tm 131) (.cst (.b false)))]
def e9B:List CO:= [
  mV 133 0,
 mV 134 8,
 O 135 (.sls (tm 133) (some (tm 134)) none),
 mV 136 1,
 C 137 e2K [(tm 135),(tm 136)],
 mV 13 137]
def e8D:List CO:= [
  mV 138 13,
 O 139 (.lt (B .lss b0) (tm 138) (.cst (iv 0)))]
def e9S:List CO:= [
  O 4 (.mv (.cst (iv (-1))))]
def e8o:List CO:= [
  mV 140 8,
 mV 141 13,
 O 142 (.add (B .add b0) (tm 140) (tm 141)),
 mV 4 142]
def e8g:List CO:= [
  O 4 (.mv (.cst (iv (-1))))]
def d6X:List CO:= [
  O 4 (.box W5 (tm 0)),
 O 8 (.mv (.cst (iv 0))),
 O 9 (.mv (.cst (iv 0)))]
def a4w:List CO:= [
  mV 14 2,
 mV 15 3,
 O 16 (.lt (B .lss b0) (tm 14) (tm 15))]
def d2d:List CO:= [
  mV 18 1,
 fA 19 0 4,
 lD 20 19,
 mV 21 2,
 fA 22 1 4,
 lD 23 22,
 O 24 (.quo (B .quo b0) (tm 21) (tm 23)),
 O 25 (.add (B .add b0) (tm 20) (tm 24)),
 C 26 M2 [(tm 18),(tm 25)],
 mV 17 26,
 eX 27 0 17,
 eX 28 1 17,
 mV 10 27,
 mV 11 28]
def c9b:List CO:= [
  mV 29 11,
 O 30 (.ne (B .neq j7) (tm 29) (.cst (iv 0)))]
def f1h:List CO:= [
  mV 31 11,
 O 8 (.mv (.cst (iv 0))),
 mV 9 31]
def d6w:List CO:= [
  mV 32 2,
 fA 33 1 4,
 lD 34 33,
 O 35 (.quo (B .quo b0) (tm 32) (tm 34)),
 fA 36 1 4,
 lD 37 36,
 O 38 (.mul (B .mul b0) (tm 35) (tm 37)),
 mV 12 38]
def d6j:List CO:= [
  mV 40 10,
 mV 41 2,
 mV 42 12,
 O 43 (.sub (B .sub b0) (tm 41) (tm 42)),
 mV 44 3,
 mV 45 12,
 O 46 (.sub (B .sub b0) (tm 44) (tm 45)),
 fA 47 1 4,
 lD 48 47,
 O 49 (.min (tm 46) (tm 48)),
 C 50 b0N [(tm 40),(tm 43),(tm 49)],
 mV 39 50,
 eX 51 0 39,
 eX 52 1 39,
 mV 13 51,
 mV 11 52]
def a9u:List CO:= [
  mV 53 11,
 O 54 (.eq (B .eql j7) (tm 53) (.cst (iv 0)))]
def d0d:List CO:= [
  mV 55 12,
 mV 56 13,
 O 57 (.add (B .add b0) (tm 55) (tm 56)),
 mV 8 57,
 O 9 (.mv (.cst (iv 0)))]
def d2T:List CO:= [
  mV 58 12,
 fA 59 1 4,
 lD 60 59,
 O 61 (.add (B .add b0) (tm 58) (tm 60)),
 mV 2 61]
def a8i:List CO:= [
  mV 62 3,
 mV 8 62,
 O 9 (.mv (.cst (iv 0)))]
def d1M:List CO:= [
  O 4 (.box W5 (tm 0)),
 O 8 (.mv (.cst (iv 0)))]
def d9m:List CO:= [
  mV 12 1,
 fA 13 0 4,
 lD 14 13,
 mV 15 2,
 fA 16 1 4,
 lD 17 16,
 O 18 (.quo (B .quo b0) (tm 15) (tm 17)),
 O 19 (.add (B .add b0) (tm 14) (tm 18)),
 C 20 M2 [(tm 12),(tm 19)],
 mV 11 20,
 eX 21 0 11,
 eX 22 1 11,
 mV 9 21,
 mV 10 22]
def c9y:List CO:= [
  mV 23 10,
 O 24 (.ne (B .neq j7) (tm 23) (.cst (iv 0)))]
def f08:List CO:= [
  mV 25 10,
 mV 8 25]
def d9e:List CO:= [
  mV 27 9,
 mV 28 2,
 fA 29 1 4,
 lD 30 29,
 O 31 (.rem (B .rem b0) (tm 28) (tm 30)),
 mV 32 3,
 C 33 b0L [(tm 27),(tm 31),(tm 32)],
 mV 26 33,
 eX 34 0 26,
 eX 35 1 26,
 mV 9 34]
def d8Y:List CO:= [
  mV 36 1,
 fA 37 0 4,
 lD 38 37,
 mV 39 2,
 fA 40 1 4,
 lD 41 40,
 O 42 (.quo (B .quo b0) (tm 39) (tm 41)),
 O 43 (.add (B .add b0) (tm 38) (tm 42)),
 mV 44 9,
 C 45 Z5 [(tm 36),(tm 43),(tm 44)],
 mV 8 45]
def c8x:List CO:= [
  O 1 (.box a2J (tm 0)),
 O 2 (.mv (.cst b1h))]
def d4f:List CO:= [
  O 3 (.fn a3j [(tm 1)]),
 mV 2 3]
def c79:List CO:= [
  O 4 (.mv (.cst (iv 0)))]
def d6o:List CO:= [
  mV 5 0,
 mV 6 1,
 C 7 b1i [(tm 5),(tm 6)],
 mV 4 7]
def d3t:List CO:= [
  O 6 (.mv (.cst (iv 0))),
 O 7 (.mv (.cst (iv 0)))]
def a8C:List CO:= [
  mV 9 0,
 mV 10 1,
 mV 11 2,
 C 12 b0b [(tm 9),(tm 10),(tm 11)],
 O 13 (.un .not (tm 12))]
def a89:List CO:= [
  O 6 (.mv (.cst (iv 0))),
 O 7 (.mv (.cst (iv 2)))]
def a9U:List CO:= [
  mV 14 1,
 mV 8 14]
def Y0:List CO:= [
  mV 15 8,
 mV 16 2,
 O 17 (.ge (B .geq b0) (tm 15) (tm 16))]
def a39:List CO:= [
  O 6 (.mv (.cst (iv 0))),
 O 7 (.mv (.cst (iv 11)))]
def a0L:List CO:= [
  mV 18 8,
 O 19 (.rem (B .rem b0) (tm 18) (.cst (iv 8))),
 O 20 (.eq (B .eql b0) (tm 19) (.cst (iv 0)))]
def O9:List CO:= [
  mV 21 0,
 mV 22 8,
 O 23 (.quo (B .quo b0) (tm 22) (.cst (iv 8))),
 O 24 (.iaS 1 (tm 21) (tm 23)),
 lD 25 24,
 mV 26 8,
 O 27 (.rem (B .rem b0) (tm 26) (.cst (iv 8))),
 O 28 (.slow (B .shr j6) (tm 25) (tm 27)),
 O 29 (.and (B .and j6) (tm 28) (.cst (.y 1))),
 O 30 (.eq (B .eql j6) (tm 29) (.cst (.y 0)))]
def Y2:List CO:= [
  mV 31 8,
 mV 6 31,
 O 7 (.mv (.cst (iv 0)))]
def Y9:List CO:= [
  mV 32 8,
 O 33 (.add (B .add b0) (tm 32) (.cst (iv 1))),
 mV 8 33]
def O4:List CO:= [
  mV 34 0,
 mV 35 8,
 O 36 (.quo (B .quo b0) (tm 35) (.cst (iv 8))),
 O 37 (.iaS 1 (tm 34) (tm 36)),
 lD 38 37,
 O 39 (.ne (B .neq j6) (tm 38) (.cst (.y 255)))]
def T0:List CO:= [
  mV 40 8,
 O 41 (.add (B .add b0) (tm 40) (.cst (iv 8))),
 mV 8 41]
noncomputable def H3:Code:=c1i (Tryz.prog.funcs[210]?)
noncomputable def b39:CC:=(.seq (.seq (.reg a8C) (.cond (tm 13) (.seq (.reg a89) .ret) .skip)) (.seq (.reg a9U) (.seq .skip (.seq (.seq (.reg Y0) (.cond (tm 17) (.seq (.reg a39) .ret) .skip)) (.seq (.seq (.reg a0L) (.cond (tm 20) (.goto 1) .skip)) (.seq .skip (.seq (.seq (.reg O9) (.cond (tm 30) (.seq (.reg Y2) .ret) .skip)) (.seq (.reg Y9) (.seq (.goto 0) (.seq .skip (.seq (.seq (.reg O4) (.cond (tm 39) (.goto 2) .skip)) (.seq (.reg T0) (.goto 0)))))))))))))
theorem e4k:i8 Tryz.prog H3=b39:=by kernel_rfl
noncomputable def a2M:CC:=(.seq .skip (.seq (.seq (.reg Y0) (.cond (tm 17) (.seq (.reg a39) .ret) .skip)) (.seq (.seq (.reg a0L) (.cond (tm 20) (.goto 1) .skip)) (.seq .skip (.seq (.seq (.reg O9) (.cond (tm 30) (.seq (.reg Y2) .ret) .skip)) (.seq (.reg Y9) (.seq (.goto 0) (.seq .skip (.seq (.seq (.reg O4) (.cond (tm 39) (.goto 2) .skip)) (.seq (.reg T0) (.goto 0)))))))))))
theorem a5W:findLabel H3 0=some (T8 H3 0):=by kernel_rfl
theorem a54:i8 Tryz.prog (T8 H3 0)=a2M:=by kernel_rfl
noncomputable def a5X:CC:=(.seq .skip (.seq (.seq (.reg O9) (.cond (tm 30) (.seq (.reg Y2) .ret) .skip)) (.seq (.reg Y9) (.seq (.goto 0) (.seq .skip (.seq (.seq (.reg O4) (.cond (tm 39) (.goto 2) .skip)) (.seq (.reg T0) (.goto 0))))))))
theorem e3w:findLabel H3 2=some (T8 H3 2):=by kernel_rfl
theorem e3H:i8 Tryz.prog (T8 H3 2)=a5X:=by kernel_rfl
noncomputable def b3L:CC:=(.seq .skip (.seq (.seq (.reg O4) (.cond (tm 39) (.goto 2) .skip)) (.seq (.reg T0) (.goto 0))))
theorem e3R:findLabel H3 1=some (T8 H3 1):=by kernel_rfl
theorem e3L:i8 Tryz.prog (T8 H3 1)=b3L:=by kernel_rfl
def a8A:List CO:= [
  O 6 (.mv (.cst i7)),
 O 7 (.mv (.cst (iv 0)))]
def a9Y:List CO:= [
  mV 9 1,
 O 10 (.lt (B .lss b0) (tm 9) (.cst (iv 0))),
 mV 11 10,
 G 12 11 false (.mv (tm 1)),
 G 13 11 false (.quo (B .quo b0) (tm 12) (.cst (iv 8))),
 G 14 11 false (.mv (tm 0)),
 G 15 11 false (.len false (tm 14)),
 G 16 11 false (.ge (B .geq b0) (tm 13) (tm 15)),
 O 17 (.pick (tm 11) (.cst (.b true)) (tm 16))]
def f0X:List CO:= [
  O 6 (.mv (.cst i7)),
 O 7 (.mv (.cst (iv 2)))]
def a80:List CO:= [
  mV 18 0,
 C 19 V5 [(tm 18)],
 mV 8 19]
def a9r:List CO:= [
  mV 20 2]
def c65:List CO:= [
  mV 21 8,
 mV 22 1,
 O 23 (.quo (B .quo b0) (tm 22) (.cst (iv 8))),
 O 24 (.iaS 1 (tm 21) (tm 23)),
 lD 25 24,
 mV 26 1,
 O 27 (.rem (B .rem b0) (tm 26) (.cst (iv 8))),
 O 28 (.slow (B .shl j6) (.cst (.y 1)) (tm 27)),
 O 29 (.slow (B .or j6) (tm 25) (tm 28)),
 O 30 (.iaS 1 (tm 21) (tm 23)),
 .op none none (.store 1 (tm 30) (tm 29))]
def d23:List CO:= [
  mV 31 8,
 mV 32 1,
 O 33 (.quo (B .quo b0) (tm 32) (.cst (iv 8))),
 O 34 (.iaS 1 (tm 31) (tm 33)),
 lD 35 34,
 mV 36 1,
 O 37 (.rem (B .rem b0) (tm 36) (.cst (iv 8))),
 O 38 (.slow (B .shl j6) (.cst (.y 1)) (tm 37)),
 O 39 (.slow (B .andNot j6) (tm 35) (tm 38)),
 O 40 (.iaS 1 (tm 31) (tm 33)),
 .op none none (.store 1 (tm 40) (tm 39))]
def a9A:List CO:= [
  mV 41 8,
 mV 6 41,
 O 7 (.mv (.cst (iv 0)))]
def d8m:List CO:= [
  O 6 (.mv (.cst (.b false)))]
def d8J:List CO:= [
  mV 7 1,
 O 8 (.ge (B .geq b0) (tm 7) (.cst (iv 0))),
 mV 9 8,
 G 10 9 true (.mv (tm 1)),
 G 11 9 true (.mv (tm 2)),
 G 12 9 true (.le (B .leq b0) (tm 10) (tm 11)),
 O 13 (.pick (tm 9) (tm 12) (.cst (.b false))),
 mV 14 13,
 G 15 14 true (.mv (tm 2)),
 G 16 14 true (.mv (tm 0)),
 G 17 14 true (.len false (tm 16)),
 G 18 14 true (.mul (B .mul b0) (.cst (iv 8)) (tm 17)),
 G 19 14 true (.le (B .leq b0) (tm 15) (tm 18)),
 O 20 (.pick (tm 14) (tm 19) (.cst (.b false))),
 mV 6 20]
def a19:CC:=(.seq (.reg a4H) .ret)
def a17:CC:=(.cond (tm 16) a19 .skip)
def a0C:CC:=(.seq (.reg a4J) a17)
def a1P:CC:=(.reg a4T)
def a1X:CC:=(.cond (tm 22) a1P .skip)
def a0B:CC:=(.seq (.reg a4p) a1X)
def b9T:CC:=(.cond (tm 32) .skip (.exit 0))
def c1h:CC:=(.seq (.reg a9x) b9T)
def b78:CC:=(.reg c3r)
def c1e:CC:=(.block 1 b78)
def c0Z:CC:=(.reg d5g)
def c0E:CC:=(.seq c1e c0Z)
def c5t:CC:=(.seq c1h c0E)
def b7L:CC:=(.loop c5t)
def c1W:CC:=(.block 0 b7L)
def c2I:CC:=(.seq (.reg c76) c1W)
def b9l:CC:=(.seq (.reg e8w) .ret)
def c02:CC:=(.cond (tm 77) b9l .skip)
def b7W:CC:=(.seq (.reg b70) c02)
def b9Z:CC:=(.cond (tm 80) .skip (.exit 2))
def c4I:CC:=(.seq (.reg a71) b9Z)
def c17:CC:=(.reg c5P)
def c16:CC:=(.block 3 c17)
def b9A:CC:=(.reg c1u)
def c3K:CC:=(.seq c16 b9A)
def c0v:CC:=(.seq c4I c3K)
def c5k:CC:=(.loop c0v)
def c24:CC:=(.block 2 c5k)
def c2f:CC:=(.seq (.reg c33) c24)
def b8H:CC:=(.seq (.reg e8P) .ret)
def c2q:CC:=(.cond (tm 112) b8H .skip)
def c5q:CC:=(.seq (.reg c49) c2q)
def b9D:CC:=(.cond (tm 115) .skip (.exit 4))
def c1w:CC:=(.seq (.reg a8r) b9D)
def b9q:CC:=(.seq (.reg e9D) .ret)
def b8Q:CC:=(.cond (tm 135) b9q .skip)
def c1j:CC:=(.seq (.reg b7Z) b8Q)
def c1s:CC:=(.block 5 c1j)
def b9I:CC:=(.reg c4x)
def c0K:CC:=(.seq c1s b9I)
def c2t:CC:=(.seq c1w c0K)
def c08:CC:=(.loop c2t)
def b8M:CC:=(.block 4 c08)
def c04:CC:=(.seq (.reg c3P) b8M)
def c2d:CC:=(.seq (.reg c5H) .ret)
def c2h:CC:=(.seq c04 c2d)
def c0J:CC:=(.seq c5q c2h)
def c5Q:CC:=(.seq (.reg c5m) c0J)
def b7t:CC:=(.seq (.reg b98) c5Q)
def c3d:CC:=(.seq c2f b7t)
def c0U:CC:=(.seq b7W c3d)
def c0b:CC:=(.seq (.reg c4D) c0U)
def c4G:CC:=(.seq (.reg c2r) c0b)
def c3n:CC:=(.seq c2I c4G)
def b9e:CC:=(.seq (.reg d2m) c3n)
def a3L:CC:=(.seq (.reg d8X) b9e)
def c8F:CC:=(.seq a0B a3L)
def d0l:CC:=(.seq a0C c8F)
def b05:CC:=(.seq (.reg a1V) d0l)
theorem a0d:type_of% (qz a19.eq_1 (qz a17.eq_1 (qz a0C.eq_1 (qz a1P.eq_1 (qz a1X.eq_1 (qz a0B.eq_1 (qz b9T.eq_1 (qz c1h.eq_1 (qz b78.eq_1 (qz c1e.eq_1 (qz c0Z.eq_1 (qz c0E.eq_1 (qz c5t.eq_1 (qz b7L.eq_1 (qz c1W.eq_1 (qz c2I.eq_1 (qz b9l.eq_1 (qz c02.eq_1 (qz b7W.eq_1 (qz b9Z.eq_1 (qz c4I.eq_1 (qz c17.eq_1 (qz c16.eq_1 (qz b9A.eq_1 (qz c3K.eq_1 (qz c0v.eq_1 (qz c5k.eq_1 (qz c24.eq_1 (qz c2f.eq_1 (qz b8H.eq_1 (qz c2q.eq_1 (qz c5q.eq_1 (qz b9D.eq_1 (qz c1w.eq_1 (qz b9q.eq_1 (qz b8Q.eq_1 (qz c1j.eq_1 (qz c1s.eq_1 (qz b9I.eq_1 (qz c0K.eq_1 (qz c2t.eq_1 (qz c08.eq_1 (qz b8M.eq_1 (qz c04.eq_1 (qz c2d.eq_1 (qz c2h.eq_1 (qz c0J.eq_1 (qz c5Q.eq_1 (qz b7t.eq_1 (qz c3d.eq_1 (qz c0U.eq_1 (qz c0b.eq_1 (qz c4G.eq_1 (qz c3n.eq_1 (qz b9e.eq_1 (qz a3L.eq_1 (qz c8F.eq_1 (qz d0l.eq_1 (qy b05.eq_1))))))))))))))))))))))))))))))))))))))))))))))))))))))))))):=⟨kr,kr,kr,kr,kr,kr,kr,kr,kr,kr,kr,kr,kr,kr,kr,kr,kr,kr,kr,kr,kr,kr,kr,kr,kr,kr,kr,kr,kr,kr,kr,kr,kr,kr,kr,kr,kr,kr,kr,kr,kr,kr,kr,kr,kr,kr,kr,kr,kr,kr,kr,kr,kr,kr,kr,kr,kr,kr,kr⟩
theorem f2O:FnAt Tryz.prog tb d9v b05 136 [.tmp 2] :=i9 i6 Tryz.func3 rfl (by kernel_rfl) (by kernel_rfl) rfl rfl
def d4L:CC:=(.seq (.reg d7c) .ret)
def e1t:CC:=(.seq (.reg c8b) d4L)
theorem f5e:type_of% (qz d4L.eq_1 (qy e1t.eq_1)):=⟨kr,kr⟩
theorem f2M:FnAt Tryz.prog tb a2g e1t 20 [.tmp 12] :=i9 i6 Tryz.func9 rfl (by kernel_rfl) (by kernel_rfl) rfl rfl
def d0b:CC:=(.seq (.reg f2x) .ret)
def d49:CC:=(.cond (tm 21) d0b .skip)
def c6h:CC:=(.seq (.reg d37) d49)
def d4d:CC:=(.seq (.reg d5P) .ret)
def d13:CC:=(.seq (.reg d87) d4d)
def c8S:CC:=(.seq c6h d13)
def d4t:CC:=(.seq (.reg d1d) c8S)
def e0T:CC:=(.seq (.reg d0a) d4t)
theorem f43:type_of% (qz d0b.eq_1 (qz d49.eq_1 (qz c6h.eq_1 (qz d4d.eq_1 (qz d13.eq_1 (qz c8S.eq_1 (qz d4t.eq_1 (qy e0T.eq_1)))))))):=⟨kr,kr,kr,kr,kr,kr,kr,kr⟩
theorem f2L:FnAt Tryz.prog tb a0R e0T 32 [.tmp 8,.tmp 9] :=i9 i6 Tryz.func10 rfl (by kernel_rfl) (by kernel_rfl) rfl rfl
def d1m:CC:=(.seq (.reg f0y) .ret)
def d06:CC:=(.cond (tm 14) d1m .skip)
def c7c:CC:=(.seq (.reg d2H) d06)
def d8y:CC:=(.seq (.reg f1u) .ret)
def d47:CC:=(.cond (tm 26) d8y .skip)
def c6m:CC:=(.seq (.reg c7B) d47)
def c0s:CC:=(.seq (.reg f1t) .ret)
def b9S:CC:=(.cond (tm 39) c0s .skip)
def b72:CC:=(.seq (.reg d3U) b9S)
def b87:CC:=(.seq (.reg d5n) .ret)
def b9P:CC:=(.seq b72 b87)
def c46:CC:=(.seq (.reg d2h) b9P)
def c66:CC:=(.seq c6m c46)
def c6L:CC:=(.seq (.reg d6P) c66)
def d8K:CC:=(.seq c7c c6L)
def e1a:CC:=(.seq (.reg c6E) d8K)
theorem f4y:type_of% (qz d1m.eq_1 (qz d06.eq_1 (qz c7c.eq_1 (qz d8y.eq_1 (qz d47.eq_1 (qz c6m.eq_1 (qz c0s.eq_1 (qz b9S.eq_1 (qz b72.eq_1 (qz b87.eq_1 (qz b9P.eq_1 (qz c46.eq_1 (qz c66.eq_1 (qz c6L.eq_1 (qz d8K.eq_1 (qy e1a.eq_1)))))))))))))))):=⟨kr,kr,kr,kr,kr,kr,kr,kr,kr,kr,kr,kr,kr,kr,kr,kr⟩
theorem f3l:FnAt Tryz.prog tb a0c e1a 42 [.cell 6 x7,.tmp 7] :=i9 i6 Tryz.func13 rfl (by kernel_rfl) (by kernel_rfl) rfl rfl
def c7h:CC:=(.seq (.reg f0U) .ret)
def c6O:CC:=(.cond (tm 18) c7h .skip)
def d1g:CC:=(.seq (.reg d2o) c6O)
def c9r:CC:=(.seq (.reg f1w) .ret)
def d8D:CC:=(.cond (tm 30) c9r .skip)
def d4T:CC:=(.seq (.reg d5o) d8D)
def d7B:CC:=(.seq (.reg d02) d4T)
def c30:CC:=(.seq (.reg f0Y) .ret)
def b7D:CC:=(.cond (tm 38) c30 .skip)
def b9K:CC:=(.seq (.reg d2k) b7D)
def c0P:CC:=(.seq (.reg e9p) .ret)
def c1n:CC:=(.cond (tm 50) c0P .skip)
def c18:CC:=(.seq (.reg c3A) c1n)
def c1a:CC:=(.seq (.reg c1f) .ret)
def c0w:CC:=(.seq (.reg c39) c1a)
def b9Y:CC:=(.seq c18 c0w)
def b7w:CC:=(.seq (.reg c5Y) b9Y)
def c0g:CC:=(.seq b9K b7w)
def c3w:CC:=(.seq (.reg d5b) c0g)
def d04:CC:=(.seq d7B c3w)
def d4r:CC:=(.seq d1g d04)
def e0X:CC:=(.seq (.reg d3D) d4r)
theorem f5h:type_of% (qz c7h.eq_1 (qz c6O.eq_1 (qz d1g.eq_1 (qz c9r.eq_1 (qz d8D.eq_1 (qz d4T.eq_1 (qz d7B.eq_1 (qz c30.eq_1 (qz b7D.eq_1 (qz b9K.eq_1 (qz c0P.eq_1 (qz c1n.eq_1 (qz c18.eq_1 (qz c1a.eq_1 (qz c0w.eq_1 (qz b9Y.eq_1 (qz b7w.eq_1 (qz c0g.eq_1 (qz c3w.eq_1 (qz d04.eq_1 (qz d4r.eq_1 (qy e0X.eq_1)))))))))))))))))))))):=⟨kr,kr,kr,kr,kr,kr,kr,kr,kr,kr,kr,kr,kr,kr,kr,kr,kr,kr,kr,kr,kr,kr⟩
theorem f4a:FnAt Tryz.prog tb a5j e0X 61 [.tmp 8] :=i9 i6 Tryz.func27 rfl (by kernel_rfl) (by kernel_rfl) rfl rfl
def d0F:CC:=(.seq (.reg f1f) .ret)
def c9d:CC:=(.cond (tm 22) d0F .skip)
def d1s:CC:=(.seq (.reg a9s) c9d)
def c6Y:CC:=(.seq (.reg a9V) d1s)
def d1S:CC:=(.seq (.reg f0M) .ret)
def c68:CC:=(.cond (tm 29) d1S .skip)
def d4a:CC:=(.seq (.reg a9B) c68)
def c4r:CC:=(.seq (.reg f2d) .ret)
def b7j:CC:=(.seq (.reg e9H) .ret)
def c1t:CC:=(.reg b86)
def c3F:CC:=(.seq (.reg e8s) .ret)
def b7m:CC:=(.cond (tm 57) c3F .skip)
def c5o:CC:=(.seq (.reg c5G) b7m)
def c2L:CC:=(.cond (tm 50) c1t c5o)
def b8m:CC:=(.seq (.reg a8g) c2L)
def c4q:CC:=(.cond (tm 44) b7j b8m)
def c0A:CC:=(.seq (.reg a8K) c4q)
def c5l:CC:=(.cond (tm 40) c4r c0A)
def c2Z:CC:=(.seq (.reg a8N) c5l)
def c0G:CC:=(.block 0 c2Z)
def b7q:CC:=(.seq (.reg a8m) .ret)
def c3m:CC:=(.seq c0G b7q)
def b9H:CC:=(.seq (.reg a90) c3m)
def d61:CC:=(.seq d4a b9H)
def c69:CC:=(.seq c6Y d61)
def e1V:CC:=(.seq (.reg a96) c69)
theorem e07:type_of% (qz d0F.eq_1 (qz c9d.eq_1 (qz d1s.eq_1 (qz c6Y.eq_1 (qz d1S.eq_1 (qz c68.eq_1 (qz d4a.eq_1 (qz c4r.eq_1 (qz b7j.eq_1 (qz c1t.eq_1 (qz c3F.eq_1 (qz b7m.eq_1 (qz c5o.eq_1 (qz c2L.eq_1 (qz b8m.eq_1 (qz c4q.eq_1 (qz c0A.eq_1 (qz c5l.eq_1 (qz c2Z.eq_1 (qz c0G.eq_1 (qz b7q.eq_1 (qz c3m.eq_1 (qz b9H.eq_1 (qz d61.eq_1 (qz c69.eq_1 (qy e1V.eq_1)))))))))))))))))))))))))):=⟨kr,kr,kr,kr,kr,kr,kr,kr,kr,kr,kr,kr,kr,kr,kr,kr,kr,kr,kr,kr,kr,kr,kr,kr,kr,kr⟩
theorem d9L:FnAt Tryz.prog tb b0V e1V 66 [.tmp 14] :=i9 i6 Tryz.func28 rfl (by kernel_rfl) (by kernel_rfl) rfl rfl
theorem e3S:type_of% ((qw b4n (.reg a6T) kr)):=kr
theorem e3M:type_of% ((qw b4h (.reg a6Q) kr)):=kr
def b24:CC:=(.seq (.reg b4B) .ret)
def b2Z:CC:=(.seq (.reg b4y) .ret)
def b27:CC:=(.seq (.reg b4w) .ret)
def b2E:CC:=(.seq (.reg b4r) .ret)
def b2T:CC:=(.cond (tm 38) b2E .skip)
def b2S:CC:=(.seq (.reg a6N) b2T)
def b3j:CC:=(.cond (tm 34) b27 b2S)
def b3k:CC:=(.seq (.reg a6L) b3j)
def b3f:CC:=(.cond (tm 30) b2Z b3k)
def b3b:CC:=(.seq (.reg a6V) b3f)
def b3h:CC:=(.cond (tm 26) b24 b3b)
def b3c:CC:=(.seq (.reg a6O) b3h)
theorem e3T:type_of% (qz b24.eq_1 (qz b2Z.eq_1 (qz b27.eq_1 (qz b2E.eq_1 (qz b2T.eq_1 (qz b2S.eq_1 (qz b3j.eq_1 (qz b3k.eq_1 (qz b3f.eq_1 (qz b3b.eq_1 (qz b3h.eq_1 (qz b3c.eq_1 ((qw b4f (.block 0 b3c) kr)))))))))))))):=⟨kr,kr,kr,kr,kr,kr,kr,kr,kr,kr,kr,kr,kr⟩
theorem e3G:type_of% ((qw b4m (.reg a6v) kr)):=kr
theorem e3A:type_of% ((qw b36 (.reg a6E) kr)):=kr
def b25:CC:=(.cond (tm 52) .skip (.exit 1))
theorem b3J:type_of% (qz b25.eq_1 ((qw b4a (.seq (.reg a2W) b25) kr))):=⟨kr,kr⟩
theorem e3z:type_of% ((qw b4l (.reg a6C) kr)):=kr
def b3a:CC:=(.seq (.reg b37) .ret)
def b3g:CC:=(.cond (tm 69) b3a .skip)
theorem e3y:type_of% (qz b3a.eq_1 (qz b3g.eq_1 ((qw b4j (.seq (.reg a6J) b3g) kr)))):=⟨kr,kr,kr⟩
theorem e3I:type_of% ((qw b38 (.reg a6u) kr)):=kr
def b2U:CC:=(.seq (.reg b4q) .ret)
def b2z:CC:=(.cond (tm 85) b2U .skip)
def b2w:CC:=(.seq (.reg a6F) b2z)
def b2J:CC:=(.drawn a6A [(0,0),(0,7),(0,8),(1,0),(1,7),(4,0),(4,7),(5,0)])
def b2I:CC:=(.seq b2w b2J)
def b2C:CC:=(.seq (.reg a6D) b2I)
theorem e3q:type_of% (qz b2U.eq_1 (qz b2z.eq_1 (qz b2w.eq_1 (qz b2J.eq_1 (qz b2I.eq_1 (qz b2C.eq_1 ((qw a6e (.block 4 b2C) kr)))))))):=⟨kr,kr,kr,kr,kr,kr,kr⟩
theorem e3f:type_of% ((qw b31 (.reg a6y) kr)):=kr
theorem e3b:type_of% ((qw b3Y (.seq (.reg a6x) .ret) kr)):=kr
def e2j:CC:=(.reg a9I)
theorem e2k:type_of% (qy e2j.eq_1):=kr
theorem e0b:FnAt Tryz.prog tb b0h e2j 9 [] :=i9 i6 Tryz.func30 rfl (by kernel_rfl) (by kernel_rfl) rfl rfl
def d6l:CC:=(.seq (.reg d53) .ret)
def e1C:CC:=(.seq (.reg d2L) d6l)
theorem f4A:type_of% (qz d6l.eq_1 (qy e1C.eq_1)):=⟨kr,kr⟩
theorem f2D:FnAt Tryz.prog tb C3 e1C 10 [.tmp 4] :=i9 i6 Tryz.func31 rfl (by kernel_rfl) (by kernel_rfl) rfl rfl
def c7Q:CC:=(.seq (.reg f2f) .ret)
def d7A:CC:=(.cond (tm 12) c7Q .skip)
def c6w:CC:=(.seq (.reg f04) d7A)
def b9L:CC:=(.seq (.reg f1Y) .ret)
def d78:CC:=(.seq c6w b9L)
def d4c:CC:=(.cond (tm 11) d78 .skip)
def c9F:CC:=(.seq (.reg a3V) d4c)
def c1o:CC:=(.seq (.reg f0R) .ret)
def b9G:CC:=(.cond (tm 13) c1o .skip)
def b9j:CC:=(.seq (.reg a4j) b9G)
def b8O:CC:=(.seq (.reg c0r) .ret)
def c0c:CC:=(.cond (tm 16) b8O .skip)
def c5O:CC:=(.seq (.reg a30) c0c)
def c1M:CC:=(.seq (.reg c3l) .ret)
def c4S:CC:=(.cond (tm 19) c1M .skip)
def c2y:CC:=(.seq (.reg a7Z) c4S)
def c3S:CC:=(.seq (.reg c2s) .ret)
def b9d:CC:=(.seq c2y c3S)
def b8D:CC:=(.seq c5O b9d)
def b9z:CC:=(.seq b9j b8D)
def d6U:CC:=(.seq c9F b9z)
def c8A:CC:=(.seq (.reg a31) d6U)
def d28:CC:=(.seq (.reg a4F) c8A)
def e1N:CC:=(.seq (.reg a4f) d28)
theorem b1g:type_of% (qz c7Q.eq_1 (qz d7A.eq_1 (qz c6w.eq_1 (qz b9L.eq_1 (qz d78.eq_1 (qz d4c.eq_1 (qz c9F.eq_1 (qz c1o.eq_1 (qz b9G.eq_1 (qz b9j.eq_1 (qz b8O.eq_1 (qz c0c.eq_1 (qz c5O.eq_1 (qz c1M.eq_1 (qz c4S.eq_1 (qz c2y.eq_1 (qz c3S.eq_1 (qz b9d.eq_1 (qz b8D.eq_1 (qz b9z.eq_1 (qz d6U.eq_1 (qz c8A.eq_1 (qz d28.eq_1 (qy e1N.eq_1)))))))))))))))))))))))):=⟨kr,kr,kr,kr,kr,kr,kr,kr,kr,kr,kr,kr,kr,kr,kr,kr,kr,kr,kr,kr,kr,kr,kr,kr⟩
theorem b0r:FnAt Tryz.prog tb b0M e1N 20 [.tmp 4] :=i9 i6 Tryz.func32 rfl (by kernel_rfl) (by kernel_rfl) rfl rfl
def d7H:CC:=(.seq (.reg f0N) .ret)
def d7o:CC:=(.seq (.reg f06) .ret)
def d50:CC:=(.cond (tm 23) d7o .skip)
def d1G:CC:=(.seq (.reg c7i) d50)
def d1W:CC:=(.cond (tm 19) d7H d1G)
def d5T:CC:=(.seq (.reg c7e) d1W)
def d2n:CC:=(.block 0 d5T)
def c5N:CC:=(.seq (.reg d7J) .ret)
def d2a:CC:=(.seq d2n c5N)
def d4v:CC:=(.seq (.reg d6B) d2a)
def e2s:CC:=(.seq (.reg d4Y) d4v)
theorem f49:type_of% (qz d7H.eq_1 (qz d7o.eq_1 (qz d50.eq_1 (qz d1G.eq_1 (qz d1W.eq_1 (qz d5T.eq_1 (qz d2n.eq_1 (qz c5N.eq_1 (qz d2a.eq_1 (qz d4v.eq_1 (qy e2s.eq_1))))))))))):=⟨kr,kr,kr,kr,kr,kr,kr,kr,kr,kr,kr⟩
theorem f3g:FnAt Tryz.prog tb a49 e2s 34 [.tmp 8,.tmp 9] :=i9 i6 Tryz.func33 rfl (by kernel_rfl) (by kernel_rfl) rfl rfl
def c9I:CC:=(.seq (.reg f1n) .ret)
def d22:CC:=(.cond (tm 19) c9I .skip)
def d6f:CC:=(.seq (.reg d60) d22)
def d0D:CC:=(.seq (.reg d4R) d6f)
def b9s:CC:=(.seq (.reg f0f) .ret)
def d3a:CC:=(.cond (tm 30) b9s .skip)
def d9o:CC:=(.seq (.reg c7j) d3a)
def b8A:CC:=(.seq (.reg c67) .ret)
def c6W:CC:=(.seq d9o b8A)
def c99:CC:=(.seq (.reg d40) c6W)
def d6Y:CC:=(.seq d0D c99)
def e0V:CC:=(.seq (.reg d3P) d6Y)
theorem f5p:type_of% (qz c9I.eq_1 (qz d22.eq_1 (qz d6f.eq_1 (qz d0D.eq_1 (qz b9s.eq_1 (qz d3a.eq_1 (qz d9o.eq_1 (qz b8A.eq_1 (qz c6W.eq_1 (qz c99.eq_1 (qz d6Y.eq_1 (qy e0V.eq_1)))))))))))):=⟨kr,kr,kr,kr,kr,kr,kr,kr,kr,kr,kr,kr⟩
theorem f3z:FnAt Tryz.prog tb a2e e0V 39 [.tmp 10,.tmp 11,.tmp 12] :=i9 i6 Tryz.func38 rfl (by kernel_rfl) (by kernel_rfl) rfl rfl
def d8j:CC:=(.seq (.reg f1D) .ret)
def c8v:CC:=(.cond (tm 15) d8j .skip)
def d12:CC:=(.seq (.reg d2C) c8v)
def d4V:CC:=(.seq (.drawn d6H [(3,0),(7,0),(11,0),(15,0)]) .ret)
def c7f:CC:=(.seq d12 d4V)
def c9R:CC:=(.seq (.reg c9Y) c7f)
def e2r:CC:=(.seq (.reg c6r) c9R)
theorem f4E:type_of% (qz d8j.eq_1 (qz c8v.eq_1 (qz d12.eq_1 (qz d4V.eq_1 (qz c7f.eq_1 (qz c9R.eq_1 (qy e2r.eq_1))))))):=⟨kr,kr,kr,kr,kr,kr,kr⟩
theorem f2G:FnAt Tryz.prog tb b0Q e2r 37 [.tmp 6] :=i9 i6 Tryz.func39 rfl (by kernel_rfl) (by kernel_rfl) rfl rfl
def d4j:CC:=(.reg c6Z)
def d8L:CC:=(.cond (tm 21) d4j .skip)
def d1j:CC:=(.seq (.reg d09) d8L)
def d1C:CC:=(.seq (.reg d2Y) d1j)
def d3C:CC:=(.seq (.reg d7f) .ret)
def d08:CC:=(.seq d1C d3C)
def e2I:CC:=(.seq (.reg d32) d08)
theorem f48:type_of% (qz d4j.eq_1 (qz d8L.eq_1 (qz d1j.eq_1 (qz d1C.eq_1 (qz d3C.eq_1 (qz d08.eq_1 (qy e2I.eq_1))))))):=⟨kr,kr,kr,kr,kr,kr,kr⟩
theorem f4b:FnAt Tryz.prog tb a5d e2I 32 [.tmp 6,.tmp 7,.tmp 8,.tmp 9] :=i9 i6 Tryz.func41 rfl (by kernel_rfl) (by kernel_rfl) rfl rfl
def d2Z:CC:=(.seq (.reg f0C) .ret)
def d8A:CC:=(.cond (tm 12) d2Z .skip)
def c8q:CC:=(.seq (.reg c7K) d8A)
def c0d:CC:=(.cond (tm 30) .skip (.exit 0))
def c3U:CC:=(.reg c5g)
def c3q:CC:=(.seq (.reg c0m) c3U)
def c3e:CC:=(.block 1 c3q)
def c2m:CC:=(.reg c4C)
def c4g:CC:=(.seq c3e c2m)
def b7V:CC:=(.seq c0d c4g)
def c1x:CC:=(.seq (.reg a7U) b7V)
def b75:CC:=(.loop c1x)
def c0t:CC:=(.block 0 b75)
def b8b:CC:=(.seq (.reg c9Z) c0t)
def b7k:CC:=(.seq (.reg b8R) .ret)
def c4F:CC:=(.seq (.reg b9X) b7k)
def c1N:CC:=(.seq (.reg c3V) c4F)
def c0S:CC:=(.seq b8b c1N)
def b8r:CC:=(.seq (.reg c6n) c0S)
def d3q:CC:=(.seq (.reg c6R) b8r)
def d0R:CC:=(.seq (.reg c9l) d3q)
def d7j:CC:=(.seq (.reg c7d) d0R)
def d46:CC:=(.seq (.reg d2B) d7j)
def d6b:CC:=(.seq (.reg d0t) d46)
def d81:CC:=(.seq c8q d6b)
def e1l:CC:=(.seq (.reg d1x) d81)
theorem b02:type_of% (qz d2Z.eq_1 (qz d8A.eq_1 (qz c8q.eq_1 (qz c0d.eq_1 (qz c3U.eq_1 (qz c3q.eq_1 (qz c3e.eq_1 (qz c2m.eq_1 (qz c4g.eq_1 (qz b7V.eq_1 (qz c1x.eq_1 (qz b75.eq_1 (qz c0t.eq_1 (qz b8b.eq_1 (qz b7k.eq_1 (qz c4F.eq_1 (qz c1N.eq_1 (qz c0S.eq_1 (qz b8r.eq_1 (qz d3q.eq_1 (qz d0R.eq_1 (qz d7j.eq_1 (qz d46.eq_1 (qz d6b.eq_1 (qz d81.eq_1 (qy e1l.eq_1)))))))))))))))))))))))))):=⟨kr,kr,kr,kr,kr,kr,kr,kr,kr,kr,kr,kr,kr,kr,kr,kr,kr,kr,kr,kr,kr,kr,kr,kr,kr,kr⟩
theorem f2C:FnAt Tryz.prog tb a5a e1l 55 [.cell 2 x7,.tmp 3] :=i9 i6 Tryz.func42 rfl (by kernel_rfl) (by kernel_rfl) rfl rfl
def d2c:CC:=(.seq (.reg d8x) .ret)
def e16:CC:=(.seq (.reg c6k) d2c)
theorem f5q:type_of% (qz d2c.eq_1 (qy e16.eq_1)):=⟨kr,kr⟩
theorem f4m:FnAt Tryz.prog tb Z5 e16 11 [.tmp 6] :=i9 i6 Tryz.func55 rfl (by kernel_rfl) (by kernel_rfl) rfl rfl
def c8f:CC:=(.seq (.reg f2t) .ret)
def d7F:CC:=(.cond (tm 22) c8f .skip)
def c51:CC:=(.seq (.reg d2S) d7F)
def b73:CC:=(.seq (.reg d5N) .ret)
def b8c:CC:=(.seq (.reg d85) b73)
def d5D:CC:=(.seq (.reg d1f) b8c)
def d5r:CC:=(.seq (.reg c52) d5D)
def c6b:CC:=(.seq (.reg d41) d5r)
def d2K:CC:=(.seq (.reg c7a) c6b)
def c7r:CC:=(.seq (.reg d43) d2K)
def d0U:CC:=(.seq c51 c7r)
def e2C:CC:=(.seq (.reg d3O) d0U)
theorem f4W:type_of% (qz c8f.eq_1 (qz d7F.eq_1 (qz c51.eq_1 (qz b73.eq_1 (qz b8c.eq_1 (qz d5D.eq_1 (qz d5r.eq_1 (qz c6b.eq_1 (qz d2K.eq_1 (qz c7r.eq_1 (qz d0U.eq_1 (qy e2C.eq_1)))))))))))):=⟨kr,kr,kr,kr,kr,kr,kr,kr,kr,kr,kr,kr⟩
theorem f3L:FnAt Tryz.prog tb a5q e2C 53 [.tmp 2,.tmp 3] :=i9 i6 Tryz.func57 rfl (by kernel_rfl) (by kernel_rfl) rfl rfl
def c8k:CC:=(.seq (.reg f0g) .ret)
def d0x:CC:=(.cond (tm 23) c8k .skip)
def c89:CC:=(.seq (.reg d5M) d0x)
def d4F:CC:=(.seq (.reg c8D) .ret)
def d0A:CC:=(.seq c89 d4F)
def d3c:CC:=(.seq (.reg c6B) d0A)
def e0Q:CC:=(.seq (.reg c7z) d3c)
theorem f4H:type_of% (qz c8k.eq_1 (qz d0x.eq_1 (qz c89.eq_1 (qz d4F.eq_1 (qz d0A.eq_1 (qz d3c.eq_1 (qy e0Q.eq_1))))))):=⟨kr,kr,kr,kr,kr,kr,kr⟩
theorem f4c:FnAt Tryz.prog tb a2t e0Q 24 [.tmp 2] :=i9 i6 Tryz.func58 rfl (by kernel_rfl) (by kernel_rfl) rfl rfl
theorem e3h:type_of% ((qw b30 (.reg a6z) kr)):=kr
def b2M:CC:=(.seq (.reg b4i) .ret)
def b2D:CC:=(.seq (.reg b4p) .ret)
def b2y:CC:=(.cond (tm 26) b2D .skip)
def b2L:CC:=(.seq (.reg a6G) b2y)
def b2N:CC:=(.cond (tm 19) b2M b2L)
def b2H:CC:=(.seq (.reg a6B) b2N)
theorem e3i:type_of% (qz b2M.eq_1 (qz b2D.eq_1 (qz b2y.eq_1 (qz b2L.eq_1 (qz b2N.eq_1 (qz b2H.eq_1 ((qw b3X (.block 0 b2H) kr)))))))):=⟨kr,kr,kr,kr,kr,kr,kr⟩
theorem e3n:type_of% ((qw b3P (.reg a6t) kr)):=kr
def b2K:CC:=(.seq (.drawn b4d [(0,0),(0,2)]) .ret)
def b2B:CC:=(.cond (tm 38) b2K .skip)
theorem e3d:type_of% (qz b2K.eq_1 (qz b2B.eq_1 ((qw b3N (.seq (.reg a6I) b2B) kr)))):=⟨kr,kr,kr⟩
theorem e3e:type_of% ((qw b3V (.drawn a6s [(0,0),(5,0),(6,0)]) kr)):=kr
theorem e3k:type_of% ((qw b3S (.reg a6r) kr)):=kr
theorem e3j:type_of% ((qw b3T (.reg a6l) kr)):=kr
def b2A:CC:=(.seq (.reg b3Q) .ret)
def b2O:CC:=(.cond (tm 64) b2A .skip)
def b2P:CC:=(.seq (.reg a2U) b2O)
def b2x:CC:=(.cond (tm 67) (.exit 2) .skip)
def b2G:CC:=(.seq (.reg a2T) b2x)
def b1E:CC:=(.seq (.reg b3W) .ret)
def b1G:CC:=(.cond (tm 75) b1E .skip)
def b1Z:CC:=(.seq (.reg a6n) b1G)
def b1F:CC:=(.drawn a6c [(0,0),(2,0),(3,0),(6,0),(8,0),(9,0)])
def b2g:CC:=(.seq b1Z b1F)
def b2V:CC:=(.seq (.reg a6d) b2g)
def b2F:CC:=(.seq b2G b2V)
def b2Q:CC:=(.seq b2P b2F)
def b2R:CC:=(.seq (.reg a2R) b2Q)
theorem b3q:type_of% (qz b2A.eq_1 (qz b2O.eq_1 (qz b2P.eq_1 (qz b2x.eq_1 (qz b2G.eq_1 (qz b1E.eq_1 (qz b1G.eq_1 (qz b1Z.eq_1 (qz b1F.eq_1 (qz b2g.eq_1 (qz b2V.eq_1 (qz b2F.eq_1 (qz b2Q.eq_1 (qz b2R.eq_1 ((qw a6k (.block 2 b2R) kr)))))))))))))))):=⟨kr,kr,kr,kr,kr,kr,kr,kr,kr,kr,kr,kr,kr,kr,kr⟩
theorem e3p:type_of% ((qw b3O (.seq (.reg a6g) .ret) kr)):=kr
def c8s:CC:=(.reg f00)
def d8W:CC:=(.cond (tm 6) c8s .skip)
def d8B:CC:=(.seq (.reg d0N) d8W)
def d3i:CC:=(.seq (.reg d1k) .ret)
def d5v:CC:=(.seq d8B d3i)
def e2J:CC:=(.seq (.reg d6q) d5v)
theorem f4P:type_of% (qz c8s.eq_1 (qz d8W.eq_1 (qz d8B.eq_1 (qz d3i.eq_1 (qz d5v.eq_1 (qy e2J.eq_1)))))):=⟨kr,kr,kr,kr,kr,kr⟩
theorem f2R:FnAt Tryz.prog tb b0K e2J 9 [.tmp 4] :=i9 i6 Tryz.func60 rfl (by kernel_rfl) (by kernel_rfl) rfl rfl
def d82:CC:=(.seq (.reg f1R) .ret)
def c71:CC:=(.cond (tm 11) d82 .skip)
def c97:CC:=(.seq (.reg d7X) c71)
def d4m:CC:=(.seq (.reg f2i) .ret)
def d3W:CC:=(.cond (tm 19) d4m .skip)
def d8i:CC:=(.seq (.reg c8c) d3W)
def c4Q:CC:=(.seq (.reg c7C) .ret)
def c14:CC:=(.seq (.reg c8Q) c4Q)
def b8V:CC:=(.seq (.reg c90) c14)
def c5z:CC:=(.seq (.reg d8n) b8V)
def d0m:CC:=(.seq d8i c5z)
def d6L:CC:=(.seq (.reg c7Y) d0m)
def d5h:CC:=(.seq c97 d6L)
def e1h:CC:=(.seq (.reg d0M) d5h)
theorem f5l:type_of% (qz d82.eq_1 (qz c71.eq_1 (qz c97.eq_1 (qz d4m.eq_1 (qz d3W.eq_1 (qz d8i.eq_1 (qz c4Q.eq_1 (qz c14.eq_1 (qz b8V.eq_1 (qz c5z.eq_1 (qz d0m.eq_1 (qz d6L.eq_1 (qz d5h.eq_1 (qy e1h.eq_1)))))))))))))):=⟨kr,kr,kr,kr,kr,kr,kr,kr,kr,kr,kr,kr,kr,kr⟩
theorem f4e:FnAt Tryz.prog tb b0u e1h 40 [.cell 2 o7,.tmp 3] :=i9 i6 Tryz.func61 rfl (by kernel_rfl) (by kernel_rfl) rfl rfl
def d01:CC:=(.cond (tm 13) .skip (.exit 0))
def c7D:CC:=(.seq (.reg a1N) d01)
def b83:CC:=(.reg d7g)
def c4n:CC:=(.seq (.reg d5F) b83)
def d4J:CC:=(.seq (.reg d1E) c4n)
def d4P:CC:=(.block 1 d4J)
def c6g:CC:=(.seq c7D d4P)
def c8h:CC:=(.loop c6g)
def d8Q:CC:=(.block 0 c8h)
def c1B:CC:=(.cond (tm 30) .skip (.exit 2))
def c5b:CC:=(.seq (.reg a4M) c1B)
def c4w:CC:=(.cond (tm 35) .skip (.exit 4))
def c4o:CC:=(.seq (.reg f0m) c4w)
def c1K:CC:=(.reg e8q)
def b91:CC:=(.seq (.reg e8C) c1K)
def c3G:CC:=(.seq (.reg e8y) b91)
def c1P:CC:=(.block 5 c3G)
def c41:CC:=(.seq c4o c1P)
def c2B:CC:=(.loop c41)
def c45:CC:=(.block 4 c2B)
def c0a:CC:=(.reg e9k)
def b7Q:CC:=(.cond (tm 54) c0a .skip)
def c5B:CC:=(.seq (.reg e8I) b7Q)
def c5r:CC:=(.seq (.reg e8Y) c5B)
def b8P:CC:=(.reg e9h)
def b90:CC:=(.seq c5r b8P)
def c1q:CC:=(.seq c45 b90)
def b8G:CC:=(.seq (.reg f1E) c1q)
def b9N:CC:=(.block 3 b8G)
def b89:CC:=(.seq c5b b9N)
def c0T:CC:=(.loop b89)
def c2G:CC:=(.block 2 c0T)
def c2v:CC:=(.seq (.reg a4e) c2G)
def d7t:CC:=(.seq d8Q c2v)
def d4E:CC:=(.seq (.reg a4E) d7t)
def e0S:CC:=(.seq (.reg a4G) d4E)
theorem N0:type_of% (qz d01.eq_1 (qz c7D.eq_1 (qz b83.eq_1 (qz c4n.eq_1 (qz d4J.eq_1 (qz d4P.eq_1 (qz c6g.eq_1 (qz c8h.eq_1 (qz d8Q.eq_1 (qz c1B.eq_1 (qz c5b.eq_1 (qz c4w.eq_1 (qz c4o.eq_1 (qz c1K.eq_1 (qz b91.eq_1 (qz c3G.eq_1 (qz c1P.eq_1 (qz c41.eq_1 (qz c2B.eq_1 (qz c45.eq_1 (qz c0a.eq_1 (qz b7Q.eq_1 (qz c5B.eq_1 (qz c5r.eq_1 (qz b8P.eq_1 (qz b90.eq_1 (qz c1q.eq_1 (qz b8G.eq_1 (qz b9N.eq_1 (qz b89.eq_1 (qz c0T.eq_1 (qz c2G.eq_1 (qz c2v.eq_1 (qz d7t.eq_1 (qz d4E.eq_1 (qy e0S.eq_1)))))))))))))))))))))))))))))))))))):=⟨kr,kr,kr,kr,kr,kr,kr,kr,kr,kr,kr,kr,kr,kr,kr,kr,kr,kr,kr,kr,kr,kr,kr,kr,kr,kr,kr,kr,kr,kr,kr,kr,kr,kr,kr,kr⟩
theorem b0R:FnAt Tryz.prog tb Z4 e0S 63 [] :=i9 i6 Tryz.func62 rfl (by kernel_rfl) (by kernel_rfl) rfl rfl
def c7k:CC:=(.seq (.reg c7v) .ret)
def e1Y:CC:=(.seq (.reg c92) c7k)
theorem f4N:type_of% (qz c7k.eq_1 (qy e1Y.eq_1)):=⟨kr,kr⟩
theorem f3y:FnAt Tryz.prog tb a4Z e1Y 6 [.tmp 2] :=i9 i6 Tryz.func63 rfl (by kernel_rfl) (by kernel_rfl) rfl rfl
def d2X:CC:=(.seq (.reg d18) .ret)
def c7X:CC:=(.seq (.reg d71) d2X)
def d8t:CC:=(.cond (tm 14) c7X .skip)
def d5k:CC:=(.seq (.reg a9C) d8t)
def c4i:CC:=(.seq (.reg f0c) .ret)
def d34:CC:=(.cond (tm 37) c4i .skip)
def d0L:CC:=(.seq (.reg d1U) d34)
def b9y:CC:=(.seq (.reg c98) .ret)
def d36:CC:=(.seq d0L b9y)
def d5t:CC:=(.seq (.reg d2I) d36)
def d8k:CC:=(.seq d5k d5t)
def e2b:CC:=(.seq (.reg a9H) d8k)
theorem e0M:type_of% (qz d2X.eq_1 (qz c7X.eq_1 (qz d8t.eq_1 (qz d5k.eq_1 (qz c4i.eq_1 (qz d34.eq_1 (qz d0L.eq_1 (qz b9y.eq_1 (qz d36.eq_1 (qz d5t.eq_1 (qz d8k.eq_1 (qy e2b.eq_1)))))))))))):=⟨kr,kr,kr,kr,kr,kr,kr,kr,kr,kr,kr,kr⟩
theorem e0v:FnAt Tryz.prog tb a0Y e2b 46 [.tmp 6,.tmp 7] :=i9 i6 Tryz.func65 rfl (by kernel_rfl) (by kernel_rfl) rfl rfl
def c81:CC:=(.seq (.reg d8C) .ret)
def d7x:CC:=(.seq (.reg d1r) .ret)
def d3R:CC:=(.cond (tm 11) d7x .skip)
def d6I:CC:=(.seq (.reg a94) d3R)
def d4h:CC:=(.cond (tm 6) c81 d6I)
def d1c:CC:=(.seq (.reg a4l) d4h)
def d9h:CC:=(.block 0 d1c)
def c73:CC:=(.seq (.reg a3Y) d9h)
def b8j:CC:=(.seq (.reg d5x) .ret)
def c9M:CC:=(.seq c73 b8j)
def e1S:CC:=(.seq (.reg a3S) c9M)
theorem b0Y:type_of% (qz c81.eq_1 (qz d7x.eq_1 (qz d3R.eq_1 (qz d6I.eq_1 (qz d4h.eq_1 (qz d1c.eq_1 (qz d9h.eq_1 (qz c73.eq_1 (qz b8j.eq_1 (qz c9M.eq_1 (qy e1S.eq_1))))))))))):=⟨kr,kr,kr,kr,kr,kr,kr,kr,kr,kr,kr⟩
theorem f3n:FnAt Tryz.prog tb a5h e1S 21 [.tmp 4] :=i9 i6 Tryz.func66 rfl (by kernel_rfl) (by kernel_rfl) rfl rfl
def c6x:CC:=(.cond (tm 9) .skip (.exit 0))
def c0D:CC:=(.seq (.reg c9g) .ret)
def c3H:CC:=(.cond (tm 16) c0D .skip)
def c3j:CC:=(.seq (.reg a9J) c3H)
def c1m:CC:=(.seq (.reg a8v) c3j)
def d4i:CC:=(.block 1 c1m)
def c5j:CC:=(.reg d0k)
def d6E:CC:=(.seq d4i c5j)
def c8P:CC:=(.seq c6x d6E)
def d9n:CC:=(.seq (.reg a4D) c8P)
def d54:CC:=(.loop d9n)
def d3g:CC:=(.block 0 d54)
def d8O:CC:=(.seq (.reg d9f) d3g)
def b7z:CC:=(.seq (.reg d7U) .ret)
def d3b:CC:=(.seq d8O b7z)
def e2y:CC:=(.seq (.reg c77) d3b)
theorem a5B:type_of% (qz c6x.eq_1 (qz c0D.eq_1 (qz c3H.eq_1 (qz c3j.eq_1 (qz c1m.eq_1 (qz d4i.eq_1 (qz c5j.eq_1 (qz d6E.eq_1 (qz c8P.eq_1 (qz d9n.eq_1 (qz d54.eq_1 (qz d3g.eq_1 (qz d8O.eq_1 (qz b7z.eq_1 (qz d3b.eq_1 (qy e2y.eq_1)))))))))))))))):=⟨kr,kr,kr,kr,kr,kr,kr,kr,kr,kr,kr,kr,kr,kr,kr,kr⟩
theorem f3O:FnAt Tryz.prog tb a47 e2y 19 [.tmp 4] :=i9 i6 Tryz.func70 rfl (by kernel_rfl) (by kernel_rfl) rfl rfl
def d56:CC:=(.seq (.reg c8n) .ret)
def e1U:CC:=(.seq (.reg c8e) d56)
theorem f5k:type_of% (qz d56.eq_1 (qy e1U.eq_1)):=⟨kr,kr⟩
theorem f3U:FnAt Tryz.prog tb a0S e1U 8 [.tmp 3] :=i9 i6 Tryz.func71 rfl (by kernel_rfl) (by kernel_rfl) rfl rfl
def d3h:CC:=(.seq (.reg f0V) .ret)
def d55:CC:=(.seq (.reg f1z) .ret)
def d7Z:CC:=(.cond (tm 14) d55 .skip)
def d5J:CC:=(.seq (.reg d1X) d7Z)
def d2u:CC:=(.cond (tm 5) d3h d5J)
def d72:CC:=(.seq (.reg d0G) d2u)
def d3I:CC:=(.block 0 d72)
def c09:CC:=(.seq (.reg c8Y) .ret)
def b8S:CC:=(.seq (.drawn d4G [(4,0),(6,0)]) c09)
def b84:CC:=(.seq (.reg d1Q) b8S)
def d5S:CC:=(.seq (.reg d8h) b84)
def d3B:CC:=(.seq d3I d5S)
def e0G:CC:=(.seq (.reg c50) d3B)
theorem f5i:type_of% (qz d3h.eq_1 (qz d55.eq_1 (qz d7Z.eq_1 (qz d5J.eq_1 (qz d2u.eq_1 (qz d72.eq_1 (qz d3I.eq_1 (qz c09.eq_1 (qz b8S.eq_1 (qz b84.eq_1 (qz d5S.eq_1 (qz d3B.eq_1 (qy e0G.eq_1))))))))))))):=⟨kr,kr,kr,kr,kr,kr,kr,kr,kr,kr,kr,kr,kr⟩
theorem f26:FnAt Tryz.prog tb a5l e0G 44 [.tmp 2,.tmp 3] :=i9 i6 Tryz.func72 rfl (by kernel_rfl) (by kernel_rfl) rfl rfl
theorem e2Y:type_of% ((qw b3w (.reg a6m) kr)):=kr
def b1T:CC:=(.seq (.reg b3U) .ret)
def b2r:CC:=(.cond (tm 25) b1T .skip)
theorem e20:type_of% (qz b1T.eq_1 (qz b2r.eq_1 ((qw b3G (.seq (.reg a6q) b2r) kr)))):=⟨kr,kr,kr⟩
def b1L:CC:=(.seq (.reg b3R) .ret)
def b2e:CC:=(.cond (tm 45) b1L .skip)
def b1N:CC:=(.seq (.reg a6b) b2e)
theorem e2Z:type_of% (qz b1L.eq_1 (qz b2e.eq_1 (qz b1N.eq_1 ((qw b3D (.seq (.reg a6p) b1N) kr))))):=⟨kr,kr,kr,kr⟩
theorem e22:type_of% ((qw b3z (.reg a6f) kr)):=kr
def b16:CC:=(.seq (.reg b32) .ret)
def b2a:CC:=(.cond (tm 60) b16 .skip)
theorem e28:type_of% (qz b16.eq_1 (qz b2a.eq_1 ((qw b3C (.seq (.reg a6i) b2a) kr)))):=⟨kr,kr,kr⟩
def b1P:CC:=(.seq (.reg b3x) .ret)
def b2d:CC:=(.cond (tm 80) b1P .skip)
def b14:CC:=(.seq (.reg a5V) b2d)
def b2b:CC:=(.seq (.drawn a5U [(0,0),(1,0),(5,0)]) b14)
def b18:CC:=(.cond (tm 71) b2b .skip)
theorem b26:type_of% (qz b1P.eq_1 (qz b2d.eq_1 (qz b14.eq_1 (qz b2b.eq_1 (qz b18.eq_1 ((qw b3A (.seq (.drawn a2S [(0,0),(1,0),(4,0),(8,0)]) b18) kr))))))):=⟨kr,kr,kr,kr,kr,kr⟩
theorem e26:type_of% ((qw b3H (.reg a51) kr)):=kr
def b1M:CC:=(.seq (.reg a6a) .ret)
def b2h:CC:=(.cond (tm 95) b1M .skip)
def b1S:CC:=(.seq (.reg a1i) b2h)
def b1r:CC:=(.seq (.reg b3B) .ret)
def b1p:CC:=(.cond (tm 109) b1r .skip)
def b1y:CC:=(.seq (.reg a5Y) b1p)
def b1s:CC:=(.seq (.reg a50) b1y)
def b1W:CC:=(.cond (tm 101) b1s .skip)
def b1Q:CC:=(.seq (.reg a2P) b1W)
def b1D:CC:=(.seq (.reg b3K) .ret)
def b1w:CC:=(.cond (tm 127) b1D .skip)
def b1m:CC:=(.seq (.reg a58) b1w)
def a5S:CC:=(.seq (.reg a55) b1m)
def a5R:CC:=(.seq (.drawn a2N [(2,0),(4,0),(5,0),(6,0),(8,0),(9,0)]) a5S)
def b2i:CC:=(.seq b1Q a5R)
def b2o:CC:=(.seq (.reg a2O) b2i)
def b1O:CC:=(.seq b1S b2o)
def b1J:CC:=(.seq (.reg a5T) b1O)
theorem a1g:type_of% (qz b1M.eq_1 (qz b2h.eq_1 (qz b1S.eq_1 (qz b1r.eq_1 (qz b1p.eq_1 (qz b1y.eq_1 (qz b1s.eq_1 (qz b1W.eq_1 (qz b1Q.eq_1 (qz b1D.eq_1 (qz b1w.eq_1 (qz b1m.eq_1 (qz a5S.eq_1 (qz b2i.eq_1 (qz b2o.eq_1 (qz b1O.eq_1 (qz b1J.eq_1 ((qw a56 (.block 1 b1J) kr))))))))))))))))))):=⟨kr,kr,kr,kr,kr,kr,kr,kr,kr,kr,kr,kr,kr,kr,kr,kr,kr,kr⟩
theorem e2T:∀Q fr m,GX Tryz.prog tb a5R Q fr m=GX Tryz.prog tb (.seq (.drawn a2N [(2,0),(4,0),(5,0),(6,0),(8,0),(9,0)]) a5S) Q fr m:=kr
theorem e25:type_of% ((qw b3F (.seq (.reg a5Z) .ret) kr)):=kr
def c7T:CC:=(.seq (.reg d0W) .ret)
def d2e:CC:=(.cond (tm 17) c7T .skip)
def d67:CC:=(.seq (.reg a4k) d2e)
def c2o:CC:=(.seq (.reg c8T) .ret)
def d3M:CC:=(.cond (tm 46) c2o .skip)
def d3V:CC:=(.seq (.reg a81) d3M)
def c4l:CC:=(.seq (.reg f0F) .ret)
def c1L:CC:=(.cond (tm 58) c4l .skip)
def c15:CC:=(.seq (.reg d5i) c1L)
def b9M:CC:=(.seq (.reg c3o) .ret)
def c2a:CC:=(.seq (.reg c4m) b9M)
def c19:CC:=(.seq c15 c2a)
def c0R:CC:=(.seq (.reg d7u) c19)
def c6C:CC:=(.seq d3V c0R)
def d0X:CC:=(.seq (.drawn a9e [(3,0),(7,0),(11,0),(17,0)]) c6C)
def d62:CC:=(.seq d67 d0X)
def c6K:CC:=(.seq (.reg a4z) d62)
def e0F:CC:=(.seq (.reg a4b) c6K)
theorem b1f:type_of% (qz c7T.eq_1 (qz d2e.eq_1 (qz d67.eq_1 (qz c2o.eq_1 (qz d3M.eq_1 (qz d3V.eq_1 (qz c4l.eq_1 (qz c1L.eq_1 (qz c15.eq_1 (qz b9M.eq_1 (qz c2a.eq_1 (qz c19.eq_1 (qz c0R.eq_1 (qz c6C.eq_1 (qz d0X.eq_1 (qz d62.eq_1 (qz c6K.eq_1 (qy e0F.eq_1)))))))))))))))))):=⟨kr,kr,kr,kr,kr,kr,kr,kr,kr,kr,kr,kr,kr,kr,kr,kr,kr,kr⟩
theorem b0q:FnAt Tryz.prog tb b0t e0F 67 [.tmp 4] :=i9 i6 Tryz.func76 rfl (by kernel_rfl) (by kernel_rfl) rfl rfl
def d6s:CC:=(.seq (.reg f2l) .ret)
def c7w:CC:=(.cond (tm 14) d6s .skip)
def d6N:CC:=(.seq (.reg a3Q) c7w)
def d7d:CC:=(.seq (.reg a4u) d6N)
def c47:CC:=(.cond (tm 27) .skip (.exit 0))
def c44:CC:=(.seq (.reg a9P) .ret)
def c0x:CC:=(.cond (tm 36) c44 .skip)
def c36:CC:=(.seq (.reg a0D) c0x)
def b8Y:CC:=(.seq (.reg a0J) c36)
def b7v:CC:=(.seq (.reg a0A) b8Y)
def c2F:CC:=(.block 1 b7v)
def c1Y:CC:=(.reg a3E)
def c5E:CC:=(.seq c2F c1Y)
def b80:CC:=(.seq c47 c5E)
def b8o:CC:=(.seq (.reg Y7) b80)
def d8F:CC:=(.loop b8o)
def c9X:CC:=(.block 0 d8F)
def c9a:CC:=(.seq (.drawn a4a [(3,0),(7,0)]) c9X)
def c1T:CC:=(.seq (.reg b9U) .ret)
def d4Q:CC:=(.seq c9a c1T)
def d8p:CC:=(.seq d7d d4Q)
def e1B:CC:=(.seq (.reg a4i) d8p)
theorem Q3:type_of% (qz d6s.eq_1 (qz c7w.eq_1 (qz d6N.eq_1 (qz d7d.eq_1 (qz c47.eq_1 (qz c44.eq_1 (qz c0x.eq_1 (qz c36.eq_1 (qz b8Y.eq_1 (qz b7v.eq_1 (qz c2F.eq_1 (qz c1Y.eq_1 (qz c5E.eq_1 (qz b80.eq_1 (qz b8o.eq_1 (qz d8F.eq_1 (qz c9X.eq_1 (qz c9a.eq_1 (qz c1T.eq_1 (qz d4Q.eq_1 (qz d8p.eq_1 (qy e1B.eq_1)))))))))))))))))))))):=⟨kr,kr,kr,kr,kr,kr,kr,kr,kr,kr,kr,kr,kr,kr,kr,kr,kr,kr,kr,kr,kr,kr⟩
theorem b0k:FnAt Tryz.prog tb M2 e1B 48 [.tmp 4,.tmp 5] :=i9 i6 Tryz.func77 rfl (by kernel_rfl) (by kernel_rfl) rfl rfl
def d21:CC:=(.cond (tm 11) .skip (.exit 0))
def d29:CC:=(.reg a4t)
def c7l:CC:=(.seq (.reg a4g) d29)
def d3T:CC:=(.block 1 c7l)
def b8e:CC:=(.reg a4S)
def d5G:CC:=(.seq d3T b8e)
def d7q:CC:=(.seq d21 d5G)
def c7b:CC:=(.seq (.reg a0z) d7q)
def c7q:CC:=(.loop c7b)
def d5U:CC:=(.block 0 c7q)
def e1w:CC:=(.seq (.reg a9z) d5U)
theorem a0f:type_of% (qz d21.eq_1 (qz d29.eq_1 (qz c7l.eq_1 (qz d3T.eq_1 (qz b8e.eq_1 (qz d5G.eq_1 (qz d7q.eq_1 (qz c7b.eq_1 (qz c7q.eq_1 (qz d5U.eq_1 (qy e1w.eq_1))))))))))):=⟨kr,kr,kr,kr,kr,kr,kr,kr,kr,kr,kr⟩
theorem d9R:FnAt Tryz.prog tb U5 e1w 20 [] :=i9 i6 Tryz.func78 rfl (by kernel_rfl) (by kernel_rfl) rfl rfl
def d6A:CC:=(.seq (.reg d5L) .ret)
def d1l:CC:=(.seq (.reg d5Z) d6A)
def c7E:CC:=(.seq (.drawn c7M [(3,0),(7,0)]) d1l)
def e1x:CC:=(.seq (.reg d7S) c7E)
theorem f4s:type_of% (qz d6A.eq_1 (qz d1l.eq_1 (qz c7E.eq_1 (qy e1x.eq_1)))):=⟨kr,kr,kr,kr⟩
theorem f3R:FnAt Tryz.prog tb a2j e1x 29 [.tmp 4] :=i9 i6 Tryz.func79 rfl (by kernel_rfl) (by kernel_rfl) rfl rfl
def d9i:CC:=(.seq (.reg f1W) .ret)
def c9W:CC:=(.seq (.reg f0j) d9i)
def d8I:CC:=(.cond (tm 18) c9W .skip)
def d8V:CC:=(.seq (.reg c9k) d8I)
def d6v:CC:=(.seq (.reg d3r) .ret)
def c7H:CC:=(.seq d8V d6v)
def e0W:CC:=(.seq (.reg c8E) c7H)
theorem f5m:type_of% (qz d9i.eq_1 (qz c9W.eq_1 (qz d8I.eq_1 (qz d8V.eq_1 (qz d6v.eq_1 (qz c7H.eq_1 (qy e0W.eq_1))))))):=⟨kr,kr,kr,kr,kr,kr,kr⟩
theorem f3E:FnAt Tryz.prog tb b0A e0W 21 [.cell 8 x7,.tmp 9] :=i9 i6 Tryz.func80 rfl (by kernel_rfl) (by kernel_rfl) rfl rfl
def d8T:CC:=(.reg f1J)
def d17:CC:=(.cond (tm 24) d8T .skip)
def d6x:CC:=(.seq (.reg d6W) d17)
def d3u:CC:=(.reg d7b)
def d8e:CC:=(.seq d6x d3u)
def e1y:CC:=(.seq (.reg d5O) d8e)
theorem f4S:type_of% (qz d8T.eq_1 (qz d17.eq_1 (qz d6x.eq_1 (qz d3u.eq_1 (qz d8e.eq_1 (qy e1y.eq_1)))))):=⟨kr,kr,kr,kr,kr,kr⟩
theorem f4i:FnAt Tryz.prog tb a0U e1y 38 [] :=i9 i6 Tryz.func84 rfl (by kernel_rfl) (by kernel_rfl) rfl rfl
def c8K:CC:=(.cond (tm 11) .skip (.exit 0))
def d2r:CC:=(.reg a97)
def c96:CC:=(.seq (.reg a84) d2r)
def d0u:CC:=(.block 1 c96)
def c5K:CC:=(.reg a8x)
def c91:CC:=(.seq d0u c5K)
def d7K:CC:=(.seq c8K c91)
def d2w:CC:=(.seq (.reg a1T) d7K)
def d6n:CC:=(.loop d2w)
def d8E:CC:=(.block 0 d6n)
def e2a:CC:=(.seq (.reg a9f) d8E)
theorem a06:type_of% (qz c8K.eq_1 (qz d2r.eq_1 (qz c96.eq_1 (qz d0u.eq_1 (qz c5K.eq_1 (qz c91.eq_1 (qz d7K.eq_1 (qz d2w.eq_1 (qz d6n.eq_1 (qz d8E.eq_1 (qy e2a.eq_1))))))))))):=⟨kr,kr,kr,kr,kr,kr,kr,kr,kr,kr,kr⟩
theorem e0o:FnAt Tryz.prog tb V3 e2a 19 [] :=i9 i6 Tryz.func85 rfl (by kernel_rfl) (by kernel_rfl) rfl rfl
def d03:CC:=(.seq (.drawn f2h [(3,0)]) .ret)
def d8R:CC:=(.cond (tm 10) d03 .skip)
def d4N:CC:=(.seq (.reg d2R) d8R)
def d0V:CC:=(.seq (.drawn d5d [(3,0),(8,0)]) .ret)
def d0h:CC:=(.seq d4N d0V)
def e2d:CC:=(.seq (.reg c8U) d0h)
theorem f45:type_of% (qz d03.eq_1 (qz d8R.eq_1 (qz d4N.eq_1 (qz d0V.eq_1 (qz d0h.eq_1 (qy e2d.eq_1)))))):=⟨kr,kr,kr,kr,kr,kr⟩
theorem f3G:FnAt Tryz.prog tb a5m e2d 27 [.tmp 4,.tmp 5] :=i9 i6 Tryz.func87 rfl (by kernel_rfl) (by kernel_rfl) rfl rfl
def d83:CC:=(.seq (.reg f0h) .ret)
def d0K:CC:=(.cond (tm 4) d83 .skip)
def d65:CC:=(.seq (.reg c54) d0K)
def d7l:CC:=(.seq (.reg d4K) .ret)
def d0s:CC:=(.seq d65 d7l)
def e1b:CC:=(.seq (.reg d9a) d0s)
theorem f5o:type_of% (qz d83.eq_1 (qz d0K.eq_1 (qz d65.eq_1 (qz d7l.eq_1 (qz d0s.eq_1 (qy e1b.eq_1)))))):=⟨kr,kr,kr,kr,kr,kr⟩
theorem f3i:FnAt Tryz.prog tb V5 e1b 8 [.tmp 2] :=i9 i6 Tryz.func92 rfl (by kernel_rfl) (by kernel_rfl) rfl rfl
def d6M:CC:=(.seq (.reg f0n) .ret)
def c9G:CC:=(.seq (.reg f1L) .ret)
def b9W:CC:=(.seq (.reg f0J) .ret)
def c1V:CC:=(.cond (tm 42) b9W .skip)
def c1X:CC:=(.seq (.reg a8W) c1V)
def c8o:CC:=(.cond (tm 18) c9G c1X)
def d5z:CC:=(.seq (.reg a8S) c8o)
def d4W:CC:=(.cond (tm 14) d6M d5z)
def d4o:CC:=(.seq (.reg a8y) d4W)
def c8G:CC:=(.block 0 d4o)
def b8F:CC:=(.seq (.reg a8c) .ret)
def b9v:CC:=(.seq (.reg a9b) b8F)
def c2R:CC:=(.seq (.reg a9E) b9v)
def c9T:CC:=(.seq c8G c2R)
def d4g:CC:=(.seq (.reg a9i) c9T)
def e1E:CC:=(.seq (.reg a9Q) d4g)
theorem e1k:type_of% (qz d6M.eq_1 (qz c9G.eq_1 (qz b9W.eq_1 (qz c1V.eq_1 (qz c1X.eq_1 (qz c8o.eq_1 (qz d5z.eq_1 (qz d4W.eq_1 (qz d4o.eq_1 (qz c8G.eq_1 (qz b8F.eq_1 (qz b9v.eq_1 (qz c2R.eq_1 (qz c9T.eq_1 (qz d4g.eq_1 (qy e1E.eq_1)))))))))))))))):=⟨kr,kr,kr,kr,kr,kr,kr,kr,kr,kr,kr,kr,kr,kr,kr,kr⟩
theorem e0p:FnAt Tryz.prog tb V2 e1E 63 [.tmp 10] :=i9 i6 Tryz.func100 rfl (by kernel_rfl) (by kernel_rfl) rfl rfl
def d7r:CC:=(.seq (.reg d2q) .ret)
def e2o:CC:=(.seq (.reg d2p) d7r)
theorem f4R:type_of% (qz d7r.eq_1 (qy e2o.eq_1)):=⟨kr,kr⟩
theorem f25:FnAt Tryz.prog tb U4 e2o 7 [.tmp 2] :=i9 i6 Tryz.func101 rfl (by kernel_rfl) (by kernel_rfl) rfl rfl
def d6R:CC:=(.seq (.reg d7E) .ret)
def e1R:CC:=(.seq (.reg c8C) d6R)
theorem f4x:type_of% (qz d6R.eq_1 (qy e1R.eq_1)):=⟨kr,kr⟩
theorem f2P:FnAt Tryz.prog tb U6 e1R 5 [.tmp 2] :=i9 i6 Tryz.func102 rfl (by kernel_rfl) (by kernel_rfl) rfl rfl
def d3v:CC:=(.seq (.reg a9v) .ret)
def e19:CC:=(.seq (.reg a9K) d3v)
theorem e2p:type_of% (qz d3v.eq_1 (qy e19.eq_1)):=⟨kr,kr⟩
theorem f3w:FnAt Tryz.prog tb b0C e19 15 [.tmp 6] :=i9 i6 Tryz.func103 rfl (by kernel_rfl) (by kernel_rfl) rfl rfl
def d2J:CC:=(.seq (.reg d9r) .ret)
def e1d:CC:=(.seq (.reg d6g) d2J)
theorem f4q:type_of% (qz d2J.eq_1 (qy e1d.eq_1)):=⟨kr,kr⟩
theorem f3S:FnAt Tryz.prog tb V7 e1d 30 [.tmp 2] :=i9 i6 Tryz.func104 rfl (by kernel_rfl) (by kernel_rfl) rfl rfl
def d88:CC:=(.seq (.reg d2t) .ret)
def e17:CC:=(.seq (.reg d9k) d88)
theorem f4u:type_of% (qz d88.eq_1 (qy e17.eq_1)):=⟨kr,kr⟩
theorem f2T:FnAt Tryz.prog tb b0X e17 9 [.tmp 4] :=i9 i6 Tryz.func105 rfl (by kernel_rfl) (by kernel_rfl) rfl rfl
def e1H:CC:=(.reg d1h)
theorem f4G:type_of% (qy e1H.eq_1):=kr
theorem f3N:FnAt Tryz.prog tb a5r e1H 11 [] :=i9 i6 Tryz.func106 rfl (by kernel_rfl) (by kernel_rfl) rfl rfl
def c7s:CC:=(.cond (tm 13) .skip (.exit 0))
def d0f:CC:=(.seq (.reg a95) c7s)
def c4W:CC:=(.cond (tm 37) .ret .skip)
def b7M:CC:=(.seq (.reg d7s) c4W)
def c37:CC:=(.reg c7L)
def d8g:CC:=(.seq b7M c37)
def d3w:CC:=(.seq (.reg d9q) d8g)
def d1H:CC:=(.seq (.reg d7W) d3w)
def d8s:CC:=(.block 1 d1H)
def d2W:CC:=(.seq d0f d8s)
def d3Z:CC:=(.loop d2W)
def c7n:CC:=(.block 0 d3Z)
def e1j:CC:=(.seq (.reg c8t) c7n)
theorem a2G:type_of% (qz c7s.eq_1 (qz d0f.eq_1 (qz c4W.eq_1 (qz b7M.eq_1 (qz c37.eq_1 (qz d8g.eq_1 (qz d3w.eq_1 (qz d1H.eq_1 (qz d8s.eq_1 (qz d2W.eq_1 (qz d3Z.eq_1 (qz c7n.eq_1 (qy e1j.eq_1))))))))))))):=⟨kr,kr,kr,kr,kr,kr,kr,kr,kr,kr,kr,kr,kr⟩
theorem f2Y:FnAt Tryz.prog tb Z7 e1j 43 [] :=i9 i6 Tryz.func107 rfl (by kernel_rfl) (by kernel_rfl) rfl rfl
def d3E:CC:=(.seq (.reg f0v) .ret)
def c9V:CC:=(.cond (tm 15) d3E .skip)
def c88:CC:=(.seq (.reg d2f) c9V)
def c6M:CC:=(.seq (.reg f1X) .ret)
def d79:CC:=(.cond (tm 26) c6M .skip)
def c6P:CC:=(.seq (.reg c8z) d79)
def b7T:CC:=(.cond (tm 33) .skip (.exit 0))
def b8s:CC:=(.seq (.reg e9P) .ret)
def b7U:CC:=(.cond (tm 45) b8s .skip)
def c28:CC:=(.seq (.reg a8e) b7U)
def c0Y:CC:=(.seq (.reg a8k) c28)
def c4V:CC:=(.cond (tm 48) (.exit 0) .skip)
def c0n:CC:=(.seq (.reg a7V) c4V)
def b97:CC:=(.reg c5J)
def b79:CC:=(.seq c0n b97)
def c2C:CC:=(.seq c0Y b79)
def c1C:CC:=(.seq (.reg a7W) c2C)
def c2w:CC:=(.block 1 c1C)
def c34:CC:=(.reg c26)
def c22:CC:=(.seq c2w c34)
def c2K:CC:=(.seq b7T c22)
def c1b:CC:=(.seq (.reg a4q) c2K)
def b8a:CC:=(.loop c1b)
def b8h:CC:=(.block 0 b8a)
def c3y:CC:=(.seq (.reg d31) b8h)
def c1y:CC:=(.seq (.reg a8l) .ret)
def c25:CC:=(.seq c3y c1y)
def b8E:CC:=(.seq (.reg d8r) c25)
def c01:CC:=(.seq (.reg d4u) b8E)
def d1a:CC:=(.seq c6P c01)
def d3F:CC:=(.seq (.reg d4n) d1a)
def d1O:CC:=(.seq c88 d3F)
def e05:CC:=(.seq (.reg d2O) d1O)
theorem a5K:type_of% (qz d3E.eq_1 (qz c9V.eq_1 (qz c88.eq_1 (qz c6M.eq_1 (qz d79.eq_1 (qz c6P.eq_1 (qz b7T.eq_1 (qz b8s.eq_1 (qz b7U.eq_1 (qz c28.eq_1 (qz c0Y.eq_1 (qz c4V.eq_1 (qz c0n.eq_1 (qz b97.eq_1 (qz b79.eq_1 (qz c2C.eq_1 (qz c1C.eq_1 (qz c2w.eq_1 (qz c34.eq_1 (qz c22.eq_1 (qz c2K.eq_1 (qz c1b.eq_1 (qz b8a.eq_1 (qz b8h.eq_1 (qz c3y.eq_1 (qz c1y.eq_1 (qz c25.eq_1 (qz b8E.eq_1 (qz c01.eq_1 (qz d1a.eq_1 (qz d3F.eq_1 (qz d1O.eq_1 (qy e05.eq_1))))))))))))))))))))))))))))))))):=⟨kr,kr,kr,kr,kr,kr,kr,kr,kr,kr,kr,kr,kr,kr,kr,kr,kr,kr,kr,kr,kr,kr,kr,kr,kr,kr,kr,kr,kr,kr,kr,kr,kr⟩
theorem f3r:FnAt Tryz.prog tb a2h e05 53 [.tmp 8,.tmp 9] :=i9 i6 Tryz.func108 rfl (by kernel_rfl) (by kernel_rfl) rfl rfl
def d5e:CC:=(.cond (tm 9) .skip (.exit 0))
def d26:CC:=(.seq (.reg a83) d5e)
def c5a:CC:=(.cond (tm 30) .ret .skip)
def d33:CC:=(.seq (.reg d4l) c5a)
def d3K:CC:=(.seq (.drawn d9b [(0,0),(1,0),(3,0)]) d33)
def d8q:CC:=(.block 1 d3K)
def c2W:CC:=(.reg d9d)
def c9f:CC:=(.seq d8q c2W)
def d20:CC:=(.seq d26 c9f)
def c94:CC:=(.loop d20)
def d84:CC:=(.block 0 c94)
def e2c:CC:=(.seq (.reg d1Z) d84)
theorem a5L:type_of% (qz d5e.eq_1 (qz d26.eq_1 (qz c5a.eq_1 (qz d33.eq_1 (qz d3K.eq_1 (qz d8q.eq_1 (qz c2W.eq_1 (qz c9f.eq_1 (qz d20.eq_1 (qz c94.eq_1 (qz d84.eq_1 (qy e2c.eq_1)))))))))))):=⟨kr,kr,kr,kr,kr,kr,kr,kr,kr,kr,kr,kr⟩
theorem f3f:FnAt Tryz.prog tb a0T e2c 31 [] :=i9 i6 Tryz.func109 rfl (by kernel_rfl) (by kernel_rfl) rfl rfl
def d1b:CC:=(.seq (.reg f2a) .ret)
def d5s:CC:=(.cond (tm 21) d1b .skip)
def d7T:CC:=(.seq (.reg d0i) d5s)
def c0q:CC:=(.seq (.reg f2u) .ret)
def d7y:CC:=(.cond (tm 32) c0q .skip)
def d48:CC:=(.seq (.reg d3m) d7y)
def b9V:CC:=(.seq (.reg d8a) .ret)
def d6r:CC:=(.seq d48 b9V)
def c6q:CC:=(.seq (.reg c6s) d6r)
def d3o:CC:=(.seq d7T c6q)
def d5c:CC:=(.seq (.reg c8g) d3o)
def e1z:CC:=(.seq (.reg d7n) d5c)
theorem f4U:type_of% (qz d1b.eq_1 (qz d5s.eq_1 (qz d7T.eq_1 (qz c0q.eq_1 (qz d7y.eq_1 (qz d48.eq_1 (qz b9V.eq_1 (qz d6r.eq_1 (qz c6q.eq_1 (qz d3o.eq_1 (qz d5c.eq_1 (qy e1z.eq_1)))))))))))):=⟨kr,kr,kr,kr,kr,kr,kr,kr,kr,kr,kr,kr⟩
theorem f38:FnAt Tryz.prog tb b0x e1z 34 [.tmp 6,.tmp 7] :=i9 i6 Tryz.func110 rfl (by kernel_rfl) (by kernel_rfl) rfl rfl
def c9o:CC:=(.seq (.reg f0A) .ret)
def d7C:CC:=(.seq (.reg f2n) c9o)
def c9O:CC:=(.cond (tm 18) d7C .skip)
def d7k:CC:=(.seq (.reg c72) c9O)
def c8H:CC:=(.seq (.reg d8c) .ret)
def d6h:CC:=(.seq d7k c8H)
def e2l:CC:=(.seq (.reg c6o) d6h)
theorem f4Q:type_of% (qz c9o.eq_1 (qz d7C.eq_1 (qz c9O.eq_1 (qz d7k.eq_1 (qz c8H.eq_1 (qz d6h.eq_1 (qy e2l.eq_1))))))):=⟨kr,kr,kr,kr,kr,kr,kr⟩
theorem f3q:FnAt Tryz.prog tb b0d e2l 21 [.cell 8 o7,.tmp 9] :=i9 i6 Tryz.func111 rfl (by kernel_rfl) (by kernel_rfl) rfl rfl
def c8W:CC:=(.cond (tm 14) .skip (.exit 0))
def c6l:CC:=(.seq (.reg a3O) c8W)
def c3T:CC:=(.cond (tm 34) .skip (.exit 2))
def b9E:CC:=(.seq (.drawn a4x [(8,0),(13,0)]) c3T)
def c4N:CC:=(.drawn d3s [(9,0),(13,0)])
def c4j:CC:=(.block 3 c4N)
def c00:CC:=(.reg d5V)
def b88:CC:=(.seq c4j c00)
def b8x:CC:=(.seq b9E b88)
def c0y:CC:=(.loop b8x)
def d4S:CC:=(.block 2 c0y)
def c8u:CC:=(.seq (.reg d5E) d4S)
def d30:CC:=(.block 1 c8u)
def b7G:CC:=(.reg a8z)
def d51:CC:=(.seq d30 b7G)
def d0r:CC:=(.seq c6l d51)
def d3x:CC:=(.loop d0r)
def c74:CC:=(.block 0 d3x)
def e2t:CC:=(.seq (.reg a8U) c74)
theorem V8:type_of% (qz c8W.eq_1 (qz c6l.eq_1 (qz c3T.eq_1 (qz b9E.eq_1 (qz c4N.eq_1 (qz c4j.eq_1 (qz c00.eq_1 (qz b88.eq_1 (qz b8x.eq_1 (qz c0y.eq_1 (qz d4S.eq_1 (qz c8u.eq_1 (qz d30.eq_1 (qz b7G.eq_1 (qz d51.eq_1 (qz d0r.eq_1 (qz d3x.eq_1 (qz c74.eq_1 (qy e2t.eq_1))))))))))))))))))):=⟨kr,kr,kr,kr,kr,kr,kr,kr,kr,kr,kr,kr,kr,kr,kr,kr,kr,kr,kr⟩
theorem d9X:FnAt Tryz.prog tb P2 e2t 53 [] :=i9 i6 Tryz.func112 rfl (by kernel_rfl) (by kernel_rfl) rfl rfl
def e1O:CC:=(.reg d0T)
theorem f4X:type_of% (qy e1O.eq_1):=kr
theorem f3p:FnAt Tryz.prog tb a5n e1O 12 [] :=i9 i6 Tryz.func126 rfl (by kernel_rfl) (by kernel_rfl) rfl rfl
def c59:CC:=(.seq (.reg f0S) .ret)
def c62:CC:=(.cond (tm 16) c59 .skip)
def d4C:CC:=(.seq (.reg d1p) c62)
def c53:CC:=(.seq (.reg f0z) .ret)
def c7O:CC:=(.cond (tm 27) c53 .skip)
def d4D:CC:=(.seq (.reg c6I) c7O)
def c3Z:CC:=(.cond (tm 34) .skip (.exit 0))
def c0f:CC:=(.seq (.reg e8W) .ret)
def c2b:CC:=(.cond (tm 56) c0f .skip)
def c0N:CC:=(.seq (.reg c4h) c2b)
def b96:CC:=(.seq (.drawn c5s [(2,0),(2,9),(7,0)]) c0N)
def c1g:CC:=(.cond (tm 44) b96 .skip)
def c3t:CC:=(.seq (.reg a8q) c1g)
def c4k:CC:=(.seq (.reg e89) .ret)
def c1v:CC:=(.cond (tm 66) c4k .skip)
def c0k:CC:=(.seq (.reg a3r) c1v)
def a70:CC:=(.seq (.reg a3x) c0k)
def c1Q:CC:=(.seq (.reg c2O) .ret)
def b9O:CC:=(.cond (tm 81) c1Q .skip)
def c4a:CC:=(.seq (.reg a8o) b9O)
def b7N:CC:=(.seq (.reg a8t) c4a)
def c1r:CC:=(.seq (.reg e9C) .ret)
def b7o:CC:=(.cond (tm 89) c1r .skip)
def c4E:CC:=(.seq (.reg c1l) b7o)
def c0l:CC:=(.seq (.reg b9J) c4E)
def b94:CC:=(.seq b7N c0l)
def c0O:CC:=(.cond (tm 70) b94 .skip)
def b8v:CC:=(.seq (.reg a3A) c0O)
def b9c:CC:=(.reg a73)
def c3E:CC:=(.seq b8v b9c)
def a8n:CC:=(.seq (.reg a3u) c3E)
def a3n:CC:=(.seq a70 a8n)
def b7l:CC:=(.seq c3t a3n)
def c5h:CC:=(.seq (.reg a76) b7l)
def c48:CC:=(.seq (.reg a9o) c5h)
def c23:CC:=(.block 1 c48)
def c4O:CC:=(.reg a8s)
def c40:CC:=(.seq c23 c4O)
def b74:CC:=(.seq c3Z c40)
def c5D:CC:=(.seq (.reg a4W) b74)
def c0C:CC:=(.loop c5D)
def c5v:CC:=(.block 0 c0C)
def c3z:CC:=(.seq (.reg d8f) c5v)
def b8g:CC:=(.seq (.reg b9f) .ret)
def c4d:CC:=(.seq c3z b8g)
def b8q:CC:=(.seq (.reg d6T) c4d)
def c9K:CC:=(.seq d4D b8q)
def d6k:CC:=(.seq (.reg d14) c9K)
def c6Q:CC:=(.seq d4C d6k)
def e0E:CC:=(.seq (.reg d80) c6Q)
theorem Q2:type_of% (qz c59.eq_1 (qz c62.eq_1 (qz d4C.eq_1 (qz c53.eq_1 (qz c7O.eq_1 (qz d4D.eq_1 (qz c3Z.eq_1 (qz c0f.eq_1 (qz c2b.eq_1 (qz c0N.eq_1 (qz b96.eq_1 (qz c1g.eq_1 (qz c3t.eq_1 (qz c4k.eq_1 (qz c1v.eq_1 (qz c0k.eq_1 (qz a70.eq_1 (qz c1Q.eq_1 (qz b9O.eq_1 (qz c4a.eq_1 (qz b7N.eq_1 (qz c1r.eq_1 (qz b7o.eq_1 (qz c4E.eq_1 (qz c0l.eq_1 (qz b94.eq_1 (qz c0O.eq_1 (qz b8v.eq_1 (qz b9c.eq_1 (qz c3E.eq_1 (qz a8n.eq_1 (qz b7l.eq_1 (qz c5h.eq_1 (qz c48.eq_1 (qz c23.eq_1 (qz c4O.eq_1 (qz c40.eq_1 (qz b74.eq_1 (qz c5D.eq_1 (qz c0C.eq_1 (qz c5v.eq_1 (qz c3z.eq_1 (qz b8g.eq_1 (qz c4d.eq_1 (qz b8q.eq_1 (qz c9K.eq_1 (qz d6k.eq_1 (qz c6Q.eq_1 (qy e0E.eq_1))))))))))))))))))))))))))))))))))))))))))))))))):=⟨kr,kr,kr,kr,kr,kr,kr,kr,kr,kr,kr,kr,kr,kr,kr,kr,kr,kr,kr,kr,kr,kr,kr,kr,kr,kr,kr,kr,kr,kr,kr,kr,kr,kr,kr,kr,kr,kr,kr,kr,kr,kr,kr,kr,kr,kr,kr,kr,kr⟩
theorem f24:FnAt Tryz.prog tb b0m e0E 96 [.tmp 8,.tmp 9,.tmp 10] :=i9 i6 Tryz.func127 rfl (by kernel_rfl) (by kernel_rfl) rfl rfl
theorem a6P:∀Q fr m,GX Tryz.prog tb a3n Q fr m=GX Tryz.prog tb (.seq a70 a8n) Q fr m:=kr
def d5y:CC:=(.seq (.reg d4q) .ret)
def c7G:CC:=(.cond (tm 12) d5y .skip)
def c8i:CC:=(.seq (.reg a8X) c7G)
def d8Z:CC:=(.seq (.reg c7p) .ret)
def d39:CC:=(.seq c8i d8Z)
def e1v:CC:=(.seq (.reg a9d) d39)
theorem e1r:type_of% (qz d5y.eq_1 (qz c7G.eq_1 (qz c8i.eq_1 (qz d8Z.eq_1 (qz d39.eq_1 (qy e1v.eq_1)))))):=⟨kr,kr,kr,kr,kr,kr⟩
theorem d90:FnAt Tryz.prog tb a5g e1v 27 [.tmp 6] :=i9 i6 Tryz.func128 rfl (by kernel_rfl) (by kernel_rfl) rfl rfl
def d8v:CC:=(.seq (.reg d3k) .ret)
def c6U:CC:=(.cond (tm 25) d8v .skip)
def d0J:CC:=(.seq (.reg a9y) c6U)
def d5l:CC:=(.seq (.reg c7P) .ret)
def c6c:CC:=(.seq (.reg c9Q) d5l)
def d9j:CC:=(.seq d0J c6c)
def d2E:CC:=(.seq (.reg a9g) d9j)
def e1T:CC:=(.seq (.reg a9W) d2E)
theorem e0D:type_of% (qz d8v.eq_1 (qz c6U.eq_1 (qz d0J.eq_1 (qz d5l.eq_1 (qz c6c.eq_1 (qz d9j.eq_1 (qz d2E.eq_1 (qy e1T.eq_1)))))))):=⟨kr,kr,kr,kr,kr,kr,kr,kr⟩
theorem d9E:FnAt Tryz.prog tb b0G e1T 34 [.tmp 8] :=i9 i6 Tryz.func129 rfl (by kernel_rfl) (by kernel_rfl) rfl rfl
def d2F:CC:=(.seq (.reg f1y) .ret)
def d0E:CC:=(.seq (.reg f0b) .ret)
def c9h:CC:=(.cond (tm 6) d0E .skip)
def d73:CC:=(.seq (.reg d4y) c9h)
def d8S:CC:=(.cond (tm 3) d2F d73)
def d1t:CC:=(.seq (.reg d1e) d8S)
def c9L:CC:=(.block 0 d1t)
def c5X:CC:=(.seq (.reg c9A) .ret)
def d7i:CC:=(.seq c9L c5X)
def e1P:CC:=(.seq (.reg d2l) d7i)
theorem f4t:type_of% (qz d2F.eq_1 (qz d0E.eq_1 (qz c9h.eq_1 (qz d73.eq_1 (qz d8S.eq_1 (qz d1t.eq_1 (qz c9L.eq_1 (qz c5X.eq_1 (qz d7i.eq_1 (qy e1P.eq_1)))))))))):=⟨kr,kr,kr,kr,kr,kr,kr,kr,kr,kr⟩
theorem f3t:FnAt Tryz.prog tb a5o e1P 16 [.tmp 2] :=i9 i6 Tryz.func131 rfl (by kernel_rfl) (by kernel_rfl) rfl rfl
def d2N:CC:=(.seq (.reg f1o) .ret)
def c6j:CC:=(.seq (.reg f05) .ret)
def d6G:CC:=(.cond (tm 13) c6j .skip)
def c61:CC:=(.seq (.reg c6S) d6G)
def c8X:CC:=(.cond (tm 10) d2N c61)
def d5Y:CC:=(.seq (.reg d2z) c8X)
def d0O:CC:=(.block 0 d5Y)
def c2c:CC:=(.seq (.reg d1n) .ret)
def b9R:CC:=(.cond (tm 34) c2c .skip)
def b7R:CC:=(.seq (.reg c7Z) b9R)
def b7F:CC:=(.seq (.reg d6p) b7R)
def c1O:CC:=(.seq (.reg e8G) .ret)
def b7y:CC:=(.cond (tm 43) c1O .skip)
def c2D:CC:=(.seq (.reg f2q) b7y)
def b8X:CC:=(.seq (.reg f1k) c2D)
def c3W:CC:=(.seq (.reg e92) .ret)
def c3X:CC:=(.seq b8X c3W)
def c6f:CC:=(.seq b7F c3X)
def c7U:CC:=(.seq d0O c6f)
def e1K:CC:=(.seq (.reg d5A) c7U)
theorem f5g:type_of% (qz d2N.eq_1 (qz c6j.eq_1 (qz d6G.eq_1 (qz c61.eq_1 (qz c8X.eq_1 (qz d5Y.eq_1 (qz d0O.eq_1 (qz c2c.eq_1 (qz b9R.eq_1 (qz b7R.eq_1 (qz b7F.eq_1 (qz c1O.eq_1 (qz b7y.eq_1 (qz c2D.eq_1 (qz b8X.eq_1 (qz c3W.eq_1 (qz c3X.eq_1 (qz c6f.eq_1 (qz c7U.eq_1 (qy e1K.eq_1)))))))))))))))))))):=⟨kr,kr,kr,kr,kr,kr,kr,kr,kr,kr,kr,kr,kr,kr,kr,kr,kr,kr,kr,kr⟩
theorem f4k:FnAt Tryz.prog tb b0i e1K 53 [.tmp 4,.tmp 5] :=i9 i6 Tryz.func132 rfl (by kernel_rfl) (by kernel_rfl) rfl rfl
def c6J:CC:=(.seq (.reg d0e) .ret)
def e2h:CC:=(.seq (.reg d68) c6J)
theorem f5c:type_of% (qz c6J.eq_1 (qy e2h.eq_1)):=⟨kr,kr⟩
theorem f3b:FnAt Tryz.prog tb a5v e2h 10 [.tmp 4] :=i9 i6 Tryz.func133 rfl (by kernel_rfl) (by kernel_rfl) rfl rfl
def d77:CC:=(.seq (.reg f1b) .ret)
def c8l:CC:=(.cond (tm 22) d77 .skip)
def d6a:CC:=(.seq (.reg a9p) c8l)
def d5Q:CC:=(.seq (.reg a8H) d6a)
def c7S:CC:=(.seq (.reg f1U) .ret)
def d8w:CC:=(.cond (tm 32) c7S .skip)
def d57:CC:=(.seq (.reg a8P) d8w)
def c3p:CC:=(.cond (tm 37) .skip (.exit 0))
def c0e:CC:=(.reg a3D)
def b8p:CC:=(.seq (.reg a4B) c0e)
def c1U:CC:=(.block 1 b8p)
def c3O:CC:=(.reg a3G)
def b9o:CC:=(.seq c1U c3O)
def b9t:CC:=(.seq c3p b9o)
def c5c:CC:=(.seq (.reg a0E) b9t)
def b9h:CC:=(.loop c5c)
def b7n:CC:=(.block 0 b9h)
def c2U:CC:=(.seq (.reg a9l) b7n)
def c3x:CC:=(.seq (.reg a75) .ret)
def c4Y:CC:=(.seq c2U c3x)
def c2A:CC:=(.seq (.reg a9w) c4Y)
def d69:CC:=(.seq d57 c2A)
def d0w:CC:=(.seq d5Q d69)
def e2H:CC:=(.seq (.reg a8E) d0w)
theorem a0e:type_of% (qz d77.eq_1 (qz c8l.eq_1 (qz d6a.eq_1 (qz d5Q.eq_1 (qz c7S.eq_1 (qz d8w.eq_1 (qz d57.eq_1 (qz c3p.eq_1 (qz c0e.eq_1 (qz b8p.eq_1 (qz c1U.eq_1 (qz c3O.eq_1 (qz b9o.eq_1 (qz b9t.eq_1 (qz c5c.eq_1 (qz b9h.eq_1 (qz b7n.eq_1 (qz c2U.eq_1 (qz c3x.eq_1 (qz c4Y.eq_1 (qz c2A.eq_1 (qz d69.eq_1 (qz d0w.eq_1 (qy e2H.eq_1)))))))))))))))))))))))):=⟨kr,kr,kr,kr,kr,kr,kr,kr,kr,kr,kr,kr,kr,kr,kr,kr,kr,kr,kr,kr,kr,kr,kr,kr⟩
theorem e0f:FnAt Tryz.prog tb a0X e2H 51 [.tmp 8,.tmp 9] :=i9 i6 Tryz.func134 rfl (by kernel_rfl) (by kernel_rfl) rfl rfl
def d7v:CC:=(.reg d1J)
def c6N:CC:=(.seq (.reg d0Y) d7v)
def e00:CC:=(.seq (.reg c6G) c6N)
theorem f5f:type_of% (qz d7v.eq_1 (qz c6N.eq_1 (qy e00.eq_1))):=⟨kr,kr,kr⟩
theorem f27:FnAt Tryz.prog tb b0o e00 19 [] :=i9 i6 Tryz.func143 rfl (by kernel_rfl) (by kernel_rfl) rfl rfl
def d3X:CC:=(.seq (.reg d4w) .ret)
def e2G:CC:=(.seq (.reg c9J) d3X)
theorem f5b:type_of% (qz d3X.eq_1 (qy e2G.eq_1)):=⟨kr,kr⟩
theorem f4d:FnAt Tryz.prog tb b0I e2G 8 [.tmp 4] :=i9 i6 Tryz.func144 rfl (by kernel_rfl) (by kernel_rfl) rfl rfl
def c83:CC:=(.seq (.reg f0e) .ret)
def d4s:CC:=(.cond (tm 16) c83 .skip)
def d2U:CC:=(.seq (.reg a4y) d4s)
def d5I:CC:=(.seq (.reg f2c) .ret)
def d07:CC:=(.cond (tm 25) d5I .skip)
def d0p:CC:=(.seq (.reg a4A) d07)
def c3h:CC:=(.seq (.reg b8W) .ret)
def b95:CC:=(.seq (.reg b8I) .ret)
def c3b:CC:=(.seq (.drawn d6V []) .ret)
def c3R:CC:=(.seq (.reg c9j) c3b)
def c4J:CC:=(.cond (tm 46) b95 c3R)
def c2P:CC:=(.seq (.reg a7S) c4J)
def c4X:CC:=(.cond (tm 41) c3h c2P)
def b8K:CC:=(.seq (.reg a3C) c4X)
def c2Q:CC:=(.block 0 b8K)
def c4H:CC:=(.seq (.reg a4Q) c2Q)
def b8Z:CC:=(.seq (.reg a4O) c4H)
def c6H:CC:=(.seq d0p b8Z)
def d4e:CC:=(.seq d2U c6H)
def d2v:CC:=(.seq (.reg a4o) d4e)
def e1J:CC:=(.seq (.reg a4U) d2v)
theorem b1b:type_of% (qz c83.eq_1 (qz d4s.eq_1 (qz d2U.eq_1 (qz d5I.eq_1 (qz d07.eq_1 (qz d0p.eq_1 (qz c3h.eq_1 (qz b95.eq_1 (qz c3b.eq_1 (qz c3R.eq_1 (qz c4J.eq_1 (qz c2P.eq_1 (qz c4X.eq_1 (qz b8K.eq_1 (qz c2Q.eq_1 (qz c4H.eq_1 (qz b8Z.eq_1 (qz c6H.eq_1 (qz d4e.eq_1 (qz d2v.eq_1 (qy e1J.eq_1))))))))))))))))))))):=⟨kr,kr,kr,kr,kr,kr,kr,kr,kr,kr,kr,kr,kr,kr,kr,kr,kr,kr,kr,kr,kr⟩
theorem b0D:FnAt Tryz.prog tb a42 e1J 52 [.tmp 4,.tmp 5] :=i9 i6 Tryz.func145 rfl (by kernel_rfl) (by kernel_rfl) rfl rfl
def d7e:CC:=(.seq (.reg f1g) .ret)
def d1v:CC:=(.cond (tm 11) d7e .skip)
def d9l:CC:=(.seq (.reg c9D) d1v)
def d1i:CC:=(.seq (.reg f0w) .ret)
def d1w:CC:=(.cond (tm 20) d1i .skip)
def c8m:CC:=(.seq (.reg d2g) d1w)
def b7H:CC:=(.seq (.reg d10) .ret)
def c9z:CC:=(.seq c8m b7H)
def c8N:CC:=(.seq (.reg d1z) c9z)
def c6A:CC:=(.seq d9l c8N)
def e2E:CC:=(.seq (.reg d6u) c6A)
theorem f4M:type_of% (qz d7e.eq_1 (qz d1v.eq_1 (qz d9l.eq_1 (qz d1i.eq_1 (qz d1w.eq_1 (qz c8m.eq_1 (qz b7H.eq_1 (qz c9z.eq_1 (qz c8N.eq_1 (qz c6A.eq_1 (qy e2E.eq_1))))))))))):=⟨kr,kr,kr,kr,kr,kr,kr,kr,kr,kr,kr⟩
theorem f3k:FnAt Tryz.prog tb b0e e2E 22 [.tmp 6,.tmp 7] :=i9 i6 Tryz.func146 rfl (by kernel_rfl) (by kernel_rfl) rfl rfl
def c7t:CC:=(.seq (.reg d0z) .ret)
def e1W:CC:=(.seq (.reg c9C) c7t)
theorem f4C:type_of% (qz c7t.eq_1 (qy e1W.eq_1)):=⟨kr,kr⟩
theorem f2U:FnAt Tryz.prog tb b0f e1W 13 [.tmp 4,.tmp 5,.tmp 6] :=i9 i6 Tryz.func147 rfl (by kernel_rfl) (by kernel_rfl) rfl rfl
def d3S:CC:=(.seq (.reg d8H) .ret)
def d9p:CC:=(.cond (tm 12) d3S .skip)
def d2V:CC:=(.seq (.reg a8u) d9p)
def d2y:CC:=(.seq (.drawn d6S []) .ret)
def d6e:CC:=(.cond (tm 21) d2y .skip)
def d1K:CC:=(.seq (.reg d6i) d6e)
def b7P:CC:=(.seq (.reg f0D) .ret)
def c43:CC:=(.cond (tm 34) b7P .skip)
def b7B:CC:=(.seq (.reg f1C) c43)
def b7u:CC:=(.seq (.reg f1P) b7B)
def b8y:CC:=(.seq (.reg f1N) .ret)
def d5f:CC:=(.seq b7u b8y)
def c7A:CC:=(.seq d1K d5f)
def d8G:CC:=(.seq d2V c7A)
def e1F:CC:=(.seq (.reg a8F) d8G)
theorem e1L:type_of% (qz d3S.eq_1 (qz d9p.eq_1 (qz d2V.eq_1 (qz d2y.eq_1 (qz d6e.eq_1 (qz d1K.eq_1 (qz b7P.eq_1 (qz c43.eq_1 (qz b7B.eq_1 (qz b7u.eq_1 (qz b8y.eq_1 (qz d5f.eq_1 (qz c7A.eq_1 (qz d8G.eq_1 (qy e1F.eq_1))))))))))))))):=⟨kr,kr,kr,kr,kr,kr,kr,kr,kr,kr,kr,kr,kr,kr,kr⟩
theorem f2W:FnAt Tryz.prog tb b0j e1F 43 [.tmp 4] :=i9 i6 Tryz.func148 rfl (by kernel_rfl) (by kernel_rfl) rfl rfl
def d3H:CC:=(.reg c8Z)
def d7a:CC:=(.cond (tm 11) .skip d3H)
def d6O:CC:=(.seq (.reg a8L) d7a)
def c7u:CC:=(.cond (tm 11) .skip d6O)
def c9c:CC:=(.seq (.reg a3M) c7u)
def b9b:CC:=(.seq (.reg f2b) .ret)
def c0j:CC:=(.cond (tm 23) b9b .skip)
def b82:CC:=(.seq (.reg a3N) c0j)
def c42:CC:=(.seq (.reg a3R) .ret)
def c31:CC:=(.seq b82 c42)
def b71:CC:=(.seq (.reg a4V) c31)
def b7s:CC:=(.cond (tm 11) b71 .skip)
def d19:CC:=(.seq c9c b7s)
def d3j:CC:=(.block 0 d19)
def c6T:CC:=(.seq (.reg a4I) d3j)
def c5i:CC:=(.seq (.reg f07) .ret)
def d5R:CC:=(.seq c6T c5i)
def e1D:CC:=(.seq (.reg a4P) d5R)
theorem b01:type_of% (qz d3H.eq_1 (qz d7a.eq_1 (qz d6O.eq_1 (qz c7u.eq_1 (qz c9c.eq_1 (qz b9b.eq_1 (qz c0j.eq_1 (qz b82.eq_1 (qz c42.eq_1 (qz c31.eq_1 (qz b71.eq_1 (qz b7s.eq_1 (qz d19.eq_1 (qz d3j.eq_1 (qz c6T.eq_1 (qz c5i.eq_1 (qz d5R.eq_1 (qy e1D.eq_1)))))))))))))))))):=⟨kr,kr,kr,kr,kr,kr,kr,kr,kr,kr,kr,kr,kr,kr,kr,kr,kr,kr⟩
theorem f3H:FnAt Tryz.prog tb a5e e1D 25 [.tmp 6,.tmp 7] :=i9 i6 Tryz.func150 rfl (by kernel_rfl) (by kernel_rfl) rfl rfl
def c8y:CC:=(.seq (.reg d7I) .ret)
def e1e:CC:=(.seq (.reg d3A) c8y)
theorem f4v:type_of% (qz c8y.eq_1 (qy e1e.eq_1)):=⟨kr,kr⟩
theorem f3a:FnAt Tryz.prog tb b0T e1e 4 [.tmp 2] :=i9 i6 Tryz.func151 rfl (by kernel_rfl) (by kernel_rfl) rfl rfl
def c8O:CC:=(.seq (.reg f2s) .ret)
def d00:CC:=(.cond (tm 7) c8O .skip)
def d0I:CC:=(.seq (.reg a9R) d00)
def c8R:CC:=(.seq (.drawn a92 [(3,0),(9,0),(14,0),(18,0)]) .ret)
def d8z:CC:=(.seq d0I c8R)
def e2w:CC:=(.seq (.reg a9S) d8z)
theorem e2A:type_of% (qz c8O.eq_1 (qz d00.eq_1 (qz d0I.eq_1 (qz c8R.eq_1 (qz d8z.eq_1 (qy e2w.eq_1)))))):=⟨kr,kr,kr,kr,kr,kr⟩
theorem f2A:FnAt Tryz.prog tb a5t e2w 31 [.tmp 4,.tmp 5] :=i9 i6 Tryz.func158 rfl (by kernel_rfl) (by kernel_rfl) rfl rfl
def c6D:CC:=(.seq (.reg f0l) .ret)
def d0S:CC:=(.cond (tm 25) c6D .skip)
def c6p:CC:=(.seq (.reg c7x) d0S)
def c1z:CC:=(.seq (.reg d3Y) .ret)
def c7J:CC:=(.seq (.reg c57) c1z)
def c9x:CC:=(.seq c6p c7J)
def d1u:CC:=(.seq (.reg c5W) c9x)
def c9m:CC:=(.cond (tm 15) d1u .skip)
def d05:CC:=(.seq (.reg a8I) c9m)
def c3f:CC:=(.seq (.reg f1F) .ret)
def c4u:CC:=(.cond (tm 46) c3f .skip)
def c21:CC:=(.seq (.reg d3p) c4u)
def b9m:CC:=(.seq (.reg e9u) .ret)
def b7A:CC:=(.cond (tm 58) b9m .skip)
def c5M:CC:=(.seq (.reg c3D) b7A)
def b9n:CC:=(.seq (.reg c3J) .ret)
def b9B:CC:=(.seq c5M b9n)
def c1J:CC:=(.seq (.reg b8n) b9B)
def c5A:CC:=(.seq c21 c1J)
def c3L:CC:=(.seq (.reg c8d) c5A)
def d6z:CC:=(.seq d05 c3L)
def e1c:CC:=(.seq (.reg a9T) d6z)
theorem e1Q:type_of% (qz c6D.eq_1 (qz d0S.eq_1 (qz c6p.eq_1 (qz c1z.eq_1 (qz c7J.eq_1 (qz c9x.eq_1 (qz d1u.eq_1 (qz c9m.eq_1 (qz d05.eq_1 (qz c3f.eq_1 (qz c4u.eq_1 (qz c21.eq_1 (qz b9m.eq_1 (qz b7A.eq_1 (qz c5M.eq_1 (qz b9n.eq_1 (qz b9B.eq_1 (qz c1J.eq_1 (qz c5A.eq_1 (qz c3L.eq_1 (qz d6z.eq_1 (qy e1c.eq_1)))))))))))))))))))))):=⟨kr,kr,kr,kr,kr,kr,kr,kr,kr,kr,kr,kr,kr,kr,kr,kr,kr,kr,kr,kr,kr,kr⟩
theorem e0x:FnAt Tryz.prog tb a2c e1c 65 [.tmp 8] :=i9 i6 Tryz.func159 rfl (by kernel_rfl) (by kernel_rfl) rfl rfl
def c6y:CC:=(.seq (.reg d1Y) .ret)
def e2F:CC:=(.seq (.reg c8r) c6y)
theorem f42:type_of% (qz c6y.eq_1 (qy e2F.eq_1)):=⟨kr,kr⟩
theorem f3x:FnAt Tryz.prog tb b0z e2F 11 [.tmp 6] :=i9 i6 Tryz.func160 rfl (by kernel_rfl) (by kernel_rfl) rfl rfl
def d0o:CC:=(.cond (tm 15) .skip (.exit 0))
def c3Y:CC:=(.seq (.reg f2e) .ret)
def c2z:CC:=(.cond (tm 21) c3Y .skip)
def c1k:CC:=(.seq (.reg f1x) c2z)
def c5d:CC:=(.seq (.reg f0t) c1k)
def c9u:CC:=(.block 1 c5d)
def c4s:CC:=(.reg f0q)
def c9P:CC:=(.seq c9u c4s)
def d3d:CC:=(.seq d0o c9P)
def d7L:CC:=(.seq (.reg c7F) d3d)
def c9s:CC:=(.loop d7L)
def d75:CC:=(.block 0 c9s)
def d6J:CC:=(.seq (.reg c7y) d75)
def b9p:CC:=(.seq (.reg d7Y) .ret)
def d2G:CC:=(.seq d6J b9p)
def e2n:CC:=(.seq (.reg c6u) d2G)
theorem e04:type_of% (qz d0o.eq_1 (qz c3Y.eq_1 (qz c2z.eq_1 (qz c1k.eq_1 (qz c5d.eq_1 (qz c9u.eq_1 (qz c4s.eq_1 (qz c9P.eq_1 (qz d3d.eq_1 (qz d7L.eq_1 (qz c9s.eq_1 (qz d75.eq_1 (qz d6J.eq_1 (qz b9p.eq_1 (qz d2G.eq_1 (qy e2n.eq_1)))))))))))))))):=⟨kr,kr,kr,kr,kr,kr,kr,kr,kr,kr,kr,kr,kr,kr,kr,kr⟩
theorem f3T:FnAt Tryz.prog tb a48 e2n 25 [.tmp 4,.tmp 5] :=i9 i6 Tryz.func162 rfl (by kernel_rfl) (by kernel_rfl) rfl rfl
def d0P:CC:=(.cond (tm 12) .skip (.exit 0))
def c4v:CC:=(.seq (.reg f0s) .ret)
def b7X:CC:=(.cond (tm 19) c4v .skip)
def c1H:CC:=(.seq (.reg c75) b7X)
def d89:CC:=(.seq (.reg d4p) c1H)
def d1L:CC:=(.block 1 d89)
def d4O:CC:=(.seq d0P d1L)
def d74:CC:=(.seq (.reg a9q) d4O)
def d8P:CC:=(.loop d74)
def c5U:CC:=(.block 0 d8P)
def d66:CC:=(.seq (.reg d3G) c5U)
def b7S:CC:=(.seq (.reg d6D) .ret)
def d7z:CC:=(.seq d66 b7S)
def e2e:CC:=(.seq (.reg d8d) d7z)
theorem b1a:type_of% (qz d0P.eq_1 (qz c4v.eq_1 (qz b7X.eq_1 (qz c1H.eq_1 (qz d89.eq_1 (qz d1L.eq_1 (qz d4O.eq_1 (qz d74.eq_1 (qz d8P.eq_1 (qz c5U.eq_1 (qz d66.eq_1 (qz b7S.eq_1 (qz d7z.eq_1 (qy e2e.eq_1)))))))))))))):=⟨kr,kr,kr,kr,kr,kr,kr,kr,kr,kr,kr,kr,kr,kr⟩
theorem f4f:FnAt Tryz.prog tb a5c e2e 21 [.tmp 6] :=i9 i6 Tryz.func168 rfl (by kernel_rfl) (by kernel_rfl) rfl rfl
def d6C:CC:=(.seq (.reg f0H) .ret)
def d35:CC:=(.cond (tm 27) d6C .skip)
def c8I:CC:=(.seq (.reg c7R) d35)
def d7p:CC:=(.seq (.reg d3Q) .ret)
def d2i:CC:=(.seq c8I d7p)
def e0C:CC:=(.seq (.reg d4z) d2i)
theorem f5j:type_of% (qz d6C.eq_1 (qz d35.eq_1 (qz c8I.eq_1 (qz d7p.eq_1 (qz d2i.eq_1 (qy e0C.eq_1)))))):=⟨kr,kr,kr,kr,kr,kr⟩
theorem f2Q:FnAt Tryz.prog tb a2r e0C 34 [.tmp 6,.tmp 7] :=i9 i6 Tryz.func169 rfl (by kernel_rfl) (by kernel_rfl) rfl rfl
def d58:CC:=(.seq (.drawn c7g []) .ret)
def d42:CC:=(.cond (tm 12) d58 .skip)
def c5T:CC:=(.seq (.reg a8O) d42)
def d2D:CC:=(.seq (.reg a88) c5T)
def c5Z:CC:=(.seq (.reg d0v) .ret)
def d1F:CC:=(.seq d2D c5Z)
def e0O:CC:=(.seq (.reg a8B) d1F)
theorem e09:type_of% (qz d58.eq_1 (qz d42.eq_1 (qz c5T.eq_1 (qz d2D.eq_1 (qz c5Z.eq_1 (qz d1F.eq_1 (qy e0O.eq_1))))))):=⟨kr,kr,kr,kr,kr,kr,kr⟩
theorem d9K:FnAt Tryz.prog tb b0O e0O 23 [.tmp 4,.tmp 5,.tmp 6] :=i9 i6 Tryz.func170 rfl (by kernel_rfl) (by kernel_rfl) rfl rfl
def d2A:CC:=(.cond (tm 13) .skip (.exit 0))
def c70:CC:=(.seq (.reg c7m) d2A)
def d9c:CC:=(.reg f0W)
def c78:CC:=(.block 1 d9c)
def d5B:CC:=(.seq c70 c78)
def d8N:CC:=(.loop d5B)
def d4x:CC:=(.block 0 d8N)
def c8B:CC:=(.seq (.reg d1o) .ret)
def d38:CC:=(.seq d4x c8B)
def e1u:CC:=(.seq (.reg d64) d38)
theorem e1q:type_of% (qz d2A.eq_1 (qz c70.eq_1 (qz d9c.eq_1 (qz c78.eq_1 (qz d5B.eq_1 (qz d8N.eq_1 (qz d4x.eq_1 (qz c8B.eq_1 (qz d38.eq_1 (qy e1u.eq_1)))))))))):=⟨kr,kr,kr,kr,kr,kr,kr,kr,kr,kr⟩
theorem f3P:FnAt Tryz.prog tb b0U e1u 17 [.tmp 4] :=i9 i6 Tryz.func171 rfl (by kernel_rfl) (by kernel_rfl) rfl rfl
def d0Z:CC:=(.cond (tm 16) .skip (.exit 0))
def d5w:CC:=(.seq (.reg a93) d0Z)
def d3f:CC:=(.reg d1A)
def d2x:CC:=(.block 1 d3f)
def d0n:CC:=(.seq d5w d2x)
def c9t:CC:=(.loop d0n)
def c93:CC:=(.block 0 c9t)
def d0H:CC:=(.seq (.reg d6K) .ret)
def d1V:CC:=(.seq c93 d0H)
def e1o:CC:=(.seq (.reg d7P) d1V)
theorem b03:type_of% (qz d0Z.eq_1 (qz d5w.eq_1 (qz d3f.eq_1 (qz d2x.eq_1 (qz d0n.eq_1 (qz c9t.eq_1 (qz c93.eq_1 (qz d0H.eq_1 (qz d1V.eq_1 (qy e1o.eq_1)))))))))):=⟨kr,kr,kr,kr,kr,kr,kr,kr,kr,kr⟩
theorem f3u:FnAt Tryz.prog tb b0c e1o 23 [.tmp 4] :=i9 i6 Tryz.func172 rfl (by kernel_rfl) (by kernel_rfl) rfl rfl
def d6m:CC:=(.cond (tm 8) .skip (.exit 0))
def d8u:CC:=(.seq (.reg a98) d6m)
def c7N:CC:=(.cond (tm 18) .ret .skip)
def d2j:CC:=(.seq (.reg d3n) c7N)
def d7M:CC:=(.block 1 d2j)
def c1F:CC:=(.reg c6a)
def d2s:CC:=(.seq d7M c1F)
def d5j:CC:=(.seq d8u d2s)
def d1N:CC:=(.loop d5j)
def d0j:CC:=(.block 0 d1N)
def e02:CC:=(.seq (.reg c9q) d0j)
theorem a5C:type_of% (qz d6m.eq_1 (qz d8u.eq_1 (qz c7N.eq_1 (qz d2j.eq_1 (qz d7M.eq_1 (qz c1F.eq_1 (qz d2s.eq_1 (qz d5j.eq_1 (qz d1N.eq_1 (qz d0j.eq_1 (qy e02.eq_1))))))))))):=⟨kr,kr,kr,kr,kr,kr,kr,kr,kr,kr,kr⟩
theorem f3V:FnAt Tryz.prog tb a0Q e02 19 [] :=i9 i6 Tryz.func179 rfl (by kernel_rfl) (by kernel_rfl) rfl rfl
def b3r:CC:=(.seq (.reg a8D) .ret)
def b3u:CC:=(.seq (.reg a4n) .ret)
def b3d:CC:=(.seq (.reg a3T) (.goto 0))
def b3e:CC:=(.cond (tm 31) b3d .skip)
def b20:CC:=(.seq (.reg a1S) b3e)
def b3o:CC:=(.cond (tm 27) b3u b20)
def b3n:CC:=(.seq (.reg a0y) b3o)
def b3t:CC:=(.cond (tm 23) b3r b3n)
def b3v:CC:=(.seq (.reg a0G) b3t)
def b3p:CC:=(.block 0 b3v)
def b28:CC:=(.seq (.reg a8d) .ret)
def b2Y:CC:=(.cond (tm 42) b28 .skip)
def b29:CC:=(.seq (.reg a3H) b2Y)
def b3i:CC:=(.seq (.reg a4d) b29)
def b22:CC:=(.seq (.reg a3F) .ret)
def b2W:CC:=(.seq b3i b22)
def b3s:CC:=(.seq b3p b2W)
def b3m:CC:=(.seq (.reg a4r) b3s)
theorem a2V:type_of% (qz b3r.eq_1 (qz b3u.eq_1 (qz b3d.eq_1 (qz b3e.eq_1 (qz b20.eq_1 (qz b3o.eq_1 (qz b3n.eq_1 (qz b3t.eq_1 (qz b3v.eq_1 (qz b3p.eq_1 (qz b28.eq_1 (qz b2Y.eq_1 (qz b29.eq_1 (qz b3i.eq_1 (qz b22.eq_1 (qz b2W.eq_1 (qz b3s.eq_1 (qz b3m.eq_1 ((qw a2Z (.seq .skip b3m) kr)))))))))))))))))))):=⟨kr,kr,kr,kr,kr,kr,kr,kr,kr,kr,kr,kr,kr,kr,kr,kr,kr,kr,kr⟩
def e0N:CC:=(.seq (.reg c87) (.scope a0l))
theorem f4Y:type_of% (qy e0N.eq_1):=kr
theorem f3o:FnAt Tryz.prog tb b0F e0N 45 [.tmp 10,.tmp 11] :=i9 i6 Tryz.func181 rfl (by kernel_rfl) (by kernel_rfl) rfl rfl
def d8M:CC:=(.seq (.reg f1Z) .ret)
def c7W:CC:=(.cond (tm 10) d8M .skip)
def d8U:CC:=(.seq (.reg a85) c7W)
def b9a:CC:=(.reg a9X)
def d4U:CC:=(.cond (tm 34) b9a .skip)
def d5K:CC:=(.seq (.reg a8V) d4U)
def c3v:CC:=(.seq (.reg a8G) .ret)
def c5V:CC:=(.seq d5K c3v)
def c86:CC:=(.seq (.reg a82) c5V)
def d2P:CC:=(.seq (.reg a9Z) c86)
def c9U:CC:=(.seq d8U d2P)
def e2f:CC:=(.seq (.reg a87) c9U)
theorem e2i:type_of% (qz d8M.eq_1 (qz c7W.eq_1 (qz d8U.eq_1 (qz b9a.eq_1 (qz d4U.eq_1 (qz d5K.eq_1 (qz c3v.eq_1 (qz c5V.eq_1 (qz c86.eq_1 (qz d2P.eq_1 (qz c9U.eq_1 (qy e2f.eq_1)))))))))))):=⟨kr,kr,kr,kr,kr,kr,kr,kr,kr,kr,kr,kr⟩
theorem f2S:FnAt Tryz.prog tb a2b e2f 51 [.tmp 4] :=i9 i6 Tryz.func182 rfl (by kernel_rfl) (by kernel_rfl) rfl rfl
def c6z:CC:=(.seq (.reg d86) .ret)
def e1Z:CC:=(.seq (.reg d1B) c6z)
theorem f4K:type_of% (qz c6z.eq_1 (qy e1Z.eq_1)):=⟨kr,kr⟩
theorem f3v:FnAt Tryz.prog tb V6 e1Z 7 [.tmp 2] :=i9 i6 Tryz.func183 rfl (by kernel_rfl) (by kernel_rfl) rfl rfl
def d0B:CC:=(.seq (.reg d5m) .ret)
def e1m:CC:=(.seq (.reg d5C) d0B)
theorem f5d:type_of% (qz d0B.eq_1 (qy e1m.eq_1)):=⟨kr,kr⟩
theorem f3X:FnAt Tryz.prog tb V1 e1m 5 [.tmp 2] :=i9 i6 Tryz.func184 rfl (by kernel_rfl) (by kernel_rfl) rfl rfl
def d5q:CC:=(.seq (.reg f02) .ret)
def d6Q:CC:=(.cond (tm 7) d5q .skip)
def c6t:CC:=(.seq (.reg c6i) d6Q)
def b9w:CC:=(.cond (tm 16) .skip (.exit 0))
def b9r:CC:=(.reg f1d)
def c4L:CC:=(.seq (.reg f1r) b9r)
def b99:CC:=(.block 1 c4L)
def c2j:CC:=(.reg f1M)
def c4b:CC:=(.seq b99 c2j)
def c4M:CC:=(.seq b9w c4b)
def c0Q:CC:=(.seq (.reg d59) c4M)
def c8J:CC:=(.loop c0Q)
def c7V:CC:=(.block 0 c8J)
def d4b:CC:=(.seq (.reg d0C) c7V)
def c4B:CC:=(.seq (.reg d4B) .ret)
def c56:CC:=(.seq d4b c4B)
def c9E:CC:=(.seq (.reg c9n) c56)
def d1T:CC:=(.seq c6t c9E)
def e2u:CC:=(.seq (.reg c9H) d1T)
theorem e0L:type_of% (qz d5q.eq_1 (qz d6Q.eq_1 (qz c6t.eq_1 (qz b9w.eq_1 (qz b9r.eq_1 (qz c4L.eq_1 (qz b99.eq_1 (qz c2j.eq_1 (qz c4b.eq_1 (qz c4M.eq_1 (qz c0Q.eq_1 (qz c8J.eq_1 (qz c7V.eq_1 (qz d4b.eq_1 (qz c4B.eq_1 (qz c56.eq_1 (qz c9E.eq_1 (qz d1T.eq_1 (qy e2u.eq_1))))))))))))))))))):=⟨kr,kr,kr,kr,kr,kr,kr,kr,kr,kr,kr,kr,kr,kr,kr,kr,kr,kr,kr⟩
theorem f2Z:FnAt Tryz.prog tb b0l e2u 33 [.tmp 2] :=i9 i6 Tryz.func187 rfl (by kernel_rfl) (by kernel_rfl) rfl rfl
def d4I:CC:=(.seq (.reg f2o) .ret)
def d7R:CC:=(.seq (.reg c6V) .ret)
def b8N:CC:=(.seq (.reg f1I) .ret)
def b76:CC:=(.seq (.reg f2m) .ret)
def c5e:CC:=(.cond (tm 36) b76 .skip)
def c2T:CC:=(.seq (.reg f0r) c5e)
def c4K:CC:=(.cond (tm 31) b8N c2T)
def c12:CC:=(.seq (.reg f01) c4K)
def d24:CC:=(.cond (tm 24) d7R c12)
def d0Q:CC:=(.seq (.reg d7D) d24)
def d76:CC:=(.cond (tm 16) d4I d0Q)
def d4X:CC:=(.seq (.reg c9i) d76)
def c60:CC:=(.block 0 d4X)
def b7Y:CC:=(.cond (tm 59) .skip (.exit 1))
def c5L:CC:=(.seq (.reg e9I) b7Y)
def b8l:CC:=(.seq (.reg e8u) .ret)
def c0X:CC:=(.cond (tm 73) b8l .skip)
def c2u:CC:=(.seq (.reg e9x) c0X)
def c0I:CC:=(.reg e8K)
def c3B:CC:=(.seq c2u c0I)
def c5S:CC:=(.seq (.reg e9N) c3B)
def b81:CC:=(.cond (tm 64) c5S .skip)
def c1I:CC:=(.seq (.reg e8r) b81)
def c4T:CC:=(.seq (.reg e8A) .ret)
def b8d:CC:=(.cond (tm 93) c4T .skip)
def c2n:CC:=(.seq (.reg e8R) b8d)
def b9C:CC:=(.seq (.reg e84) .ret)
def c5x:CC:=(.cond (tm 114) b9C .skip)
def c5u:CC:=(.seq (.reg e8O) c5x)
def c2N:CC:=(.seq (.reg e93) .ret)
def c1A:CC:=(.seq c5u c2N)
def c4R:CC:=(.seq (.reg e9a) c1A)
def c1S:CC:=(.seq (.reg e9S) .ret)
def c3a:CC:=(.cond (tm 139) c1S .skip)
def b9k:CC:=(.seq (.reg e8D) c3a)
def c3u:CC:=(.seq (.reg e8o) .ret)
def b8u:CC:=(.seq b9k c3u)
def c1p:CC:=(.seq (.reg e9B) b8u)
def c3M:CC:=(.cond (tm 132) c1p .skip)
def c2H:CC:=(.seq (.reg e9e) c3M)
def b7r:CC:=(.cond (tm 107) c4R c2H)
def c0h:CC:=(.seq (.reg e97) b7r)
def b7I:CC:=(.seq (.reg e8h) c0h)
def c3k:CC:=(.seq (.reg e9b) b7I)
def c07:CC:=(.seq c2n c3k)
def c20:CC:=(.seq c1I c07)
def c2x:CC:=(.block 2 c20)
def c5p:CC:=(.seq c5L c2x)
def c5R:CC:=(.loop c5p)
def b93:CC:=(.block 1 c5R)
def c5C:CC:=(.seq (.reg e8g) .ret)
def b7x:CC:=(.seq b93 c5C)
def c5F:CC:=(.seq (.reg e86) b7x)
def c29:CC:=(.seq (.reg e9o) c5F)
def b8U:CC:=(.seq (.reg e9O) c29)
def b7C:CC:=(.seq (.reg e9r) b8U)
def c1D:CC:=(.seq (.reg e8t) b7C)
def c7o:CC:=(.seq c60 c1D)
def d2b:CC:=(.seq (.reg c6v) c7o)
def e1G:CC:=(.seq (.reg c8j) d2b)
theorem f47:type_of% (qz d4I.eq_1 (qz d7R.eq_1 (qz b8N.eq_1 (qz b76.eq_1 (qz c5e.eq_1 (qz c2T.eq_1 (qz c4K.eq_1 (qz c12.eq_1 (qz d24.eq_1 (qz d0Q.eq_1 (qz d76.eq_1 (qz d4X.eq_1 (qz c60.eq_1 (qz b7Y.eq_1 (qz c5L.eq_1 (qz b8l.eq_1 (qz c0X.eq_1 (qz c2u.eq_1 (qz c0I.eq_1 (qz c3B.eq_1 (qz c5S.eq_1 (qz b81.eq_1 (qz c1I.eq_1 (qz c4T.eq_1 (qz b8d.eq_1 (qz c2n.eq_1 (qz b9C.eq_1 (qz c5x.eq_1 (qz c5u.eq_1 (qz c2N.eq_1 (qz c1A.eq_1 (qz c4R.eq_1 (qz c1S.eq_1 (qz c3a.eq_1 (qz b9k.eq_1 (qz c3u.eq_1 (qz b8u.eq_1 (qz c1p.eq_1 (qz c3M.eq_1 (qz c2H.eq_1 (qz b7r.eq_1 (qz c0h.eq_1 (qz b7I.eq_1 (qz c3k.eq_1 (qz c07.eq_1 (qz c20.eq_1 (qz c2x.eq_1 (qz c5p.eq_1 (qz c5R.eq_1 (qz b93.eq_1 (qz c5C.eq_1 (qz b7x.eq_1 (qz c5F.eq_1 (qz c29.eq_1 (qz b8U.eq_1 (qz b7C.eq_1 (qz c1D.eq_1 (qz c7o.eq_1 (qz d2b.eq_1 (qy e1G.eq_1)))))))))))))))))))))))))))))))))))))))))))))))))))))))))))):=⟨kr,kr,kr,kr,kr,kr,kr,kr,kr,kr,kr,kr,kr,kr,kr,kr,kr,kr,kr,kr,kr,kr,kr,kr,kr,kr,kr,kr,kr,kr,kr,kr,kr,kr,kr,kr,kr,kr,kr,kr,kr,kr,kr,kr,kr,kr,kr,kr,kr,kr,kr,kr,kr,kr,kr,kr,kr,kr,kr,kr⟩
theorem f3Q:FnAt Tryz.prog tb a2i e1G 143 [.tmp 4] :=i9 i6 Tryz.func191 rfl (by kernel_rfl) (by kernel_rfl) rfl rfl
def d4k:CC:=(.cond (tm 16) .skip (.exit 0))
def d8b:CC:=(.seq (.reg a4w) d4k)
def c4e:CC:=(.seq (.reg f1h) .ret)
def c1Z:CC:=(.cond (tm 30) c4e .skip)
def c05:CC:=(.seq (.reg c9b) c1Z)
def b8i:CC:=(.seq (.reg d0d) .ret)
def c0F:CC:=(.cond (tm 54) b8i .skip)
def c0B:CC:=(.seq (.reg a9u) c0F)
def b77:CC:=(.reg d2T)
def c4p:CC:=(.seq c0B b77)
def c03:CC:=(.seq (.reg d6j) c4p)
def b8k:CC:=(.seq (.drawn d6w [(2,0),(5,0)]) c03)
def d16:CC:=(.seq c05 b8k)
def d6c:CC:=(.seq (.drawn d2d [(2,0),(5,0)]) d16)
def d3J:CC:=(.block 1 d6c)
def d6F:CC:=(.seq d8b d3J)
def d52:CC:=(.loop d6F)
def d4H:CC:=(.block 0 d52)
def b92:CC:=(.seq (.reg a8i) .ret)
def d63:CC:=(.seq d4H b92)
def e0K:CC:=(.seq (.reg d6X) d63)
theorem a09:type_of% (qz d4k.eq_1 (qz d8b.eq_1 (qz c4e.eq_1 (qz c1Z.eq_1 (qz c05.eq_1 (qz b8i.eq_1 (qz c0F.eq_1 (qz c0B.eq_1 (qz b77.eq_1 (qz c4p.eq_1 (qz c03.eq_1 (qz b8k.eq_1 (qz d16.eq_1 (qz d6c.eq_1 (qz d3J.eq_1 (qz d6F.eq_1 (qz d52.eq_1 (qz d4H.eq_1 (qz b92.eq_1 (qz d63.eq_1 (qy e0K.eq_1))))))))))))))))))))):=⟨kr,kr,kr,kr,kr,kr,kr,kr,kr,kr,kr,kr,kr,kr,kr,kr,kr,kr,kr,kr,kr⟩
theorem f4g:FnAt Tryz.prog tb b0S e0K 63 [.tmp 8,.tmp 9] :=i9 i6 Tryz.func196 rfl (by kernel_rfl) (by kernel_rfl) rfl rfl
def d7h:CC:=(.seq (.reg f08) .ret)
def c55:CC:=(.cond (tm 24) d7h .skip)
def c9B:CC:=(.seq (.reg c9y) c55)
def d7Q:CC:=(.seq (.drawn d8Y [(2,0),(5,0)]) .ret)
def c9N:CC:=(.seq (.reg d9e) d7Q)
def d3z:CC:=(.seq c9B c9N)
def c7I:CC:=(.seq (.drawn d9m [(2,0),(5,0)]) d3z)
def e1X:CC:=(.seq (.reg d1M) c7I)
theorem f5n:type_of% (qz d7h.eq_1 (qz c55.eq_1 (qz c9B.eq_1 (qz d7Q.eq_1 (qz c9N.eq_1 (qz d3z.eq_1 (qz c7I.eq_1 (qy e1X.eq_1)))))))):=⟨kr,kr,kr,kr,kr,kr,kr,kr⟩
theorem f3c:FnAt Tryz.prog tb b0B e1X 46 [.tmp 8] :=i9 i6 Tryz.func197 rfl (by kernel_rfl) (by kernel_rfl) rfl rfl
def d6y:CC:=(.seq (.reg d4f) .ret)
def e0Z:CC:=(.seq (.reg c8x) d6y)
theorem f4n:type_of% (qz d6y.eq_1 (qy e0Z.eq_1)):=⟨kr,kr⟩
theorem f3W:FnAt Tryz.prog tb b0H e0Z 4 [.tmp 2] :=i9 i6 Tryz.func200 rfl (by kernel_rfl) (by kernel_rfl) rfl rfl
def d1q:CC:=(.seq (.reg d6o) .ret)
def e1f:CC:=(.seq (.reg c79) d1q)
theorem f4L:type_of% (qz d1q.eq_1 (qy e1f.eq_1)):=⟨kr,kr⟩
theorem f3J:FnAt Tryz.prog tb a4Y e1f 8 [.tmp 4] :=i9 i6 Tryz.func203 rfl (by kernel_rfl) (by kernel_rfl) rfl rfl
def b2f:CC:=(.seq (.reg a39) .ret)
def b1H:CC:=(.cond (tm 17) b2f .skip)
def b2k:CC:=(.seq (.reg Y0) b1H)
def b1Y:CC:=(.cond (tm 20) (.goto 1) .skip)
def b2j:CC:=(.seq (.reg a0L) b1Y)
def b1A:CC:=(.seq (.reg Y2) .ret)
def b1B:CC:=(.cond (tm 30) b1A .skip)
def b1n:CC:=(.seq (.reg O9) b1B)
def b1x:CC:=(.cond (tm 39) (.goto 2) .skip)
def b1z:CC:=(.seq (.reg O4) b1x)
def b1C:CC:=(.seq (.reg T0) (.goto 0))
def b1q:CC:=(.seq b1z b1C)
def b1u:CC:=(.seq .skip b1q)
def b1v:CC:=(.seq (.goto 0) b1u)
def b1l:CC:=(.seq (.reg Y9) b1v)
def b2c:CC:=(.seq b1n b1l)
def b1U:CC:=(.seq .skip b2c)
def b2l:CC:=(.seq b2j b1U)
def b1K:CC:=(.seq b2k b2l)
theorem a2K:type_of% (qz b2f.eq_1 (qz b1H.eq_1 (qz b2k.eq_1 (qz b1Y.eq_1 (qz b2j.eq_1 (qz b1A.eq_1 (qz b1B.eq_1 (qz b1n.eq_1 (qz b1x.eq_1 (qz b1z.eq_1 (qz b1C.eq_1 (qz b1q.eq_1 (qz b1u.eq_1 (qz b1v.eq_1 (qz b1l.eq_1 (qz b2c.eq_1 (qz b1U.eq_1 (qz b2l.eq_1 (qz b1K.eq_1 ((qw a2M (.seq .skip b1K) kr))))))))))))))))))))):=⟨kr,kr,kr,kr,kr,kr,kr,kr,kr,kr,kr,kr,kr,kr,kr,kr,kr,kr,kr,kr⟩
def b2q:CC:=(.seq (.reg Y2) .ret)
def b1I:CC:=(.cond (tm 30) b2q .skip)
def b2u:CC:=(.seq (.reg O9) b1I)
def b1o:CC:=(.cond (tm 39) (.goto 2) .skip)
def b1R:CC:=(.seq (.reg O4) b1o)
def b1t:CC:=(.seq (.reg T0) (.goto 0))
def b17:CC:=(.seq b1R b1t)
def b2n:CC:=(.seq .skip b17)
def b2p:CC:=(.seq (.goto 0) b2n)
def b2t:CC:=(.seq (.reg Y9) b2p)
def b1V:CC:=(.seq b2u b2t)
theorem b21:type_of% (qz b2q.eq_1 (qz b1I.eq_1 (qz b2u.eq_1 (qz b1o.eq_1 (qz b1R.eq_1 (qz b1t.eq_1 (qz b17.eq_1 (qz b2n.eq_1 (qz b2p.eq_1 (qz b2t.eq_1 (qz b1V.eq_1 ((qw a5X (.seq .skip b1V) kr))))))))))))):=⟨kr,kr,kr,kr,kr,kr,kr,kr,kr,kr,kr,kr⟩
def b2v:CC:=(.cond (tm 39) (.goto 2) .skip)
def b1X:CC:=(.seq (.reg O4) b2v)
def b19:CC:=(.seq (.reg T0) (.goto 0))
def b2m:CC:=(.seq b1X b19)
theorem b23:type_of% (qz b2v.eq_1 (qz b1X.eq_1 (qz b19.eq_1 (qz b2m.eq_1 ((qw b3L (.seq .skip b2m) kr)))))):=⟨kr,kr,kr,kr,kr⟩
def e01:CC:=(.seq (.reg d3t) (.scope H3))
theorem f4z:type_of% (qy e01.eq_1):=kr
theorem f3s:FnAt Tryz.prog tb b0N e01 42 [.tmp 6,.tmp 7] :=i9 i6 Tryz.func210 rfl (by kernel_rfl) (by kernel_rfl) rfl rfl
def c84:CC:=(.seq (.reg f0X) .ret)
def d7O:CC:=(.cond (tm 17) c84 .skip)
def d5W:CC:=(.seq (.reg a9Y) d7O)
def d5p:CC:=(.drawn c65 [(4,0)])
def c13:CC:=(.drawn d23 [(4,0)])
def c6d:CC:=(.cond (tm 20) d5p c13)
def c9v:CC:=(.seq (.reg a9r) c6d)
def c4t:CC:=(.seq (.reg a9A) .ret)
def d8o:CC:=(.seq c9v c4t)
def d1D:CC:=(.seq (.reg a80) d8o)
def d7m:CC:=(.seq d5W d1D)
def e2B:CC:=(.seq (.reg a8A) d7m)
theorem e2q:type_of% (qz c84.eq_1 (qz d7O.eq_1 (qz d5W.eq_1 (qz d5p.eq_1 (qz c13.eq_1 (qz c6d.eq_1 (qz c9v.eq_1 (qz c4t.eq_1 (qz d8o.eq_1 (qz d1D.eq_1 (qz d7m.eq_1 (qy e2B.eq_1)))))))))))):=⟨kr,kr,kr,kr,kr,kr,kr,kr,kr,kr,kr,kr⟩
theorem d9V:FnAt Tryz.prog tb b0L e2B 42 [.tmp 6,.tmp 7] :=i9 i6 Tryz.func211 rfl (by kernel_rfl) (by kernel_rfl) rfl rfl
def d44:CC:=(.seq (.reg d8J) .ret)
def e1s:CC:=(.seq (.reg d8m) d44)
theorem f44:type_of% (qz d44.eq_1 (qy e1s.eq_1)):=⟨kr,kr⟩
theorem f4j:FnAt Tryz.prog tb b0b e1s 21 [.tmp 6] :=i9 i6 Tryz.func221 rfl (by kernel_rfl) (by kernel_rfl) rfl rfl
end
end Go.Proofs.YtooooiidpaecmaaGreatDoor
