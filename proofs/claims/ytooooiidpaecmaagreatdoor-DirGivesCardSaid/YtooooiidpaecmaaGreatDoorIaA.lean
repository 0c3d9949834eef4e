import Derived.Test.YtooooiidpaecmaaGreatDoorAmRu
import Derived.Test.YtooooiidpaecmaaGreatDoorAmMv
import Derived.Test.YtooooiidpaecmaaGreatDoorAmRl
import Derived.Test.YtooooiidpaecmaaGreatDoorRows
/- What is known ahead of a run: the fixed runs, sorted keys, sorted rows, the plan, and what lies in memory behind the making of a device. -/
namespace Go.Proofs.YtooooiidpaecmaaGreatDoor
open Go Go.Am
noncomputable def V3 : AV := .agg [iv 64, iv 90, iv 6, iv 30, iv 2, iv 32, iv 1, iv 33, iv 1, iv 34, iv 3, iv 37]
noncomputable def tb0 : Tb := c9c (a8e (a8v (libTb Tryz.prog 199 3 [214, 224] []) [6]) 37) 7 V3
noncomputable def cls : List Cl := [⟨53, [V3], iv 0⟩, ⟨74, [V3], .tuple [iv 68096, iv 0]⟩, ⟨56, [V3, iv 2], .tuple [iv 35, iv 0, iv 0]⟩, ⟨56, [V3, iv 3], .tuple [iv 35, iv 32, iv 0]⟩]
noncomputable def tbA : Tb := d36 tb0 cls
noncomputable def tb : Tb := c1W Tryz.prog tbA [8]
set_option maxRecDepth 100000 in
theorem i8 : tb.fs = O2 Tryz.prog := rfl
noncomputable abbrev B (o : BinOp) (t : TypeId) := d7 Tryz.prog o t
noncomputable abbrev C (n : Nat) (f : FuncId) (a : List RO) : CO := .call (some (pth n)) none (.cst (.func f [])) a
noncomputable abbrev G (n k : Nat) (b : Bool) (o : OP) : CO := .op (some (pth n)) (some (pth k, b)) o
noncomputable abbrev O (n : Nat) (o : OP) : CO := .op (some (pth n)) none o
noncomputable abbrev mV (n k : Nat) : CO := .op (some (pth n)) none (.mv (tm k))
noncomputable abbrev lD (n k : Nat) : CO := .op (some (pth n)) none (.load (tm k))
noncomputable abbrev fA (n i k : Nat) : CO := .op (some (pth n)) none (.fa i (tm k))
noncomputable abbrev eX (n i k : Nat) : CO := .op (some (pth n)) none (.ext i (tm k))
noncomputable abbrev nL (n k : Nat) : CO := .op (some (pth n)) none (.nil (tm k))
abbrev Kq (a b : CC) : Prop := ∀ Q fr m, GX Tryz.prog tb a Q fr m = GX Tryz.prog tb b Q fr m
theorem kr {a : CC} : Kq a a := fun _ _ _ => rfl
theorem qy {a b : CC} (h : a = b) : Kq a b := by rw [h]; exact kr
theorem qz {a b : CC} {R : Prop} (h : a = b) (r : R) : Kq a b ∧ R := ⟨qy h, r⟩
theorem qw (a b : CC) (h : Kq a b) : Kq a b := h
theorem qx {a b : CC} {R : Prop} (h : Kq a b) (r : R) : Kq a b ∧ R := ⟨h, r⟩
theorem wA : type_of% (And.intro @b61 <| And.intro @b6v <| And.intro @e88 <| And.intro @d3l <| And.intro @d5e <| And.intro @d32 <| And.intro @d9R <| And.intro @c7G <| And.intro @d4S <| And.intro @d7u <| And.intro @e6c <| And.intro @e81 <| And.intro @d21 <| And.intro @a9w <| And.intro @e50 <| And.intro @b9u <| And.intro @b7M <| And.intro @d26 <| And.intro @c2Q <| And.intro @a8Q <| And.intro @e6x <| And.intro @e5X <| And.intro @e6r <| And.intro @e58 <| And.intro @e6O <| And.intro @e6u <| And.intro @e7a <| And.intro @e7u <| And.intro @e8a <| And.intro @e7U <| And.intro @e7g <| And.intro @e7A <| And.intro @e5R <| And.intro @e7c <| And.intro @e6J <| And.intro @d1g <| And.intro @e1C <| And.intro @e7o <| And.intro @e6q <| And.intro @e6F <| And.intro @e6A <| And.intro @e6l <| And.intro @e6L <| And.intro @e55 <| And.intro @e6Y <| And.intro @e6K <| And.intro @e6Q <| And.intro @e6e <| And.intro @e5T <| And.intro @a0a <| And.intro @c2r <| And.intro @c2f <| And.intro @A8 <| And.intro @e5P <| @e6X) := And.intro @b61 <| And.intro @b6v <| And.intro @e88 <| And.intro @d3l <| And.intro @d5e <| And.intro @d32 <| And.intro @d9R <| And.intro @c7G <| And.intro @d4S <| And.intro @d7u <| And.intro @e6c <| And.intro @e81 <| And.intro @d21 <| And.intro @a9w <| And.intro @e50 <| And.intro @b9u <| And.intro @b7M <| And.intro @d26 <| And.intro @c2Q <| And.intro @a8Q <| And.intro @e6x <| And.intro @e5X <| And.intro @e6r <| And.intro @e58 <| And.intro @e6O <| And.intro @e6u <| And.intro @e7a <| And.intro @e7u <| And.intro @e8a <| And.intro @e7U <| And.intro @e7g <| And.intro @e7A <| And.intro @e5R <| And.intro @e7c <| And.intro @e6J <| And.intro @d1g <| And.intro @e1C <| And.intro @e7o <| And.intro @e6q <| And.intro @e6F <| And.intro @e6A <| And.intro @e6l <| And.intro @e6L <| And.intro @e55 <| And.intro @e6Y <| And.intro @e6K <| And.intro @e6Q <| And.intro @e6e <| And.intro @e5T <| And.intro @a0a <| And.intro @c2r <| And.intro @c2f <| And.intro @A8 <| And.intro @e5P <| @e6X
theorem wB : type_of% (And.intro @b8X <| And.intro @b77 <| And.intro @b6s <| And.intro @e6i <| And.intro @e7l <| And.intro @e6p <| And.intro @e5V <| And.intro @e7d <| And.intro @e8W <| And.intro @e8N <| And.intro @e7K <| And.intro @e8L <| And.intro @e63 <| And.intro @e6n <| And.intro @e5Z <| And.intro @d6o <| And.intro @b0h <| And.intro @b8u <| And.intro @b8r <| And.intro @b8f <| And.intro @a75 <| And.intro @b68 <| And.intro @c3g <| And.intro @b6A <| And.intro @d9s <| And.intro @c0m <| And.intro @b60 <| And.intro @b6a <| And.intro @d6a <| And.intro @d7f <| And.intro @d6 <| And.intro @Q8 <| And.intro @b8l <| And.intro @b8E <| And.intro @P4 <| And.intro @a1X <| And.intro @b6K <| And.intro @a1M <| And.intro @b63 <| And.intro @b8v <| And.intro @d9J <| And.intro @b6i <| And.intro @l5 <| And.intro @o7 <| And.intro @x9 <| And.intro @v7 <| And.intro @e6G <| And.intro @e6V <| And.intro @b2e <| And.intro @List.length_cons.{0} <| And.intro @List.length_nil.{0} <| And.intro @Nat.zero_add <| And.intro @Nat.add_zero <| And.intro @decide_true <| @decide_false) := And.intro @b8X <| And.intro @b77 <| And.intro @b6s <| And.intro @e6i <| And.intro @e7l <| And.intro @e6p <| And.intro @e5V <| And.intro @e7d <| And.intro @e8W <| And.intro @e8N <| And.intro @e7K <| And.intro @e8L <| And.intro @e63 <| And.intro @e6n <| And.intro @e5Z <| And.intro @d6o <| And.intro @b0h <| And.intro @b8u <| And.intro @b8r <| And.intro @b8f <| And.intro @a75 <| And.intro @b68 <| And.intro @c3g <| And.intro @b6A <| And.intro @d9s <| And.intro @c0m <| And.intro @b60 <| And.intro @b6a <| And.intro @d6a <| And.intro @d7f <| And.intro @d6 <| And.intro @Q8 <| And.intro @b8l <| And.intro @b8E <| And.intro @P4 <| And.intro @a1X <| And.intro @b6K <| And.intro @a1M <| And.intro @b63 <| And.intro @b8v <| And.intro @d9J <| And.intro @b6i <| And.intro @l5 <| And.intro @o7 <| And.intro @x9 <| And.intro @v7 <| And.intro @e6G <| And.intro @e6V <| And.intro @b2e <| And.intro @List.length_cons.{0} <| And.intro @List.length_nil.{0} <| And.intro @Nat.zero_add <| And.intro @Nat.add_zero <| And.intro @decide_true <| @decide_false
theorem wC : type_of% (And.intro @Bool.true_and <| And.intro @Bool.and_true <| And.intro @Bool.and_self <| And.intro @Bool.false_and <| And.intro @Bool.and_false <| And.intro @Bool.or_false <| And.intro @Bool.false_or <| And.intro @Bool.or_true <| And.intro @Bool.true_or <| And.intro @Bool.not_true <| And.intro @Bool.not_false <| And.intro @List.take_succ_cons.{0} <| And.intro @List.take_zero.{0} <| And.intro @List.drop_succ_cons.{0} <| And.intro @List.drop_zero.{0} <| And.intro @List.drop_nil.{0} <| And.intro @List.take_nil.{0} <| And.intro @List.nil_append.{0} <| And.intro @List.cons_append.{0} <| And.intro @List.append_nil.{0} <| And.intro @a47 <| And.intro @b1R <| And.intro @d6c <| And.intro @c7K <| And.intro @b7L <| And.intro @a81 <| And.intro @c47 <| And.intro @b7P <| And.intro @c1u <| And.intro @e3P <| And.intro @e6a <| And.intro @b8h <| And.intro @b7B <| And.intro @b6N <| And.intro @a45 <| And.intro @e5o <| And.intro @e6E <| And.intro @d0Q <| And.intro @c0D <| And.intro @c7b <| And.intro @b7I <| And.intro @c1z <| And.intro @c55 <| And.intro @b78 <| And.intro @b7F <| And.intro @b6O <| And.intro @d4e <| And.intro @c5E <| And.intro @b0q <| And.intro @b7D <| And.intro @e5E <| And.intro @c7n <| And.intro @b8n <| And.intro @c0b <| @d02) := And.intro @Bool.true_and <| And.intro @Bool.and_true <| And.intro @Bool.and_self <| And.intro @Bool.false_and <| And.intro @Bool.and_false <| And.intro @Bool.or_false <| And.intro @Bool.false_or <| And.intro @Bool.or_true <| And.intro @Bool.true_or <| And.intro @Bool.not_true <| And.intro @Bool.not_false <| And.intro @List.take_succ_cons.{0} <| And.intro @List.take_zero.{0} <| And.intro @List.drop_succ_cons.{0} <| And.intro @List.drop_zero.{0} <| And.intro @List.drop_nil.{0} <| And.intro @List.take_nil.{0} <| And.intro @List.nil_append.{0} <| And.intro @List.cons_append.{0} <| And.intro @List.append_nil.{0} <| And.intro @a47 <| And.intro @b1R <| And.intro @d6c <| And.intro @c7K <| And.intro @b7L <| And.intro @a81 <| And.intro @c47 <| And.intro @b7P <| And.intro @c1u <| And.intro @e3P <| And.intro @e6a <| And.intro @b8h <| And.intro @b7B <| And.intro @b6N <| And.intro @a45 <| And.intro @e5o <| And.intro @e6E <| And.intro @d0Q <| And.intro @c0D <| And.intro @c7b <| And.intro @b7I <| And.intro @c1z <| And.intro @c55 <| And.intro @b78 <| And.intro @b7F <| And.intro @b6O <| And.intro @d4e <| And.intro @c5E <| And.intro @b0q <| And.intro @b7D <| And.intro @e5E <| And.intro @c7n <| And.intro @b8n <| And.intro @c0b <| @d02
theorem wD : type_of% (And.intro @b93 <| And.intro @a4U <| And.intro @d5K <| And.intro @b6V <| And.intro @a4W <| And.intro @c4z <| And.intro @c8E <| And.intro @c9D <| And.intro @b7N <| And.intro @b7x <| And.intro @a4D <| And.intro @b86 <| And.intro @b9K <| And.intro @b95 <| And.intro @b7Q <| And.intro @a5e <| And.intro @c7R <| And.intro @b9z <| And.intro @c4S <| And.intro @a4a <| And.intro @c2s <| And.intro @c1D <| And.intro @a4s <| And.intro @b7m <| And.intro @e5y <| And.intro @c1k <| And.intro @b6Y <| And.intro @e4c <| And.intro @b82 <| And.intro @c2u <| And.intro @b8O <| And.intro @b7q <| And.intro @List.all_cons.{0} <| And.intro @List.all_nil.{0} <| And.intro @b7v <| And.intro @c7f <| And.intro @e6g <| And.intro @e6S <| And.intro @d7b <| And.intro @e7k <| And.intro @d38 <| And.intro @c9E <| And.intro @b7J <| And.intro @b2c <| And.intro @b7g <| And.intro @b6q <| And.intro @b70 <| And.intro @nc0 <| And.intro @ilt <| And.intro @ile <| And.intro @Option.some.injEq.{0} <| And.intro @true_and <| And.intro @and_true <| @and_self) := And.intro @b93 <| And.intro @a4U <| And.intro @d5K <| And.intro @b6V <| And.intro @a4W <| And.intro @c4z <| And.intro @c8E <| And.intro @c9D <| And.intro @b7N <| And.intro @b7x <| And.intro @a4D <| And.intro @b86 <| And.intro @b9K <| And.intro @b95 <| And.intro @b7Q <| And.intro @a5e <| And.intro @c7R <| And.intro @b9z <| And.intro @c4S <| And.intro @a4a <| And.intro @c2s <| And.intro @c1D <| And.intro @a4s <| And.intro @b7m <| And.intro @e5y <| And.intro @c1k <| And.intro @b6Y <| And.intro @e4c <| And.intro @b82 <| And.intro @c2u <| And.intro @b8O <| And.intro @b7q <| And.intro @List.all_cons.{0} <| And.intro @List.all_nil.{0} <| And.intro @b7v <| And.intro @c7f <| And.intro @e6g <| And.intro @e6S <| And.intro @d7b <| And.intro @e7k <| And.intro @d38 <| And.intro @c9E <| And.intro @b7J <| And.intro @b2c <| And.intro @b7g <| And.intro @b6q <| And.intro @b70 <| And.intro @nc0 <| And.intro @ilt <| And.intro @ile <| And.intro @Option.some.injEq.{0} <| And.intro @true_and <| And.intro @and_true <| @and_self
noncomputable section
abbrev e59 : FuncId := 4
abbrev b5L : FuncId := 6
abbrev b5V : FuncId := 7
abbrev a7J : FuncId := 8
abbrev a21 : FuncId := 9
abbrev a2Z : FuncId := 11
abbrev a2J : FuncId := 12
abbrev I9 : FuncId := 13
abbrev g2N : FuncId := 15
abbrev a2I : FuncId := 27
abbrev b1X : FuncId := 28
abbrev a7M : FuncId := 29
abbrev a1l : FuncId := 33
abbrev a5P : FuncId := 34
abbrev a54 : FuncId := 35
abbrev R5 : FuncId := 36
abbrev b2H : FuncId := 37
abbrev a0s : FuncId := 38
abbrev a6b : FuncId := 39
abbrev a55 : FuncId := 40
abbrev a5X : FuncId := 41
abbrev a5D : FuncId := 42
abbrev a0y : FuncId := 55
abbrev a3G : FuncId := 56
abbrev a5N : FuncId := 57
abbrev a2R : FuncId := 58
abbrev a7A : FuncId := 59
abbrev b1B : FuncId := 60
abbrev b1u : FuncId := 61
abbrev K7 : FuncId := 64
abbrev W8 : FuncId := 65
abbrev a2Q : FuncId := 66
abbrev a59 : FuncId := 67
abbrev a52 : FuncId := 70
abbrev a1i : FuncId := 71
abbrev a5H : FuncId := 72
abbrev a3H : FuncId := 73
abbrev T0 : FuncId := 74
abbrev a5Z : FuncId := 75
abbrev a5Y : FuncId := 76
abbrev K8 : FuncId := 77
abbrev W0 : FuncId := 78
abbrev a3a : FuncId := 79
abbrev b16 : FuncId := 80
abbrev a1n : FuncId := 84
abbrev W1 : FuncId := 85
abbrev a5O : FuncId := 87
abbrev X5 : FuncId := 92
abbrev X6 : FuncId := 100
abbrev X7 : FuncId := 101
abbrev X1 : FuncId := 102
abbrev b19 : FuncId := 103
abbrev V9 : FuncId := 104
abbrev b1w : FuncId := 105
abbrev a5K : FuncId := 106
abbrev a0t : FuncId := 107
abbrev a2N : FuncId := 108
abbrev a1o : FuncId := 109
abbrev b2j : FuncId := 110
abbrev b1H : FuncId := 111
abbrev a3I : FuncId := 114
abbrev a5F : FuncId := 126
abbrev b17 : FuncId := 127
abbrev a5W : FuncId := 128
abbrev b1E : FuncId := 129
abbrev N6 : FuncId := 130
abbrev a2X : FuncId := 131
abbrev b1y : FuncId := 132
abbrev a5E : FuncId := 133
abbrev a1t : FuncId := 134
abbrev a5U : FuncId := 143
abbrev b1L : FuncId := 144
abbrev a58 : FuncId := 145
abbrev b1J : FuncId := 146
abbrev b1z : FuncId := 147
abbrev b1Y : FuncId := 148
abbrev a5L : FuncId := 150
abbrev b1Z : FuncId := 151
abbrev a5J : FuncId := 158
abbrev W6 : FuncId := 159
abbrev b1M : FuncId := 160
abbrev a50 : FuncId := 161
abbrev a51 : FuncId := 162
abbrev f2H : FuncId := 163
abbrev a5M : FuncId := 168
abbrev a29 : FuncId := 169
abbrev b1V : FuncId := 170
abbrev b1W : FuncId := 171
abbrev b2d : FuncId := 172
abbrev e9h : FuncId := 173
abbrev e9g : FuncId := 174
abbrev e9f : FuncId := 175
abbrev e9e : FuncId := 176
abbrev e9c : FuncId := 177
abbrev a1g : FuncId := 179
abbrev b18 : FuncId := 181
abbrev a3d : FuncId := 182
abbrev W3 : FuncId := 183
abbrev X2 : FuncId := 184
abbrev b1v : FuncId := 185
abbrev b1Q : FuncId := 186
abbrev b1I : FuncId := 187
abbrev a2S : FuncId := 191
abbrev b1P : FuncId := 196
abbrev a5R : FuncId := 197
abbrev b1A : FuncId := 198
abbrev a74 : FuncId := 199
abbrev b1x : FuncId := 200
abbrev a5Q : FuncId := 203
abbrev b2G : FuncId := 204
abbrev e9d : FuncId := 205
abbrev e9b : FuncId := 206
abbrev b2h : FuncId := 210
abbrev b2f : FuncId := 211
abbrev b1U : FuncId := 212
abbrev a3T : FuncId := 214
abbrev b2F : FuncId := 217
abbrev b1F : FuncId := 221
abbrev b0 : TypeId := 3
abbrev c5z : TypeId := 4
abbrev j7 : TypeId := 5
abbrev E4 : TypeId := 9
abbrev Z5 : TypeId := 21
abbrev x6 : TypeId := 24
abbrev a6D : TypeId := 26
abbrev C6 : TypeId := 27
abbrev D7 : TypeId := 28
abbrev i6 : TypeId := 31
abbrev B3 : TypeId := 33
abbrev y6 : TypeId := 38
abbrev a4k : TypeId := 40
abbrev s9 : TypeId := 46
abbrev b5W : TypeId := 64
abbrev a6F : TypeId := 72
abbrev Y8 : TypeId := 82
abbrev M1 : TypeId := 87
abbrev a1H : TypeId := 90
abbrev a3t : TypeId := 118
abbrev b4R : TypeId := 128
abbrev O7 : TypeId := 133
abbrev S9 : TypeId := 156
abbrev a6U : TypeId := 157
abbrev a6y : TypeId := 158
abbrev B7 : TypeId := 161
abbrev M5 : TypeId := 162
abbrev H1 : TypeId := 178
abbrev a0E : TypeId := 185
abbrev J6 : TypeId := 209
abbrev b6R : TypeId := 246
abbrev e9k : TypeId := 273
abbrev a7x : TypeId := 286
theorem aD (a b : Int) (h1 : -9223372036854775808 ≤ a + b := by omega) (h2 : a + b ≤ 9223372036854775807 := by omega) : d7 Tryz.prog .add b0 (iv a) (iv b) = some (iv (a + b)) := e5Q b0 h1 h2
theorem sB (a b : Int) (h1 : -9223372036854775808 ≤ a - b := by omega) (h2 : a - b ≤ 9223372036854775807 := by omega) : d7 Tryz.prog .sub b0 (iv a) (iv b) = some (iv (a - b)) := e6h b0 h1 h2
def a2y : List CO := [
  O 4 (.mv (.cst (.b false)))]
def a4O : List CO := [
  C 17 b5L [],
 O 18 (.un .not (tm 17))]
def a4Q : List CO := [
  O 4 (.mv (.cst (.b false)))]
def a5t : List CO := [
  mV 19 0,
 O 20 (.lt (B .lss b0) (tm 19) (.cst (iv 0))),
 mV 21 20,
 G 22 21 false (.mv (tm 0)),
 G 23 21 false (.gt (B .gtr b0) (tm 22) (.cst (iv 26))),
 O 24 (.pick (tm 21) (.cst (.b true)) (tm 23))]
def a5r : List CO := [
  O 0 (.mv (.cst (iv 9)))]
def d3F : List CO := [
  C 25 b5V [],
 O 5 (.alloc x6 12 [(iv 0), (iv 0), (iv 0), (iv 0), (iv 0), (iv 0), (iv 0), (iv 0), (iv 0), (iv 0), (iv 0), (iv 0)]),
 .op none none (.store 12 (tm 5) (tm 25))]
def e1V : List CO := [
  O 27 (.loadN 12 (tm 5)),
 C 28 a7J [(tm 27)],
 mV 26 28,
 eX 29 0 26,
 eX 30 1 26,
 eX 31 2 26,
 mV 6 29,
 mV 7 30,
 mV 8 31]
def e0b : List CO := [
  O 9 (.mv (.cst (iv 0)))]
def b0e : List CO := [
  mV 32 9,
 mV 33 0,
 O 34 (.lt (B .lss b0) (tm 32) (tm 33))]
def c28 : List CO := [
  mV 37 8,
 mV 38 7,
 O 39 (.loadN 12 (tm 5)),
 mV 40 9,
 O 41 (.add (B .add b0) (.cst (iv 97)) (tm 40)),
 O 42 (.convI .u8 (tm 41)),
 O 43 (.bslice j7 1 1 [(.y 0)] [(0, 1, (tm 42))]),
 O 44 (.b2s (tm 43)),
 mV 45 9,
 O 46 (.add (B .add b0) (tm 45) (.cst (iv 1))),
 C 47 a21 [(tm 37), (tm 38), (tm 39), (.cst (iv 3)), (tm 44), (tm 46)],
 mV 10 47]
def b9t : List CO := [
  mV 48 10,
 O 49 (.ne (B .neq i6) (tm 48) (.cst (iv 0)))]
def f5p : List CO := [
  O 4 (.mv (.cst (.b false)))]
def e5l : List CO := [
  mV 35 9,
 O 36 (.add (B .add b0) (tm 35) (.cst (iv 1))),
 mV 9 36]
def c7Y : List CO := [
  mV 51 8,
 mV 52 7,
 C 53 a2Z [(tm 51), (tm 52), (.cst (iv 3))],
 mV 50 53,
 eX 54 0 50,
 eX 55 1 50,
 mV 11 54,
 mV 12 55]
def c4K : List CO := [
  mV 56 12,
 O 57 (.ne (B .neq i6) (tm 56) (.cst (iv 0))),
 mV 58 57,
 G 59 58 false (.mv (tm 11)),
 G 60 58 false (.len false (tm 59)),
 G 61 58 false (.mv (tm 0)),
 G 62 58 false (.add (B .add b0) (tm 61) (.cst (iv 3))),
 G 63 58 false (.quo (B .quo b0) (tm 62) (.cst (iv 4))),
 G 64 58 false (.ne (B .neq b0) (tm 60) (tm 63)),
 O 65 (.pick (tm 58) (.cst (.b true)) (tm 64))]
def f61 : List CO := [
  O 4 (.mv (.cst (.b false)))]
def c7y : List CO := [
  O 13 (.mv (.cst (iv 0)))]
def a34 : List CO := [
  mV 66 13,
 mV 67 0,
 O 68 (.lt (B .lss b0) (tm 66) (tm 67))]
def a88 : List CO := [
  mV 71 13,
 mV 14 71]
def a9e : List CO := [
  mV 72 1]
def c3a : List CO := [
  mV 73 0,
 O 74 (.sub (B .sub b0) (tm 73) (.cst (iv 1))),
 mV 75 13,
 O 76 (.sub (B .sub b0) (tm 74) (tm 75)),
 mV 14 76]
def a9h : List CO := [
  mV 77 8,
 mV 78 7,
 O 79 (.loadN 12 (tm 5)),
 mV 80 14,
 O 81 (.add (B .add b0) (.cst (iv 97)) (tm 80)),
 O 82 (.convI .u8 (tm 81)),
 O 83 (.bslice j7 1 1 [(.y 0)] [(0, 1, (tm 82))]),
 O 84 (.b2s (tm 83)),
 C 85 a2J [(tm 77), (tm 78), (tm 79), (.cst (iv 3)), (tm 84)],
 mV 12 85]
def a9j : List CO := [
  mV 86 12,
 O 87 (.ne (B .neq i6) (tm 86) (.cst (iv 0)))]
def f6A : List CO := [
  O 4 (.mv (.cst (.b false)))]
def a9t : List CO := [
  mV 69 13,
 O 70 (.add (B .add b0) (tm 69) (.cst (iv 1))),
 mV 13 70]
def c0e : List CO := [
  mV 89 8,
 mV 90 7,
 C 91 a2Z [(tm 89), (tm 90), (.cst (iv 3))],
 mV 88 91,
 eX 92 0 88,
 eX 93 1 88,
 mV 11 92,
 mV 12 93]
def c8t : List CO := [
  mV 95 7,
 mV 96 8,
 C 97 I9 [(tm 95), (tm 96), (.cst (iv 3))],
 mV 94 97,
 eX 98 0 94,
 eX 99 1 94,
 O 15 (.alloc s9 13 [(iv 0), (iv 0), (iv 0), (iv 0), (iv 0), (iv 0), (iv 0), (iv 0), (iv 0), (iv 0), (iv 0), (iv 0), (iv 0)]),
 .op none none (.store 13 (tm 15) (tm 98)),
 mV 16 99]
def b96 : List CO := [
  mV 100 12,
 O 101 (.eq (B .eql i6) (tm 100) (.cst (iv 0))),
 mV 102 101,
 G 103 102 true (.mv (tm 16)),
 G 104 102 true (.eq (B .eql i6) (tm 103) (.cst (iv 0))),
 O 105 (.pick (tm 102) (tm 104) (.cst (.b false))),
 mV 106 105,
 G 107 106 true (.mv (tm 11)),
 G 108 106 true (.len false (tm 107)),
 G 109 106 true (.eq (B .eql b0) (tm 108) (.cst (iv 0))),
 O 110 (.pick (tm 106) (tm 109) (.cst (.b false))),
 mV 111 110,
 G 112 111 true (.loadN 13 (tm 15)),
 G 113 111 true (.build [(iv 0), (iv 0), (iv 0), (iv 0), (iv 0), (iv 0), (iv 0), (iv 0), (iv 0), (iv 0), (iv 0), (iv 0), (iv 0)] [(0, 1, (.cst (iv 2))), (1, 1, (.cst (iv 1)))]),
 G 114 111 true (.eq (B .eql s9) (tm 112) (tm 113)),
 O 115 (.pick (tm 111) (tm 114) (.cst (.b false))),
 mV 4 115]
def d99 : List CO := [
  O 8 (.box x6 (tm 2)),
 O 12 (.mv (.cst (iv 0)))]
def e2V : List CO := [
  mV 13 0,
 mV 14 1,
 O 15 (.loadN 12 (tm 8)),
 mV 16 3,
 mV 17 4,
 mV 18 5,
 C 19 b1X [(tm 13), (tm 14), (tm 15), (tm 16), (tm 17), (tm 18), (.cst (.b true))],
 mV 12 19]
def e1n : List CO := [
  O 6 (.mv (.cst i7)),
 O 7 (.mv (.cst (iv 0)))]
def d5J : List CO := [
  mV 14 0,
 mV 15 1,
 O 16 (.build [(iv 0), (iv 0), (iv 0), (iv 0), (iv 0), (iv 0), (iv 0), (iv 0), (iv 0), (iv 0), (iv 0), (iv 0)] []),
 mV 17 2,
 C 18 a1l [(tm 14), (tm 15), (tm 16), (tm 17)],
 mV 13 18,
 eX 19 0 13,
 eX 20 1 13,
 mV 8 19,
 mV 9 20]
def d5M : List CO := [
  mV 21 9,
 O 22 (.ne (B .neq i6) (tm 21) (.cst (iv 0)))]
def f7u : List CO := [
  mV 23 9,
 O 6 (.mv (.cst i7)),
 mV 7 23]
def d1j : List CO := [
  mV 25 1,
 mV 26 0,
 mV 27 2,
 C 28 a5P [(tm 25), (tm 26), (tm 27)],
 mV 24 28,
 eX 29 0 24,
 eX 30 1 24,
 eX 31 2 24,
 mV 10 29,
 mV 11 30,
 mV 12 31]
def d0R : List CO := [
  mV 32 10,
 C 33 a54 [(tm 32), (.cst (.func R5 []))],
 mV 10 33]
def d8E : List CO := [
  mV 34 10,
 C 35 b2H [(tm 34)]]
def d4P : List CO := [
  mV 36 10,
 mV 37 12,
 mV 6 36,
 mV 7 37]
def d39 : List CO := [
  O 7 (.box x6 (tm 2)),
 O 10 (.mv (.cst (iv 0)))]
def e4I : List CO := [
  mV 17 0,
 mV 18 1,
 O 19 (.loadN 12 (tm 7)),
 mV 20 3,
 mV 21 4,
 C 22 a0s [(tm 17), (tm 18), (tm 19), (tm 20), (tm 21)],
 mV 16 22,
 eX 23 0 16,
 eX 24 1 16,
 eX 25 2 16,
 mV 11 23,
 mV 12 24,
 mV 13 25]
def d9l : List CO := [
  mV 27 13,
 O 28 (.ne (B .neq i6) (tm 27) (.cst (iv 0))),
 mV 26 28]
def f7R : List CO := [
  mV 29 13,
 mV 10 29]
def e2p : List CO := [
  mV 31 12,
 O 32 (.lt (B .lss b0) (tm 31) (.cst (iv 0))),
 mV 30 32]
def f7J : List CO := [
  O 10 (.mv (.cst (iv 11)))]
def e5K : List CO := [
  mV 33 11,
 nL 34 33,
 fA 35 15 34,
 lD 36 35,
 O 37 (.len false (tm 36)),
 O 38 (.sub (B .sub b0) (tm 37) (.cst (iv 1))),
 mV 14 38]
def e5w : List CO := [
  mV 39 11,
 mV 40 12,
 mV 41 11,
 nL 42 41,
 fA 43 15 42,
 lD 44 43,
 mV 45 14,
 O 46 (.iaS 2 (tm 44) (tm 45)),
 O 47 (.loadN 2 (tm 46)),
 C 48 a6b [(tm 39), (tm 40), (tm 47)],
 mV 15 48]
def d6p : List CO := [
  mV 49 15,
 O 50 (.ne (B .neq i6) (tm 49) (.cst (iv 0)))]
def f9b : List CO := [
  mV 51 15,
 mV 10 51]
def b9n : List CO := [
  mV 52 0,
 mV 53 1,
 O 54 (.loadN 12 (tm 7)),
 mV 55 3,
 mV 56 14,
 O 57 (.mul (B .mul b0) (tm 56) (.cst (iv 16))),
 C 58 a55 [(tm 52), (tm 53), (tm 54), (tm 55), (tm 57)],
 mV 10 58]
def d6J : List CO := [
  O 6 (.alloc s9 13 [(iv 0), (iv 0), (iv 0), (iv 0), (iv 0), (iv 0), (iv 0), (iv 0), (iv 0), (iv 0), (iv 0), (iv 0), (iv 0)]),
 O 7 (.mv (.cst (iv 0)))]
def d52 : List CO := [
  mV 13 0,
 O 14 (.eqp false (B .eql C6) (tm 13) (.cst l9))]
def f8k : List CO := [
  O 15 (.build [(iv 0), (iv 0), (iv 0), (iv 0), (iv 0), (iv 0), (iv 0), (iv 0), (iv 0), (iv 0), (iv 0), (iv 0), (iv 0)] []),
 .op none none (.store 13 (tm 6) (tm 15)),
 O 7 (.mv (.cst (iv 1)))]
def d03 : List CO := [
  mV 17 0,
 mV 18 1,
 mV 19 2,
 C 20 a5X [(tm 17), (tm 18), (tm 19)],
 mV 16 20,
 eX 21 0 16,
 eX 22 1 16,
 eX 23 2 16,
 eX 24 3 16,
 mV 8 21,
 mV 9 22,
 mV 10 23,
 mV 11 24]
def d1w : List CO := [
  mV 25 11,
 O 26 (.ne (B .neq i6) (tm 25) (.cst (iv 0)))]
def f7W : List CO := [
  O 27 (.build [(iv 0), (iv 0), (iv 0), (iv 0), (iv 0), (iv 0), (iv 0), (iv 0), (iv 0), (iv 0), (iv 0), (iv 0), (iv 0)] []),
 mV 28 11,
 .op none none (.store 13 (tm 6) (tm 27)),
 mV 7 28]
def d79 : List CO := [
  mV 30 10,
 mV 31 9,
 mV 32 9,
 O 33 (.add (B .add b0) (tm 32) (.cst (iv 32))),
 O 34 (.sl 1 false (tm 30) (some (tm 31)) (some (tm 33)) none),
 C 35 a5D [(tm 34)],
 mV 29 35,
 eX 36 0 29,
 eX 37 1 29,
 O 12 (.alloc s9 13 [(iv 0), (iv 0), (iv 0), (iv 0), (iv 0), (iv 0), (iv 0), (iv 0), (iv 0), (iv 0), (iv 0), (iv 0), (iv 0)]),
 .op none none (.store 13 (tm 12) (tm 36)),
 mV 11 37]
def d6A : List CO := [
  mV 38 11,
 O 39 (.ne (B .neq i6) (tm 38) (.cst (iv 0)))]
def f8a : List CO := [
  O 40 (.build [(iv 0), (iv 0), (iv 0), (iv 0), (iv 0), (iv 0), (iv 0), (iv 0), (iv 0), (iv 0), (iv 0), (iv 0), (iv 0)] []),
 .op none none (.store 13 (tm 6) (tm 40)),
 O 7 (.mv (.cst (iv 9)))]
def d7H : List CO := [
  O 41 (.loadN 13 (tm 12)),
 .op none none (.store 13 (tm 6) (tm 41)),
 O 7 (.mv (.cst (iv 0)))]
def d5p : List CO := [
  O 7 (.box s9 (tm 3)),
 O 8 (.mv (.cst (iv 0)))]
def e1h : List CO := [
  mV 17 0,
 O 18 (.eqp false (B .eql C6) (tm 17) (.cst l9))]
def f7G : List CO := [
  O 8 (.mv (.cst (iv 1)))]
def e4M : List CO := [
  mV 20 0,
 nL 21 20,
 fA 22 1 21,
 O 23 (.loadN 12 (tm 22)),
 mV 24 2,
 C 25 a3G [(tm 23), (tm 24)],
 mV 19 25,
 eX 26 0 19,
 eX 27 1 19,
 eX 28 2 19,
 mV 9 26,
 mV 10 27,
 mV 11 28]
def e5J : List CO := [
  mV 29 11,
 O 30 (.ne (B .neq i6) (tm 29) (.cst (iv 0)))]
def f7M : List CO := [
  mV 31 11,
 mV 8 31]
def d6K : List CO := [
  O 33 (.loadN 13 (tm 7)),
 C 34 a5N [(tm 33)],
 mV 32 34,
 eX 35 0 32,
 eX 36 1 32,
 mV 12 35,
 mV 13 36]
def e2h : List CO := [
  mV 37 13,
 O 38 (.ne (B .neq i6) (tm 37) (.cst (iv 0)))]
def f7C : List CO := [
  mV 39 13,
 mV 8 39]
def d5z : List CO := [
  mV 41 0,
 mV 42 1,
 mV 43 2,
 C 44 a5X [(tm 41), (tm 42), (tm 43)],
 mV 40 44,
 eX 45 0 40,
 eX 46 1 40,
 eX 47 2 40,
 eX 48 3 40,
 mV 14 45,
 mV 15 46,
 mV 16 47,
 mV 13 48]
def b9S : List CO := [
  mV 49 13,
 O 50 (.ne (B .neq i6) (tm 49) (.cst (iv 0)))]
def f63 : List CO := [
  mV 51 13,
 mV 8 51]
def c05 : List CO := [
  mV 52 16,
 mV 53 15,
 O 54 (.sl 1 false (tm 52) (some (tm 53)) none none),
 mV 55 12,
 O 56 (.copy 1 (tm 54) (tm 55))]
def c9R : List CO := [
  mV 57 1,
 mV 58 14,
 mV 59 16,
 C 60 a0y [(tm 57), (tm 58), (tm 59)],
 mV 8 60]
def b07 : List CO := [
  O 9 (.box x6 (tm 2)),
 O 14 (.mv (.cst (iv 0)))]
def b0g : List CO := [
  mV 19 4,
 C 20 a2R [(tm 19)],
 mV 15 20]
def a9Q : List CO := [
  mV 21 15,
 O 22 (.ne (B .neq i6) (tm 21) (.cst (iv 0)))]
def f8K : List CO := [
  mV 23 15,
 mV 14 23]
def b0J : List CO := [
  mV 24 5,
 O 25 (.lt (B .lss b0) (tm 24) (.cst (iv 1))),
 mV 26 25,
 G 27 26 false (.mv (tm 5)),
 G 28 26 false (.gt (B .gtr b0) (tm 27) (.cst (iv 65535))),
 O 29 (.pick (tm 26) (.cst (.b true)) (tm 28))]
def f9z : List CO := [
  O 14 (.mv (.cst (iv 3)))]
def b1p : List CO := [
  mV 31 0,
 mV 32 1,
 O 33 (.loadN 12 (tm 9)),
 mV 34 3,
 mV 35 4,
 C 36 a0s [(tm 31), (tm 32), (tm 33), (tm 34), (tm 35)],
 mV 30 36,
 eX 37 0 30,
 eX 38 1 30,
 eX 39 2 30,
 mV 16 37,
 mV 17 38,
 mV 18 39]
def b08 : List CO := [
  mV 41 18,
 O 42 (.ne (B .neq i6) (tm 41) (.cst (iv 0))),
 mV 40 42]
def f85 : List CO := [
  mV 43 18,
 mV 14 43]
def a98 : List CO := [
  mV 45 6,
 mV 46 45,
 G 47 46 true (.mv (tm 17)),
 G 48 46 true (.ge (B .geq b0) (tm 47) (.cst (iv 0))),
 O 49 (.pick (tm 46) (tm 48) (.cst (.b false))),
 mV 44 49]
def f6Q : List CO := [
  O 14 (.mv (.cst (iv 12)))]
def a8G : List CO := [
  mV 51 6,
 mV 50 51]
def c4V : List CO := [
  mV 52 16,
 nL 53 52,
 fA 54 15 53,
 lD 55 54,
 O 56 (.len false (tm 55)),
 mV 17 56]
def c8h : List CO := [
  mV 58 17,
 O 59 (.lt (B .lss b0) (tm 58) (.cst (iv 0))),
 mV 57 59]
def f6X : List CO := [
  O 14 (.mv (.cst (iv 11)))]
def a8R : List CO := [
  mV 60 16,
 mV 61 17,
 mV 62 5,
 mV 63 4,
 O 64 (.build [(iv 0), (tv [])] [(0, 1, (tm 62)), (1, 1, (tm 63))]),
 C 65 a6b [(tm 60), (tm 61), (tm 64)],
 mV 14 65]
def a7w : List CO := [
  O 6 (.box x6 (tm 2)),
 O 8 (.alloc Y8 1 [l9]),
 O 9 (.alloc i6 1 [(iv 0)])]
def a7u : List CO := [
  mV 20 1,
 mV 21 0,
 mV 22 3,
 C 23 I9 [(tm 20), (tm 21), (tm 22)],
 mV 19 23,
 eX 24 0 19,
 eX 25 1 19,
 O 10 (.alloc s9 13 [(iv 0), (iv 0), (iv 0), (iv 0), (iv 0), (iv 0), (iv 0), (iv 0), (iv 0), (iv 0), (iv 0), (iv 0), (iv 0)]),
 .op none none (.store 13 (tm 10) (tm 24)),
 mV 11 25]
def a7v : List CO := [
  mV 27 11,
 O 28 (.ne (B .neq i6) (tm 27) (.cst (iv 0))),
 mV 26 28]
def b5U : List CO := [
  mV 29 11,
 .op none none (.store 1 (tm 8) (.cst l9)),
 .op none none (.store 1 (tm 9) (tm 29))]
def a7B : List CO := [
  fA 31 0 10,
 lD 32 31,
 O 33 (.eq (B .eql b0) (tm 32) (.cst (iv 0))),
 mV 30 33]
def b5T : List CO := [
  .op none none (.store 1 (tm 8) (.cst l9)),
 .op none none (.store 1 (tm 9) (.cst (iv 11)))]
def a7D : List CO := [
  fA 35 0 10,
 lD 36 35,
 O 37 (.ne (B .neq b0) (tm 36) (.cst (iv 2))),
 mV 34 37]
def b5Q : List CO := [
  .op none none (.store 1 (tm 8) (.cst l9)),
 .op none none (.store 1 (tm 9) (.cst (iv 13)))]
def a7z : List CO := [
  fA 39 2 10,
 lD 40 39,
 O 41 (.rem (B .rem b0) (tm 40) (.cst (iv 16))),
 O 42 (.ne (B .neq b0) (tm 41) (.cst (iv 0))),
 mV 38 42]
def b5H : List CO := [
  .op none none (.store 1 (tm 8) (.cst l9)),
 .op none none (.store 1 (tm 9) (.cst (iv 9)))]
def a7j : List CO := [
  mV 43 0,
 mV 44 1,
 O 45 (.loadN 12 (tm 6)),
 mV 46 3,
 O 47 (.build [l9, l9, (iv 0), (iv 0), (iv 0), (iv 0), (iv 0), (iv 0), (iv 0), (iv 0), (iv 0), (iv 0), (iv 0), (iv 0), (iv 0), i7] [(0, 1, (tm 43)), (1, 1, (tm 44)), (2, 12, (tm 45)), (14, 1, (tm 46))]),
 O 48 (.box M1 (tm 47)),
 O 12 (.alloc Y8 1 [l9]),
 .op none none (.store 1 (tm 12) (tm 48))]
def a7o : List CO := [
  O 13 (.mv (.cst (iv 0)))]
def a3E : List CO := [
  mV 49 13,
 fA 50 2 10,
 lD 51 50,
 O 52 (.lt (B .lss b0) (tm 49) (tm 51))]
def a7d : List CO := [
  mV 58 0,
 mV 59 1,
 O 60 (.loadN 12 (tm 6)),
 mV 61 3,
 mV 62 13,
 fA 63 0 6,
 lD 64 63,
 C 65 a7A [(tm 58), (tm 59), (tm 60), (tm 61), (tm 62), (tm 64)],
 mV 57 65,
 eX 66 0 57,
 eX 67 1 57,
 mV 14 66,
 mV 15 67]
def a7k : List CO := [
  mV 68 15,
 O 69 (.ne (B .neq i6) (tm 68) (.cst (iv 0)))]
def b5m : List CO := [
  mV 70 15,
 .op none none (.store 1 (tm 8) (.cst l9)),
 .op none none (.store 1 (tm 9) (tm 70))]
def a7f : List CO := [
  mV 71 14,
 C 72 b1B [(tm 71), (.cst (iv 16))]]
def f0F : List CO := [
  mV 16 73]
def a7s : List CO := [
  mV 75 16,
 C 76 b1u [(tm 75)],
 mV 74 76,
 eX 77 0 74,
 eX 78 1 74,
 O 17 (.alloc y6 2 [(iv 0), (tv [])]),
 .op none none (.store 2 (tm 17) (tm 77)),
 mV 18 78]
def a7m : List CO := [
  mV 79 18,
 O 80 (.ne (B .neq i6) (tm 79) (.cst (iv 0))),
 mV 81 80,
 G 82 81 false (.fa 0 (tm 17)),
 G 83 81 false (.load (tm 82)),
 G 84 81 false (.eq (B .eql b0) (tm 83) (.cst (iv 0))),
 O 85 (.pick (tm 81) (.cst (.b true)) (tm 84))]
def b5r : List CO := [
  .op none none (.store 1 (tm 8) (.cst l9)),
 .op none none (.store 1 (tm 9) (.cst (iv 9)))]
def a7b : List CO := [
  lD 86 12,
 lD 87 12,
 nL 88 87,
 fA 89 15 88,
 lD 90 89,
 O 91 (.loadN 2 (tm 17)),
 O 92 (.bslice y6 1 2 [(iv 0), (tv [])] [(0, 2, (tm 91))]),
 O 93 (.app y6 2 24 [(iv 0), (tv [])] (tm 90) (tm 92)),
 nL 94 86,
 fA 95 15 94,
 .op none none (.store 1 (tm 95) (tm 93))]
def a7e : List CO := [
  mV 53 13,
 fA 54 0 6,
 lD 55 54,
 O 56 (.add (B .add b0) (tm 53) (tm 55)),
 mV 13 56]
def a7r : List CO := [
  lD 96 12,
 .op none none (.store 1 (tm 8) (tm 96)),
 .op none none (.store 1 (tm 9) (.cst (iv 0)))]
noncomputable def A0 : Code := a5s (Tryz.prog.funcs[29]?)
noncomputable def b5o : CC := (.reg a7w)
theorem f0G : j6 Tryz.prog ((sL A0)) = b5o := by kernel_rfl
noncomputable def b5s : CC := (.reg a7u)
theorem f0P : j6 Tryz.prog ((sL (sR A0))) = b5s := by kernel_rfl
noncomputable def b5j : CC := (.block 0 (.seq (.reg a7v) (.cond (tm 26) (.seq (.reg b5U) .ret) (.seq (.reg a7B) (.cond (tm 30) (.seq (.reg b5T) .ret) (.seq (.reg a7D) (.cond (tm 34) (.seq (.reg b5Q) .ret) (.seq (.reg a7z) (.cond (tm 38) (.seq (.reg b5H) .ret) .skip)))))))))
theorem f0M : j6 Tryz.prog ((sL (sR (sR A0)))) = b5j := by kernel_rfl
noncomputable def b5q : CC := (.reg a7j)
theorem f0U : j6 Tryz.prog ((sL (sR (sR (sR A0))))) = b5q := by kernel_rfl
noncomputable def b5k : CC := (.reg a7o)
theorem f0W : j6 Tryz.prog ((sL (sL (sR (sR (sR (sR A0))))))) = b5k := by kernel_rfl
noncomputable def b5u : CC := (.seq (.reg a3E) (.cond (tm 52) .skip (.exit 1)))
theorem f0R : j6 Tryz.prog ((sL (lB (bB (sR (sL (sR (sR (sR (sR A0)))))))))) = b5u := by kernel_rfl
noncomputable def b5C : CC := (.reg a7d)
theorem f0E : j6 Tryz.prog ((sL (bB (sL (sR (lB (bB (sR (sL (sR (sR (sR (sR A0))))))))))))) = b5C := by kernel_rfl
noncomputable def b5E : CC := (.seq (.reg a7k) (.cond (tm 69) (.seq (.reg b5m) .ret) .skip))
theorem f0V : j6 Tryz.prog ((sL (sR (bB (sL (sR (lB (bB (sR (sL (sR (sR (sR (sR A0)))))))))))))) = b5E := by kernel_rfl
noncomputable def b5G : CC := (.reg a7f)
theorem f0T : j6 Tryz.prog ((sL (sR (sR (bB (sL (sR (lB (bB (sR (sL (sR (sR (sR (sR A0))))))))))))))) = b5G := by kernel_rfl
noncomputable def f0Q : CC := (.reg f0F)
theorem f0L : j6 Tryz.prog ((rAs (bB (sR (sR (sR (bB (sL (sR (lB (bB (sR (sL (sR (sR (sR (sR A0))))))))))))))))) = f0Q := by kernel_rfl
noncomputable def a6T : CC := (.block 4 (.seq (.reg a7s) (.seq (.seq (.reg a7m) (.cond (tm 85) (.seq (.reg b5r) .ret) .skip)) (.drawn a7b [(0, 0), (0, 7), (0, 8), (1, 0), (1, 7), (4, 0), (4, 7), (5, 0)]))))
theorem f0B : j6 Tryz.prog ((rBd (bB (sR (sR (sR (bB (sL (sR (lB (bB (sR (sL (sR (sR (sR (sR A0))))))))))))))))) = a6T := by kernel_rfl
theorem f0o : cO (rF (bB (sR (sR (sR (bB (sL (sR (lB (bB (sR (sL (sR (sR (sR (sR A0)))))))))))))))) = (tm 72) := by kernel_rfl
theorem f0q : (rPs (bB (sR (sR (sR (bB (sL (sR (lB (bB (sR (sL (sR (sR (sR (sR A0)))))))))))))))).toList = [73] := by kernel_rfl
noncomputable def b5g : CC := (.reg a7e)
theorem f0t : j6 Tryz.prog ((sR (sR (lB (bB (sR (sL (sR (sR (sR (sR A0))))))))))) = b5g := by kernel_rfl
noncomputable def b45 : CC := (.seq (.reg a7r) .ret)
theorem f0k : j6 Tryz.prog ((sR (sR (sR (sR (sR A0)))))) = b45 := by kernel_rfl
noncomputable def b4Q : Code := (.seq (sL A0) (.seq (sL (sR A0)) (.seq (sL (sR (sR A0))) (.seq (sL (sR (sR (sR A0)))) (.seq (.seq (sL (sL (sR (sR (sR (sR A0)))))) (.block 1 (.loop (.seq (sL (lB (bB (sR (sL (sR (sR (sR (sR A0))))))))) (.seq (.block 2 (.seq (sL (bB (sL (sR (lB (bB (sR (sL (sR (sR (sR (sR A0)))))))))))) (.seq (sL (sR (bB (sL (sR (lB (bB (sR (sL (sR (sR (sR (sR A0))))))))))))) (.seq (sL (sR (sR (bB (sL (sR (lB (bB (sR (sL (sR (sR (sR (sR A0)))))))))))))) (.block 3 (.rangeFunc (rF (bB (sR (sR (sR (bB (sL (sR (lB (bB (sR (sL (sR (sR (sR (sR A0)))))))))))))))) (rPs (bB (sR (sR (sR (bB (sL (sR (lB (bB (sR (sL (sR (sR (sR (sR A0)))))))))))))))) (rAs (bB (sR (sR (sR (bB (sL (sR (lB (bB (sR (sL (sR (sR (sR (sR A0)))))))))))))))) (rBd (bB (sR (sR (sR (bB (sL (sR (lB (bB (sR (sL (sR (sR (sR (sR A0)))))))))))))))))))))) (sR (sR (lB (bB (sR (sL (sR (sR (sR (sR A0))))))))))))))) (sR (sR (sR (sR (sR A0))))))))))
theorem e9C : Tryz.f29.body = some b4Q := by kernel_rfl
theorem e9u : t8 Tryz.f29.ntmps b4Q = true := by kernel_rfl
theorem f0x : y8 (pth 29) tb.fs = some Tryz.f29 := by rw [i8]; exact Z9 Tryz.func29
theorem e94 : Tryz.f29.results.toList = [.cell 8 Y8, .cell 9 i6] := rfl
def d7I : List CO := [
  O 6 (.box x6 (tm 2)),
 O 8 (.mv (.cst l9)),
 O 9 (.mv (.cst (iv 0)))]
def d0i : List CO := [
  mV 13 1,
 mV 14 0,
 mV 15 3,
 C 16 I9 [(tm 13), (tm 14), (tm 15)],
 mV 12 16,
 eX 17 0 12,
 eX 18 1 12,
 O 10 (.alloc s9 13 [(iv 0), (iv 0), (iv 0), (iv 0), (iv 0), (iv 0), (iv 0), (iv 0), (iv 0), (iv 0), (iv 0), (iv 0), (iv 0)]),
 .op none none (.store 13 (tm 10) (tm 17)),
 mV 11 18]
def e2X : List CO := [
  mV 20 11,
 O 21 (.ne (B .neq i6) (tm 20) (.cst (iv 0))),
 mV 19 21]
def f7n : List CO := [
  mV 22 11,
 O 8 (.mv (.cst l9)),
 mV 9 22]
def e16 : List CO := [
  fA 24 0 10,
 lD 25 24,
 O 26 (.eq (B .eql b0) (tm 25) (.cst (iv 0))),
 mV 23 26]
def f8Q : List CO := [
  O 8 (.mv (.cst l9)),
 O 9 (.mv (.cst (iv 11)))]
def e0r : List CO := [
  mV 27 0,
 mV 28 1,
 O 29 (.loadN 12 (tm 6)),
 mV 30 3,
 O 31 (.loadN 13 (tm 10)),
 O 32 (.build [l9, l9, (iv 0), (iv 0), (iv 0), (iv 0), (iv 0), (iv 0), (iv 0), (iv 0), (iv 0), (iv 0), (iv 0), (iv 0), (iv 0), (iv 0), (iv 0), (iv 0), (iv 0), (iv 0), (iv 0), (iv 0), (iv 0), (iv 0), (iv 0), (iv 0), (iv 0), (iv 0)] [(0, 1, (tm 27)), (1, 1, (tm 28)), (2, 12, (tm 29)), (14, 1, (tm 30)), (15, 13, (tm 31))]),
 O 33 (.box S9 (tm 32)),
 mV 8 33,
 O 9 (.mv (.cst (iv 0)))]
def d4M : List CO := [
  O 3 (.box C6 (tm 0)),
 O 4 (.box D7 (tm 1)),
 O 5 (.box b0 (tm 2)),
 O 6 (.mv (.cst i7)),
 O 7 (.mv (.cst i7)),
 O 8 (.mv (.cst (iv 0)))]
def d4i : List CO := [
  lD 19 3,
 O 20 (.eqp false (B .eql C6) (tm 19) (.cst l9))]
def f7S : List CO := [
  O 6 (.mv (.cst i7)),
 O 7 (.mv (.cst i7)),
 O 8 (.mv (.cst (iv 1)))]
def c92 : List CO := [
  lD 22 3,
 lD 23 4,
 lD 24 5,
 C 25 I9 [(tm 22), (tm 23), (tm 24)],
 mV 21 25,
 eX 26 0 21,
 eX 27 1 21,
 O 9 (.alloc s9 13 [(iv 0), (iv 0), (iv 0), (iv 0), (iv 0), (iv 0), (iv 0), (iv 0), (iv 0), (iv 0), (iv 0), (iv 0), (iv 0)]),
 .op none none (.store 13 (tm 9) (tm 26)),
 mV 8 27]
def e1d : List CO := [
  mV 28 8,
 O 29 (.ne (B .neq i6) (tm 28) (.cst (iv 0)))]
def f7T : List CO := [
  mV 30 8,
 O 6 (.mv (.cst i7)),
 O 7 (.mv (.cst i7)),
 mV 8 30]
def d82 : List CO := [
  O 31 (.mkmap none),
 O 10 (.alloc a6U 1 [a3h]),
 .op none none (.store 1 (tm 10) (tm 31))]
def e3u : List CO := [
  O 11 (.alloc b0 1 [(iv 0)]),
 .op none none (.store 1 (tm 11) (.cst (iv (-1))))]
def d2p : List CO := [
  O 12 (.alloc a4k 1 [i7])]
def d40 : List CO := [
  O 13 (.alloc a6y 1 [a3g])]
def c5x : List CO := [
  O 32 (.fn K7 [(tm 10), (tm 11), (tm 12), (tm 3), (tm 4), (tm 5), (tm 13)]),
 .op none none (.store 1 (tm 13) (tm 32))]
def c65 : List CO := [
  O 33 (.mv (.cst (iv 0)))]
def a2g : List CO := [
  O 34 (.lt (B .lss b0) (tm 33) (.cst (iv 10)))]
def a31 : List CO := [
  mV 35 33,
 mV 14 35]
def a4n : List CO := [
  mV 36 14,
 mV 15 36,
 O 16 (.mv (.cst (iv 0)))]
def a4w : List CO := [
  mV 37 14]
def a4o : List CO := [
  O 39 (.eq (B .eql b0) (tm 37) (.cst (iv 8))),
 mV 38 39]
def c8u : List CO := [
  O 16 (.mv (.cst (iv 1)))]
def a9o : List CO := [
  O 41 (.eq (B .eql b0) (tm 37) (.cst (iv 9))),
 mV 40 41]
def c0v : List CO := [
  lD 42 3,
 nL 43 42,
 fA 44 13 43,
 lD 45 44,
 O 46 (.add (B .add b0) (.cst (iv 8)) (tm 45)),
 mV 15 46,
 O 16 (.mv (.cst (iv 2)))]
def a4j : List CO := [
  lD 47 13,
 mV 48 14,
 C 49 a2Q [(tm 9), (tm 48)],
 nL 50 49,
 lD 51 50,
 mV 52 15,
 mV 53 16,
 .call (some (pth 54)) none (tm 47) [(tm 51), (tm 52), (tm 53)],
 mV 17 54]
def a4e : List CO := [
  mV 55 17,
 O 56 (.ne (B .neq i6) (tm 55) (.cst (iv 0)))]
def f5t : List CO := [
  mV 57 17,
 O 6 (.mv (.cst i7)),
 O 7 (.mv (.cst i7)),
 mV 8 57]
def a4g : List CO := [
  O 58 (.add (B .add b0) (tm 33) (.cst (iv 1))),
 mV 33 58]
def c8X : List CO := [
  lD 59 11,
 O 60 (.add (B .add b0) (tm 59) (.cst (iv 1))),
 O 61 (.mv (.cst (iv 0)))]
def a8K : List CO := [
  O 62 (.lt (B .lss b0) (tm 61) (tm 60))]
def b9F : List CO := [
  mV 63 61,
 mV 18 63]
def c5N : List CO := [
  mV 64 6,
 lD 65 10,
 mV 66 18,
 O 67 (.look (some .i64) (iv 0) false (tm 65) (tm 66)),
 O 68 (.bslice b0 1 1 [(iv 0)] [(0, 1, (tm 67))]),
 O 69 (.app b0 1 8 [(iv 0)] (tm 64) (tm 68)),
 mV 6 69]
def c73 : List CO := [
  O 70 (.add (B .add b0) (tm 61) (.cst (iv 1))),
 mV 61 70]
def c1N : List CO := [
  mV 71 6,
 lD 72 12,
 mV 6 71,
 mV 7 72,
 O 8 (.mv (.cst (iv 0)))]
def b0U : List CO := [
  O 4 (.mv (.cst i7))]
def b0S : List CO := [
  mV 8 0,
 mV 9 1,
 C 10 a59 [(tm 8), (tm 9)],
 mV 5 10]
def a5C : List CO := [
  mV 11 5,
 O 12 (.eq (B .eql b0) (tm 11) (.cst (iv (-1))))]
def b1m : List CO := [
  mV 13 0,
 mV 4 13]
def d1p : List CO := [
  mV 14 5,
 O 15 (.add (B .add b0) (tm 14) (.cst (iv 1))),
 mV 6 15]
def a4M : List CO := [
  mV 16 6,
 mV 17 0,
 O 18 (.len false (tm 17)),
 O 19 (.lt (B .lss b0) (tm 16) (tm 18))]
def b1k : List CO := [
  mV 22 0,
 mV 23 6,
 O 24 (.iaS 1 (tm 22) (tm 23)),
 lD 25 24,
 mV 7 25]
def b1h : List CO := [
  mV 26 1,
 mV 27 7,
 .call (some (pth 28)) none (tm 26) [(tm 27)],
 O 29 (.un .not (tm 28))]
def e4h : List CO := [
  mV 30 0,
 mV 31 5,
 mV 32 7,
 O 33 (.iaS 1 (tm 30) (tm 31)),
 .op none none (.store 1 (tm 33) (tm 32))]
def c8A : List CO := [
  mV 34 5,
 O 35 (.add (B .add b0) (tm 34) (.cst (iv 1))),
 mV 5 35]
def b0T : List CO := [
  mV 20 6,
 O 21 (.add (B .add b0) (tm 20) (.cst (iv 1))),
 mV 6 21]
def c14 : List CO := [
  mV 36 0,
 mV 37 5,
 O 38 (.sl 1 false (tm 36) (some (tm 37)) none none),
 .op none none (.clrs [(iv 0)] (tm 38))]
def c4H : List CO := [
  mV 39 0,
 mV 40 5,
 O 41 (.sl 1 false (tm 39) none (some (tm 40)) none),
 mV 4 41]
def b00 : List CO := [
  O 2 (.mv (.cst (.b false)))]
def a9D : List CO := [
  mV 3 0,
 O 4 (.eq (B .eql b0) (tm 3) (.cst (iv 0))),
 mV 2 4]
def d2a : List CO := [
  O 7 (.box x6 (tm 2)),
 O 9 (.box E4 (tm 4)),
 O 10 (.mv (.cst l9)),
 O 11 (.mv (.cst (iv 0))),
 O 12 (.mv (.cst (iv 0)))]
def e0w : List CO := [
  lD 16 9,
 C 17 a2R [(tm 16)],
 mV 13 17]
def e4n : List CO := [
  mV 18 13,
 O 19 (.ne (B .neq i6) (tm 18) (.cst (iv 0)))]
def f7K : List CO := [
  mV 20 13,
 O 10 (.mv (.cst l9)),
 O 11 (.mv (.cst (iv 0))),
 mV 12 20]
def e2G : List CO := [
  mV 22 0,
 mV 23 1,
 O 24 (.loadN 12 (tm 7)),
 mV 25 3,
 C 26 a7M [(tm 22), (tm 23), (tm 24), (tm 25)],
 mV 21 26,
 eX 27 0 21,
 eX 28 1 21,
 mV 14 27,
 mV 15 28]
def d3Z : List CO := [
  mV 29 15,
 O 30 (.ne (B .neq i6) (tm 29) (.cst (iv 0)))]
def f8t : List CO := [
  mV 31 15,
 O 10 (.mv (.cst l9)),
 O 11 (.mv (.cst (iv 0))),
 mV 12 31]
def e0L : List CO := [
  mV 32 14,
 mV 33 14,
 nL 34 33,
 fA 35 15 34,
 lD 36 35,
 O 37 (.fn a1i [(tm 9)]),
 C 38 a52 [(tm 36), (tm 37)],
 mV 10 32,
 mV 11 38,
 O 12 (.mv (.cst (iv 0)))]
def d41 : List CO := [
  O 5 (.box y6 (tm 2)),
 O 6 (.mv (.cst (iv 0)))]
def d0D : List CO := [
  O 10 (.loadN 2 (tm 5)),
 C 11 a5H [(tm 10)],
 mV 9 11,
 eX 12 0 9,
 eX 13 1 9,
 mV 7 12,
 mV 8 13]
def d3K : List CO := [
  mV 14 8,
 O 15 (.ne (B .neq i6) (tm 14) (.cst (iv 0)))]
def f8C : List CO := [
  mV 16 8,
 mV 6 16]
def d1S : List CO := [
  mV 17 0,
 nL 18 17,
 fA 19 0 18,
 lD 20 19,
 mV 21 0,
 nL 22 21,
 fA 23 1 22,
 lD 24 23,
 mV 25 0,
 nL 26 25,
 fA 27 2 26,
 O 28 (.loadN 12 (tm 27)),
 mV 29 0,
 nL 30 29,
 fA 31 14 30,
 lD 32 31,
 mV 33 1,
 O 34 (.mul (B .mul b0) (tm 33) (.cst (iv 16))),
 mV 35 7,
 C 36 a3H [(tm 20), (tm 24), (tm 28), (tm 32), (tm 34), (tm 35)],
 mV 6 36]
def e2f : List CO := [
  O 7 (.box x6 (tm 2)),
 O 10 (.mv (.cst (iv 0)))]
def e2D : List CO := [
  mV 16 4,
 O 17 (.lt (B .lss b0) (tm 16) (.cst (iv 0)))]
def f77 : List CO := [
  O 10 (.mv (.cst (iv 1)))]
def c9Y : List CO := [
  O 19 (.loadN 12 (tm 7)),
 C 20 T0 [(tm 19)],
 mV 18 20,
 eX 21 0 18,
 eX 22 1 18,
 mV 11 21,
 mV 12 22]
def e22 : List CO := [
  mV 23 12,
 O 24 (.ne (B .neq i6) (tm 23) (.cst (iv 0))),
 mV 25 24,
 G 26 25 false (.mv (tm 4)),
 G 27 25 false (.mv (tm 11)),
 G 28 25 false (.gt (B .gtr b0) (tm 26) (tm 27)),
 O 29 (.pick (tm 25) (.cst (.b true)) (tm 28))]
def f83 : List CO := [
  O 10 (.mv (.cst (iv 5)))]
def d7M : List CO := [
  mV 31 0,
 mV 32 1,
 O 33 (.loadN 12 (tm 7)),
 mV 34 3,
 C 35 a1l [(tm 31), (tm 32), (tm 33), (tm 34)],
 mV 30 35,
 eX 36 0 30,
 eX 37 1 30,
 mV 13 36,
 mV 14 37]
def d1d : List CO := [
  mV 38 14,
 O 39 (.ne (B .neq i6) (tm 38) (.cst (iv 0)))]
def f7I : List CO := [
  mV 40 14,
 mV 10 40]
def d1U : List CO := [
  mV 41 1,
 mV 42 0,
 mV 43 3,
 mV 44 4,
 C 45 a5Z [(tm 41), (tm 42), (tm 43), (tm 44)],
 mV 15 45]
def c7X : List CO := [
  mV 46 15,
 O 47 (.ne (B .neq i6) (tm 46) (.cst (iv 0)))]
def f6k : List CO := [
  mV 48 15,
 mV 10 48]
def c5L : List CO := [
  mV 49 13,
 mV 50 4,
 mV 51 13,
 nL 52 51,
 fA 53 15 52,
 fA 54 2 53,
 lD 55 54,
 O 56 (.min (tm 50) (tm 55)),
 C 57 a5Y [(tm 49), (tm 56)],
 mV 10 57]
def d4j : List CO := [
  O 6 (.mv (.cst (iv 0))),
 O 7 (.mv (.cst (iv 0))),
 O 8 (.mv (.cst i7)),
 O 9 (.mv (.cst (iv 0)))]
def d24 : List CO := [
  mV 11 0,
 nL 12 11,
 fA 13 1 12,
 O 14 (.loadN 12 (tm 13)),
 mV 15 2,
 C 16 a3G [(tm 14), (tm 15)],
 mV 10 16,
 eX 17 0 10,
 eX 18 1 10,
 eX 19 2 10,
 mV 6 17,
 mV 7 18,
 mV 9 19]
def e0f : List CO := [
  mV 20 9,
 O 21 (.eq (B .eql i6) (tm 20) (.cst (iv 0)))]
def e4s : List CO := [
  mV 23 1,
 mV 24 6,
 C 25 K8 [(tm 23), (tm 24)],
 mV 22 25,
 eX 26 0 22,
 eX 27 1 22,
 mV 8 26,
 mV 9 27]
def d7X : List CO := [
  mV 28 6,
 mV 29 7,
 mV 30 8,
 mV 31 9,
 mV 6 28,
 mV 7 29,
 mV 8 30,
 mV 9 31]
def d85 : List CO := [
  O 2 (.alloc s9 13 [(iv 0), (iv 0), (iv 0), (iv 0), (iv 0), (iv 0), (iv 0), (iv 0), (iv 0), (iv 0), (iv 0), (iv 0), (iv 0)]),
 O 3 (.mv (.cst (iv 0)))]
def d7v : List CO := [
  mV 10 0,
 O 11 (.len false (tm 10)),
 O 12 (.ne (B .neq b0) (tm 11) (.cst (iv 32)))]
def f8N : List CO := [
  O 13 (.build [(iv 0), (iv 0), (iv 0), (iv 0), (iv 0), (iv 0), (iv 0), (iv 0), (iv 0), (iv 0), (iv 0), (iv 0), (iv 0)] []),
 .op none none (.store 13 (tm 2) (tm 13)),
 O 3 (.mv (.cst (iv 4)))]
def d8p : List CO := [
  O 4 (.alloc s9 13 [(iv 0), (iv 0), (iv 0), (iv 0), (iv 0), (iv 0), (iv 0), (iv 0), (iv 0), (iv 0), (iv 0), (iv 0), (iv 0)])]
def d4G : List CO := [
  O 5 (.alloc b0 1 [(iv 0)])]
def d96 : List CO := [
  mV 14 0,
 O 15 (.build [i7, (iv 0)] [(0, 1, (tm 14)), (1, 1, (.cst (iv 0)))]),
 O 16 (.box H1 (tm 15)),
 mV 6 16]
def e2I : List CO := [
  mV 17 6,
 fA 18 0 4,
 O 19 (.bslice M5 2 2 [l9] [(0, 1, (tm 18)), (1, 1, (tm 5))]),
 C 20 W0 [(tm 17), (.cst (iv 1)), (tm 19)]]
def d4B : List CO := [
  mV 21 6,
 fA 22 1 4,
 O 23 (.bslice M5 1 1 [l9] [(0, 1, (tm 22))]),
 C 24 W0 [(tm 21), (.cst (iv 2)), (tm 23)]]
def e2C : List CO := [
  mV 25 6,
 fA 26 2 4,
 O 27 (.bslice M5 1 1 [l9] [(0, 1, (tm 26))]),
 C 28 W0 [(tm 25), (.cst (iv 4)), (tm 27)]]
def e2Q : List CO := [
  O 29 (.mv (.cst (iv 0)))]
def a83 : List CO := [
  O 30 (.lt (B .lss b0) (tm 29) (.cst (iv 8)))]
def c2H : List CO := [
  mV 31 29,
 mV 7 31]
def b87 : List CO := [
  mV 32 7,
 mV 33 6,
 C 34 a3a [(tm 33), (.cst (iv 2))],
 fA 35 3 4,
 O 36 (.iaA 8 1 (tm 35) (tm 32)),
 .op none none (.store 1 (tm 36) (tm 34))]
def c2j : List CO := [
  O 37 (.add (B .add b0) (tm 29) (.cst (iv 1))),
 mV 29 37]
def c8x : List CO := [
  mV 38 6,
 fA 39 11 4,
 fA 40 12 4,
 O 41 (.bslice M5 2 2 [l9] [(0, 1, (tm 39)), (1, 1, (tm 40))]),
 C 42 W0 [(tm 38), (.cst (iv 2)), (tm 41)]]
def c8C : List CO := [
  O 44 (.loadN 13 (tm 4)),
 C 45 a5N [(tm 44)],
 mV 43 45,
 eX 46 0 43,
 eX 47 1 43,
 mV 8 46,
 mV 9 47]
def c8P : List CO := [
  O 48 (.loadN 13 (tm 4)),
 mV 49 0,
 mV 50 8,
 mV 51 9,
 C 52 b16 [(tm 48), (tm 49), (tm 50), (tm 51)],
 eX 53 0 52,
 eX 54 1 52,
 .op none none (.store 13 (tm 2) (tm 53)),
 mV 3 54]
def e0M : List CO := [
  O 6 (.mv (.cst (iv 0)))]
def e0W : List CO := [
  mV 7 0,
 mV 8 1,
 mV 9 2,
 C 10 X6 [(tm 7), (.cst (.func X7 [])), (.cst (.func X1 [])), (tm 8), (tm 9)],
 mV 6 10]
def e3L : List CO := [
  O 1 (.box s9 (tm 0)),
 O 2 (.mv (.cst i7)),
 O 3 (.mv (.cst (iv 0)))]
def e3I : List CO := [
  fA 5 0 1,
 lD 6 5,
 O 7 (.lt (B .lss b0) (tm 6) (.cst (iv 0))),
 mV 8 7,
 G 9 8 false (.fa 0 (tm 1)),
 G 10 8 false (.load (tm 9)),
 G 11 8 false (.gt (B .gtr b0) (tm 10) (.cst (iv 2))),
 O 12 (.pick (tm 8) (.cst (.b true)) (tm 11)),
 mV 13 12,
 G 14 13 false (.fa 0 (tm 1)),
 G 15 13 false (.load (tm 14)),
 G 16 13 false (.eq (B .eql b0) (tm 15) (.cst (iv 0))),
 G 17 13 false (.mv (tm 16)),
 G 18 17 true (.loadN 13 (tm 1)),
 G 19 17 true (.build [(iv 0), (iv 0), (iv 0), (iv 0), (iv 0), (iv 0), (iv 0), (iv 0), (iv 0), (iv 0), (iv 0), (iv 0), (iv 0)] []),
 G 20 17 true (.ne (B .neq s9) (tm 18) (tm 19)),
 G 21 13 false (.pick (tm 17) (tm 20) (.cst (.b false))),
 O 22 (.pick (tm 13) (.cst (.b true)) (tm 21))]
def f7N : List CO := [
  O 2 (.mv (.cst i7)),
 O 3 (.mv (.cst (iv 4)))]
def d3Y : List CO := [
  O 23 (.build [i7, (iv 0)] []),
 O 24 (.box a0E (tm 23)),
 mV 4 24]
def d9r : List CO := [
  mV 25 4,
 fA 26 0 1,
 lD 27 26,
 O 28 (.bslice b0 2 2 [(iv 0)] [(0, 1, (tm 27)), (1, 1, (.cst (iv 0)))]),
 C 29 W1 [(tm 25), (.cst (iv 1)), (tm 28)]]
def d7s : List CO := [
  mV 30 4,
 fA 31 1 1,
 lD 32 31,
 C 33 a1n [(tm 30), (.cst (iv 2)), (tm 32)]]
def d9Z : List CO := [
  mV 34 4,
 fA 35 2 1,
 lD 36 35,
 C 37 a1n [(tm 34), (.cst (iv 4)), (tm 36)]]
def e4o : List CO := [
  mV 38 4,
 fA 39 3 1,
 O 40 (.sla 8 1 (tm 39) none none none),
 C 41 W1 [(tm 38), (.cst (iv 2)), (tm 40)]]
def d8A : List CO := [
  mV 42 4,
 fA 43 11 1,
 lD 44 43,
 fA 45 12 1,
 lD 46 45,
 O 47 (.bslice b0 2 2 [(iv 0)] [(0, 1, (tm 44)), (1, 1, (tm 46))]),
 C 48 W1 [(tm 42), (.cst (iv 2)), (tm 47)]]
def d9G : List CO := [
  mV 49 4,
 C 50 a5O [(tm 49), (.cst (iv 32))],
 eX 51 0 50,
 eX 52 1 50,
 mV 2 51,
 mV 3 52]
def d1P : List CO := [
  O 2 (.mv (.cst (iv 0)))]
def d7i : List CO := [
  O 3 (.mv (.cst (.func V9 [])))]
def d8N : List CO := [
  mV 4 0,
 O 5 (.eq (B .eql E4) (tm 4) (.cst (tv []))),
 mV 6 5,
 G 7 6 false (.mv (tm 0)),
 G 8 6 false (.len true (tm 7)),
 G 9 6 false (.gt (B .gtr b0) (tm 8) (.cst (iv 13))),
 O 10 (.pick (tm 6) (.cst (.b true)) (tm 9)),
 mV 11 10,
 G 12 11 false (.mv (tm 0)),
 G 13 11 false (.eq (B .eql E4) (tm 12) (.cst (tv [46]))),
 O 14 (.pick (tm 11) (.cst (.b true)) (tm 13)),
 mV 15 14,
 G 16 15 false (.mv (tm 0)),
 G 17 15 false (.eq (B .eql E4) (tm 16) (.cst (tv [46, 46]))),
 O 18 (.pick (tm 15) (.cst (.b true)) (tm 17)),
 mV 19 18,
 G 20 19 false (.mv (tm 0)),
 G 21 19 false (.mv (tm 3)),
 .call (some (pth 22)) (some (pth 19, false)) (.cst (.func b1w [])) [(tm 20), (tm 21)],
 O 23 (.pick (tm 19) (.cst (.b true)) (tm 22))]
def f8i : List CO := [
  O 2 (.mv (.cst (iv 16)))]
def d7A : List CO := [
  O 2 (.mv (.cst (iv 0)))]
def a7q : List CO := [
  O 6 (.box D7 (tm 0)),
 O 7 (.box C6 (tm 1)),
 O 8 (.box x6 (tm 2)),
 O 9 (.box b0 (tm 3)),
 O 10 (.box b0 (tm 4)),
 O 11 (.box b0 (tm 5)),
 O 12 (.alloc B3 1 [i7]),
 O 13 (.alloc i6 1 [(iv 0)])]
def a7c : List CO := [
  lD 20 10,
 O 21 (.lt (B .lss b0) (tm 20) (.cst (iv 0))),
 mV 22 21,
 G 23 22 false (.load (tm 11)),
 G 24 22 false (.lt (B .lss b0) (tm 23) (.cst (iv 0))),
 O 25 (.pick (tm 22) (.cst (.b true)) (tm 24)),
 mV 19 25]
def b5x : List CO := [
  .op none none (.store 1 (tm 12) (.cst i7)),
 .op none none (.store 1 (tm 13) (.cst (iv 1)))]
def a7i : List CO := [
  lD 27 11,
 O 28 (.gt (B .gtr b0) (tm 27) (.cst (iv 4096))),
 mV 26 28]
def b5w : List CO := [
  .op none none (.store 1 (tm 12) (.cst i7)),
 .op none none (.store 1 (tm 13) (.cst (iv 5)))]
def a7l : List CO := [
  lD 30 6,
 lD 31 7,
 O 32 (.loadN 12 (tm 8)),
 lD 33 9,
 C 34 a1l [(tm 30), (tm 31), (tm 32), (tm 33)],
 mV 29 34,
 eX 35 0 29,
 eX 36 1 29,
 mV 14 35,
 .op none none (.store 1 (tm 13) (tm 36))]
def a7n : List CO := [
  lD 37 13,
 O 38 (.ne (B .neq i6) (tm 37) (.cst (iv 0)))]
def b5A : List CO := [
  lD 39 13,
 .op none none (.store 1 (tm 12) (.cst i7)),
 .op none none (.store 1 (tm 13) (tm 39))]
def a7g : List CO := [
  lD 40 11,
 mV 41 14,
 nL 42 41,
 fA 43 15 42,
 fA 44 2 43,
 lD 45 44,
 lD 46 10,
 O 47 (.sub (B .sub b0) (tm 45) (tm 46)),
 O 48 (.max (.cst (iv 0)) (tm 47)),
 O 49 (.min (tm 40) (tm 48)),
 .op none none (.store 1 (tm 11) (tm 49))]
def a7h : List CO := [
  lD 50 11,
 O 51 (.mksl j7 1 1 [(.y 0)] (tm 50) (tm 50)),
 .op none none (.store 1 (tm 12) (tm 51))]
def a6V : List CO := [
  O 52 (.fn a5K [(tm 8), (tm 10), (tm 11)])]
def f0s : List CO := [
  O 15 (.alloc J6 4 [(iv 0), (iv 0), (iv 0), (iv 0)]),
 .op none none (.store 4 (tm 15) (tm 53))]
def a3C : List CO := [
  lD 55 7,
 lD 56 6,
 lD 57 9,
 fA 58 0 15,
 lD 59 58,
 C 60 a2N [(tm 55), (tm 56), (tm 57), (tm 59)],
 mV 54 60,
 eX 61 0 54,
 eX 62 1 54,
 mV 16 61,
 mV 17 62]
def a3B : List CO := [
  mV 63 17,
 O 64 (.ne (B .neq i6) (tm 63) (.cst (iv 0)))]
def b44 : List CO := [
  mV 65 17,
 .op none none (.store 1 (tm 12) (.cst i7)),
 .op none none (.store 1 (tm 13) (tm 65))]
def a3z : List CO := [
  mV 66 16,
 O 67 (.eq (B .eql b0) (tm 66) (.cst (iv 0)))]
def a67 : List CO := [
  lD 69 6,
 mV 70 16,
 C 71 K8 [(tm 69), (tm 70)],
 mV 68 71,
 eX 72 0 68,
 eX 73 1 68,
 mV 18 72,
 mV 17 73]
def a69 : List CO := [
  mV 74 17,
 O 75 (.ne (B .neq i6) (tm 74) (.cst (iv 0)))]
def b5h : List CO := [
  mV 76 17,
 .op none none (.store 1 (tm 12) (.cst i7)),
 .op none none (.store 1 (tm 13) (tm 76))]
def a6S : List CO := [
  lD 77 12,
 fA 78 3 15,
 lD 79 78,
 O 80 (.sl 1 false (tm 77) (some (tm 79)) none none),
 mV 81 18,
 fA 82 1 15,
 lD 83 82,
 fA 84 2 15,
 lD 85 84,
 O 86 (.sl 1 false (tm 81) (some (tm 83)) (some (tm 85)) none),
 O 87 (.copy 1 (tm 80) (tm 86))]
def a6X : List CO := [
  lD 88 12,
 .op none none (.store 1 (tm 12) (tm 88)),
 .op none none (.store 1 (tm 13) (.cst (iv 0)))]
noncomputable def B1 : Code := a5s (Tryz.prog.funcs[59]?)
noncomputable def b5a : CC := (.reg a7q)
theorem f0p : j6 Tryz.prog ((sL B1)) = b5a := by kernel_rfl
noncomputable def b5f : CC := (.block 0 (.seq (.reg a7c) (.cond (tm 19) (.seq (.reg b5x) .ret) (.seq (.reg a7i) (.cond (tm 26) (.seq (.reg b5w) .ret) .skip)))))
theorem f0v : j6 Tryz.prog ((sL (sR B1))) = b5f := by kernel_rfl
noncomputable def b42 : CC := (.reg a7l)
theorem f0C : j6 Tryz.prog ((sL (sR (sR B1)))) = b42 := by kernel_rfl
noncomputable def b5e : CC := (.seq (.reg a7n) (.cond (tm 38) (.seq (.drawn b5A [(0, 0), (0, 2)]) .ret) .skip))
theorem f0l : j6 Tryz.prog ((sL (sR (sR (sR B1))))) = b5e := by kernel_rfl
noncomputable def b48 : CC := (.drawn a7g [(0, 0), (5, 0), (6, 0)])
theorem f0w : j6 Tryz.prog ((sL (sR (sR (sR (sR B1)))))) = b48 := by kernel_rfl
noncomputable def b43 : CC := (.reg a7h)
theorem f0m : j6 Tryz.prog ((sL (sR (sR (sR (sR (sR B1))))))) = b43 := by kernel_rfl
noncomputable def b5d : CC := (.reg a6V)
theorem f0r : j6 Tryz.prog ((sL (sL (sR (sR (sR (sR (sR (sR B1))))))))) = b5d := by kernel_rfl
noncomputable def f0u : CC := (.reg f0s)
theorem f0n : j6 Tryz.prog ((rAs (bB (sR (sL (sR (sR (sR (sR (sR (sR B1))))))))))) = f0u := by kernel_rfl
noncomputable def a6Z : CC := (.block 2 (.seq (.reg a3C) (.seq (.seq (.reg a3B) (.cond (tm 64) (.seq (.reg b44) .ret) .skip)) (.seq (.seq (.reg a3z) (.cond (tm 67) (.exit 2) .skip)) (.seq (.reg a67) (.seq (.seq (.reg a69) (.cond (tm 75) (.seq (.reg b5h) .ret) .skip)) (.drawn a6S [(0, 0), (2, 0), (3, 0), (6, 0), (8, 0), (9, 0)])))))))
theorem f0A : j6 Tryz.prog ((rBd (bB (sR (sL (sR (sR (sR (sR (sR (sR B1))))))))))) = a6Z := by kernel_rfl
theorem e9Y : cO (rF (bB (sR (sL (sR (sR (sR (sR (sR (sR B1)))))))))) = (tm 52) := by kernel_rfl
theorem f0h : (rPs (bB (sR (sL (sR (sR (sR (sR (sR (sR B1)))))))))).toList = [53] := by kernel_rfl
noncomputable def b47 : CC := (.seq (.reg a6X) .ret)
theorem f0y : j6 Tryz.prog ((sR (sR (sR (sR (sR (sR (sR B1)))))))) = b47 := by kernel_rfl
noncomputable def b4F : Code := (.seq (sL B1) (.seq (sL (sR B1)) (.seq (sL (sR (sR B1))) (.seq (sL (sR (sR (sR B1)))) (.seq (sL (sR (sR (sR (sR B1))))) (.seq (sL (sR (sR (sR (sR (sR B1)))))) (.seq (.seq (sL (sL (sR (sR (sR (sR (sR (sR B1)))))))) (.block 1 (.rangeFunc (rF (bB (sR (sL (sR (sR (sR (sR (sR (sR B1)))))))))) (rPs (bB (sR (sL (sR (sR (sR (sR (sR (sR B1)))))))))) (rAs (bB (sR (sL (sR (sR (sR (sR (sR (sR B1)))))))))) (rBd (bB (sR (sL (sR (sR (sR (sR (sR (sR B1))))))))))))) (sR (sR (sR (sR (sR (sR (sR B1))))))))))))))
theorem e9w : Tryz.f59.body = some b4F := by kernel_rfl
theorem e9m : t8 Tryz.f59.ntmps b4F = true := by kernel_rfl
theorem e9X : y8 (pth 59) tb.fs = some Tryz.f59 := by rw [i8]; exact Z9 Tryz.func59
theorem e9H : Tryz.f59.results.toList = [.cell 12 B3, .cell 13 i6] := rfl
def d9g : List CO := [
  O 2 (.box B3 (tm 0)),
 O 3 (.box b0 (tm 1)),
 O 4 (.mv (.cst a3g))]
def d9M : List CO := [
  lD 5 3,
 O 6 (.lt (B .lss b0) (tm 5) (.cst (iv 1)))]
def f8D : List CO := [
  O 7 (.mkI E4 (.cst (tv [99, 97, 110, 110, 111, 116, 32, 98, 101, 32, 108, 101, 115, 115, 32, 116, 104, 97, 110, 32, 49]))),
 .op none none (.none)]
def d1H : List CO := [
  O 8 (.fn a1o [(tm 2), (tm 3)]),
 mV 4 8]
def c9V : List CO := [
  O 2 (.alloc y6 2 [(iv 0), (tv [])]),
 O 3 (.mv (.cst (iv 0)))]
def d69 : List CO := [
  mV 9 0,
 O 10 (.len false (tm 9)),
 O 11 (.ne (B .neq b0) (tm 10) (.cst (iv 16)))]
def f8e : List CO := [
  O 12 (.build [(iv 0), (tv [])] []),
 .op none none (.store 2 (tm 2) (tm 12)),
 O 3 (.mv (.cst (iv 4)))]
def d0y : List CO := [
  mV 14 0,
 C 15 b2j [(tm 14), (.cst (iv 2)), (.cst (iv 13))],
 mV 13 15,
 eX 16 0 13,
 eX 17 1 13,
 mV 4 16,
 mV 5 17]
def e5G : List CO := [
  mV 18 5,
 O 19 (.ne (B .neq i6) (tm 18) (.cst (iv 0)))]
def f8A : List CO := [
  O 20 (.build [(iv 0), (tv [])] []),
 .op none none (.store 2 (tm 2) (tm 20)),
 O 3 (.mv (.cst (iv 4)))]
def d9B : List CO := [
  mV 21 0,
 O 22 (.build [i7, (iv 0)] [(0, 1, (tm 21)), (1, 1, (.cst (iv 0)))]),
 O 23 (.box H1 (tm 22)),
 mV 6 23]
def e0t : List CO := [
  mV 24 6,
 C 25 a3a [(tm 24), (.cst (iv 2))],
 mV 26 4,
 O 27 (.build [(iv 0), (tv [])] [(0, 1, (tm 25)), (1, 1, (tm 26))]),
 O 7 (.alloc y6 2 [(iv 0), (tv [])]),
 .op none none (.store 2 (tm 7) (tm 27))]
def e27 : List CO := [
  O 29 (.loadN 2 (tm 7)),
 C 30 a5H [(tm 29)],
 mV 28 30,
 eX 31 0 28,
 eX 32 1 28,
 mV 8 31,
 mV 5 32]
def e1I : List CO := [
  O 33 (.loadN 2 (tm 7)),
 mV 34 0,
 mV 35 8,
 mV 36 5,
 C 37 b1H [(tm 33), (tm 34), (tm 35), (tm 36)],
 eX 38 0 37,
 eX 39 1 37,
 .op none none (.store 2 (tm 2) (tm 38)),
 mV 3 39]
def a0l : List CO := [
  O 13 (.mv (.cst (iv 0)))]
def a0p : List CO := [
  mV 19 0,
 O 20 (.eq (B .eql b0) (tm 19) (.cst (iv 0)))]
def a4F : List CO := [
  O 13 (.mv (.cst (iv 0)))]
def a4V : List CO := [
  mV 21 2,
 O 22 (.eq (B .eql b0) (tm 21) (.cst (iv 0)))]
def e3T : List CO := [
  lD 23 3,
 mV 24 1,
 mV 25 0,
 .op none none (.mupd (some .i64) (tm 23) (tm 24) (tm 25))]
def d5l : List CO := [
  lD 26 4,
 mV 27 1,
 O 28 (.max (tm 26) (tm 27)),
 .op none none (.store 1 (tm 4) (tm 28))]
def d0g : List CO := [
  O 13 (.mv (.cst (iv 0)))]
def a9Y : List CO := [
  lD 29 5,
 mV 30 0,
 O 31 (.bslice b0 1 1 [(iv 0)] [(0, 1, (tm 30))]),
 O 32 (.app b0 1 8 [(iv 0)] (tm 29) (tm 31)),
 .op none none (.store 1 (tm 5) (tm 32))]
def b1f : List CO := [
  lD 33 6,
 nL 34 33,
 fA 35 13 34,
 lD 36 35,
 O 37 (.mv (.cst (iv 0)))]
def a2w : List CO := [
  O 38 (.lt (B .lss b0) (tm 37) (tm 36))]
def a9f : List CO := [
  mV 39 37,
 mV 14 39]
def a8O : List CO := [
  lD 41 6,
 lD 42 7,
 lD 43 8,
 mV 44 0,
 mV 45 14,
 O 46 (.build [(iv 0), (iv 0), (iv 0)] [(0, 1, (tm 43)), (1, 1, (tm 44)), (2, 1, (tm 45))]),
 C 47 W8 [(tm 41), (tm 42), (tm 46)],
 mV 40 47,
 eX 48 0 40,
 eX 49 1 40,
 mV 15 48,
 mV 16 49]
def a8W : List CO := [
  mV 50 16,
 O 51 (.ne (B .neq i6) (tm 50) (.cst (iv 0)))]
def f5h : List CO := [
  mV 52 16,
 mV 13 52]
def a80 : List CO := [
  mV 53 1,
 mV 54 14,
 O 55 (.add (B .add b0) (tm 53) (tm 54)),
 mV 17 55]
def a8I : List CO := [
  mV 56 2,
 O 57 (.eq (B .eql b0) (tm 56) (.cst (iv 2)))]
def c0A : List CO := [
  mV 58 1,
 mV 59 14,
 lD 60 6,
 nL 61 60,
 fA 62 13 61,
 lD 63 62,
 O 64 (.mul (B .mul b0) (tm 59) (tm 63)),
 O 65 (.add (B .add b0) (tm 58) (tm 64)),
 mV 17 65]
def a84 : List CO := [
  lD 66 9,
 mV 67 15,
 mV 68 17,
 mV 69 2,
 O 70 (.sub (B .sub b0) (tm 69) (.cst (iv 1))),
 .call (some (pth 71)) none (tm 66) [(tm 67), (tm 68), (tm 70)],
 mV 18 71]
def a8S : List CO := [
  mV 72 18,
 O 73 (.ne (B .neq i6) (tm 72) (.cst (iv 0)))]
def f6R : List CO := [
  mV 74 18,
 mV 13 74]
def a8D : List CO := [
  O 75 (.add (B .add b0) (tm 37) (.cst (iv 1))),
 mV 37 75]
def a9x : List CO := [
  O 13 (.mv (.cst (iv 0)))]
def b1d : List CO := [
  O 5 (.box B7 (tm 2)),
 O 6 (.mv (.cst (iv 0))),
 O 7 (.mv (.cst (iv 0)))]
def b0d : List CO := [
  fA 12 1 5,
 lD 13 12,
 O 14 (.eq (B .eql b0) (tm 13) (.cst (iv 0)))]
def e1k : List CO := [
  mV 16 0,
 mV 17 1,
 fA 18 0 5,
 lD 19 18,
 C 20 I9 [(tm 16), (tm 17), (tm 19)],
 mV 15 20,
 eX 21 0 15,
 eX 22 1 15,
 O 8 (.alloc s9 13 [(iv 0), (iv 0), (iv 0), (iv 0), (iv 0), (iv 0), (iv 0), (iv 0), (iv 0), (iv 0), (iv 0), (iv 0), (iv 0)]),
 .op none none (.store 13 (tm 8) (tm 21)),
 mV 9 22]
def e2M : List CO := [
  fA 23 2 5,
 lD 24 23,
 C 25 a2Q [(tm 8), (tm 24)],
 nL 26 25,
 lD 27 26,
 mV 28 9,
 mV 6 27,
 mV 7 28]
def e00 : List CO := [
  mV 30 1,
 fA 31 1 5,
 lD 32 31,
 C 33 K8 [(tm 30), (tm 32)],
 mV 29 33,
 eX 34 0 29,
 eX 35 1 29,
 mV 10 34,
 mV 11 35]
def e0j : List CO := [
  mV 36 11,
 O 37 (.ne (B .neq i6) (tm 36) (.cst (iv 0)))]
def f8X : List CO := [
  mV 38 11,
 O 6 (.mv (.cst (iv 0))),
 mV 7 38]
def d3I : List CO := [
  mV 39 10,
 fA 40 2 5,
 lD 41 40,
 O 42 (.mul (B .mul b0) (.cst (iv 2)) (tm 41)),
 C 43 a3I [(tm 39), (tm 42), (.cst (iv 2))],
 eX 44 0 43,
 eX 45 1 43,
 mV 6 44,
 mV 7 45]
def a5a : List CO := [
  O 4 (.mv (.cst l9))]
def a4A : List CO := [
  mV 5 1]
def a5p : List CO := [
  O 7 (.eq (B .eql b0) (tm 5) (.cst (iv 8))),
 mV 6 7]
def e39 : List CO := [
  mV 8 0,
 nL 9 8,
 fA 10 11 9,
 mV 4 10]
def b0H : List CO := [
  O 12 (.eq (B .eql b0) (tm 5) (.cst (iv 9))),
 mV 11 12]
def d0u : List CO := [
  mV 13 0,
 nL 14 13,
 fA 15 12 14,
 mV 4 15]
def d7F : List CO := [
  mV 16 0,
 mV 17 1,
 nL 18 16,
 fA 19 3 18,
 O 20 (.iaA 8 1 (tm 19) (tm 17)),
 mV 4 20]
def a91 : List CO := [
  O 4 (.mv (.cst (iv 0)))]
def a9N : List CO := [
  mV 6 0,
 O 7 (.len false (tm 6)),
 O 8 (.mv (.cst (iv 0)))]
def a2q : List CO := [
  O 9 (.lt (B .lss b0) (tm 8) (tm 7))]
def b0p : List CO := [
  mV 10 8,
 mV 5 10]
def b0X : List CO := [
  mV 11 1,
 mV 12 0,
 mV 13 5,
 O 14 (.iaS 1 (tm 12) (tm 13)),
 lD 15 14,
 .call (some (pth 16)) none (tm 11) [(tm 15)]]
def d0v : List CO := [
  mV 17 5,
 mV 4 17]
def e1T : List CO := [
  O 18 (.add (B .add b0) (tm 8) (.cst (iv 1))),
 mV 8 18]
def b06 : List CO := [
  O 4 (.mv (.cst (iv (-1))))]
def d33 : List CO := [
  O 4 (.mv (.cst (iv 0)))]
def d6h : List CO := [
  mV 6 0,
 O 7 (.len false (tm 6)),
 O 8 (.mv (.cst (iv 0)))]
def a40 : List CO := [
  O 9 (.lt (B .lss b0) (tm 8) (tm 7))]
def b0k : List CO := [
  mV 10 8,
 mV 5 10]
def b1b : List CO := [
  mV 11 1,
 mV 12 0,
 mV 13 5,
 O 14 (.iaS 2 (tm 12) (tm 13)),
 O 15 (.loadN 2 (tm 14)),
 .call (some (pth 16)) none (tm 11) [(tm 15)]]
def d2g : List CO := [
  mV 17 5,
 mV 4 17]
def d0t : List CO := [
  O 18 (.add (B .add b0) (tm 8) (.cst (iv 1))),
 mV 8 18]
def d8a : List CO := [
  O 4 (.mv (.cst (iv (-1))))]
def d5m : List CO := [
  O 2 (.box y6 (tm 0)),
 O 3 (.mv (.cst (.b false)))]
def e0m : List CO := [
  fA 4 1 2,
 lD 5 4,
 lD 6 1,
 O 7 (.eq (B .eql E4) (tm 5) (tm 6)),
 mV 3 7]
def e24 : List CO := [
  O 1 (.box y6 (tm 0)),
 O 2 (.mv (.cst i7)),
 O 3 (.mv (.cst (iv 0)))]
def d7P : List CO := [
  fA 6 0 1,
 lD 7 6,
 O 8 (.eq (B .eql b0) (tm 7) (.cst (iv 0))),
 mV 9 8,
 G 10 9 true (.fa 1 (tm 1)),
 G 11 9 true (.load (tm 10)),
 G 12 9 true (.ne (B .neq E4) (tm 11) (.cst (tv []))),
 O 13 (.pick (tm 9) (tm 12) (.cst (.b false))),
 mV 5 13]
def f7D : List CO := [
  O 2 (.mv (.cst i7)),
 O 3 (.mv (.cst (iv 4)))]
def d7B : List CO := [
  fA 15 0 1,
 lD 16 15,
 O 17 (.ne (B .neq b0) (tm 16) (.cst (iv 0))),
 mV 18 17,
 G 19 18 true (.fa 1 (tm 1)),
 G 20 18 true (.load (tm 19)),
 .call (some (pth 21)) (some (pth 18, true)) (.cst (.func a2R [])) [(tm 20)],
 G 22 18 true (.ne (B .neq i6) (tm 21) (.cst (iv 0))),
 O 23 (.pick (tm 18) (tm 22) (.cst (.b false))),
 mV 14 23]
def f80 : List CO := [
  O 2 (.mv (.cst i7)),
 O 3 (.mv (.cst (iv 16)))]
def d7E : List CO := [
  O 24 (.build [i7, (iv 0)] []),
 O 25 (.box a0E (tm 24)),
 mV 4 25]
def e25 : List CO := [
  mV 26 4,
 fA 27 0 1,
 lD 28 27,
 C 29 a1n [(tm 26), (.cst (iv 2)), (tm 28)]]
def d6C : List CO := [
  mV 30 4,
 mV 31 4,
 nL 32 31,
 fA 33 0 32,
 lD 34 33,
 fA 35 1 1,
 lD 36 35,
 O 37 (.app j7 1 1 [(.y 0)] (tm 34) (tm 36)),
 nL 38 30,
 fA 39 0 38,
 .op none none (.store 1 (tm 39) (tm 37))]
def d0p : List CO := [
  mV 40 4,
 C 41 a5O [(tm 40), (.cst (iv 16))],
 eX 42 0 41,
 eX 43 1 41,
 mV 2 42,
 mV 3 43]
def a6W : List CO := [
  O 6 (.box D7 (tm 0)),
 O 7 (.box C6 (tm 1)),
 O 8 (.box x6 (tm 2)),
 O 9 (.box b0 (tm 3)),
 O 10 (.box b0 (tm 4)),
 O 11 (.box B3 (tm 5)),
 O 12 (.alloc i6 1 [(iv 0)])]
def a66 : List CO := [
  lD 24 10,
 O 25 (.lt (B .lss b0) (tm 24) (.cst (iv 0)))]
def b46 : List CO := [
  .op none none (.store 1 (tm 12) (.cst (iv 1)))]
def a7a : List CO := [
  O 27 (.loadN 12 (tm 8)),
 C 28 T0 [(tm 27)],
 mV 26 28,
 eX 29 0 26,
 eX 30 1 26,
 mV 13 29,
 mV 14 30]
def a65 : List CO := [
  mV 31 14,
 O 32 (.ne (B .neq i6) (tm 31) (.cst (iv 0))),
 mV 33 32,
 G 34 33 false (.load (tm 11)),
 G 35 33 false (.len false (tm 34)),
 G 36 33 false (.gt (B .gtr b0) (tm 35) (.cst (iv 4096))),
 O 37 (.pick (tm 33) (.cst (.b true)) (tm 36)),
 mV 38 37,
 G 39 38 false (.load (tm 10)),
 G 40 38 false (.mv (tm 13)),
 G 41 38 false (.load (tm 11)),
 G 42 38 false (.len false (tm 41)),
 G 43 38 false (.sub (B .sub b0) (tm 40) (tm 42)),
 G 44 38 false (.gt (B .gtr b0) (tm 39) (tm 43)),
 O 45 (.pick (tm 38) (.cst (.b true)) (tm 44))]
def b5i : List CO := [
  .op none none (.store 1 (tm 12) (.cst (iv 5)))]
def a6Y : List CO := [
  lD 47 6,
 lD 48 7,
 O 49 (.loadN 12 (tm 8)),
 lD 50 9,
 C 51 a1l [(tm 47), (tm 48), (tm 49), (tm 50)],
 mV 46 51,
 eX 52 0 46,
 eX 53 1 46,
 O 15 (.alloc a1H 1 [l9]),
 .op none none (.store 1 (tm 15) (tm 52)),
 mV 16 53]
def a68 : List CO := [
  mV 54 16,
 O 55 (.ne (B .neq i6) (tm 54) (.cst (iv 0))),
 mV 56 55,
 G 57 56 false (.load (tm 11)),
 G 58 56 false (.len false (tm 57)),
 G 59 56 false (.eq (B .eql b0) (tm 58) (.cst (iv 0))),
 O 60 (.pick (tm 56) (.cst (.b true)) (tm 59))]
def b49 : List CO := [
  mV 61 16,
 .op none none (.store 1 (tm 12) (tm 61))]
def a3D : List CO := [
  lD 62 10,
 lD 63 11,
 O 64 (.len false (tm 63)),
 O 65 (.add (B .add b0) (tm 62) (tm 64)),
 lD 66 15,
 nL 67 66,
 fA 68 15 67,
 fA 69 2 68,
 lD 70 69,
 O 71 (.gt (B .gtr b0) (tm 65) (tm 70))]
def a6B : List CO := [
  lD 72 15,
 lD 73 15,
 nL 74 73,
 fA 75 15 74,
 fA 76 2 75,
 lD 77 76,
 C 78 a5Y [(tm 72), (tm 77)],
 mV 17 78]
def a6C : List CO := [
  mV 79 17,
 O 80 (.ne (B .neq i6) (tm 79) (.cst (iv 0)))]
def b4V : List CO := [
  mV 81 17,
 .op none none (.store 1 (tm 12) (tm 81))]
def a6R : List CO := [
  O 82 (.fn a5F [(tm 8), (tm 10), (tm 11)])]
def e97 : List CO := [
  O 18 (.alloc J6 4 [(iv 0), (iv 0), (iv 0), (iv 0)]),
 .op none none (.store 4 (tm 18) (tm 83))]
def a6P : List CO := [
  lD 85 7,
 lD 86 6,
 lD 87 9,
 fA 88 0 18,
 lD 89 88,
 C 90 b17 [(tm 85), (tm 86), (tm 87), (tm 89)],
 mV 84 90,
 eX 91 0 84,
 eX 92 1 84,
 eX 93 2 84,
 mV 19 91,
 mV 20 92,
 mV 21 93]
def a1I : List CO := [
  mV 94 21,
 O 95 (.ne (B .neq i6) (tm 94) (.cst (iv 0)))]
def a6H : List CO := [
  mV 96 21,
 .op none none (.store 1 (tm 12) (tm 96))]
def a3x : List CO := [
  fA 97 0 8,
 lD 98 97,
 O 99 (.mksl j7 1 1 [(.y 0)] (tm 98) (tm 98)),
 mV 22 99]
def a3y : List CO := [
  mV 100 20,
 O 101 (.un .not (tm 100))]
def a6L : List CO := [
  lD 103 6,
 mV 104 19,
 C 105 K8 [(tm 103), (tm 104)],
 mV 102 105,
 eX 106 0 102,
 eX 107 1 102,
 mV 22 106,
 mV 21 107]
def a6I : List CO := [
  mV 108 21,
 O 109 (.ne (B .neq i6) (tm 108) (.cst (iv 0)))]
def b4X : List CO := [
  mV 110 21,
 .op none none (.store 1 (tm 12) (tm 110))]
def a3v : List CO := [
  mV 111 22,
 fA 112 1 18,
 lD 113 112,
 fA 114 2 18,
 lD 115 114,
 O 116 (.sl 1 false (tm 111) (some (tm 113)) (some (tm 115)) none),
 lD 117 11,
 fA 118 3 18,
 lD 119 118,
 O 120 (.sl 1 false (tm 117) (some (tm 119)) none none),
 O 121 (.copy 1 (tm 116) (tm 120))]
def a6E : List CO := [
  lD 122 15,
 mV 123 19,
 mV 124 22,
 C 125 a5W [(tm 122), (tm 123), (tm 124)],
 mV 23 125]
def a6M : List CO := [
  mV 126 23,
 O 127 (.ne (B .neq i6) (tm 126) (.cst (iv 0)))]
def b4Z : List CO := [
  mV 128 23,
 .op none none (.store 1 (tm 12) (tm 128))]
def a6O : List CO := [
  lD 129 6,
 lD 130 7,
 lD 131 9,
 lD 132 10,
 lD 133 11,
 O 134 (.len false (tm 133)),
 O 135 (.add (B .add b0) (tm 132) (tm 134)),
 C 136 b1E [(tm 129), (tm 130), (tm 131), (tm 135)],
 .op none none (.store 1 (tm 12) (tm 136))]
noncomputable def z8 : Code := a5s (Tryz.prog.funcs[73]?)
noncomputable def b4Y : CC := (.reg a6W)
theorem f0f : j6 Tryz.prog ((sL z8)) = b4Y := by kernel_rfl
noncomputable def b4S : CC := (.seq (.reg a66) (.cond (tm 25) (.seq (.reg b46) .ret) .skip))
theorem e92 : j6 Tryz.prog ((sL (sR z8))) = b4S := by kernel_rfl
noncomputable def b4U : CC := (.seq (.reg a7a) (.seq (.reg a65) (.cond (tm 45) (.seq (.reg b5i) .ret) .skip)))
theorem e95 : j6 Tryz.prog ((sL (sR (sR z8)))) = b4U := by kernel_rfl
noncomputable def b4N : CC := (.reg a6Y)
theorem f0g : j6 Tryz.prog ((sL (sR (sR (sR z8))))) = b4N := by kernel_rfl
noncomputable def b4O : CC := (.seq (.reg a68) (.cond (tm 60) (.seq (.reg b49) .ret) .skip))
theorem e9U : j6 Tryz.prog ((sL (sR (sR (sR (sR z8)))))) = b4O := by kernel_rfl
noncomputable def b40 : CC := (.seq (.drawn a3D [(0, 0), (1, 0), (4, 0), (8, 0)]) (.cond (tm 71) (.seq (.drawn a6B [(0, 0), (1, 0), (5, 0)]) (.seq (.reg a6C) (.cond (tm 80) (.seq (.reg b4V) .ret) .skip))) .skip))
theorem e9V : j6 Tryz.prog ((sL (sR (sR (sR (sR (sR z8))))))) = b40 := by kernel_rfl
noncomputable def b4P : CC := (.reg a6R)
theorem f0d : j6 Tryz.prog ((sL (sL (sR (sR (sR (sR (sR (sR z8))))))))) = b4P := by kernel_rfl
noncomputable def e99 : CC := (.reg e97)
theorem e9R : j6 Tryz.prog ((rAs (bB (sR (sL (sR (sR (sR (sR (sR (sR z8))))))))))) = e99 := by kernel_rfl
noncomputable def a6J : CC := (.block 1 (.seq (.reg a6P) (.seq (.seq (.reg a1I) (.cond (tm 95) (.seq (.reg a6H) .ret) .skip)) (.seq (.reg a3x) (.seq (.seq (.reg a3y) (.cond (tm 101) (.seq (.reg a6L) (.seq (.reg a6I) (.cond (tm 109) (.seq (.reg b4X) .ret) .skip))) .skip)) (.seq (.drawn a3v [(2, 0), (4, 0), (5, 0), (6, 0), (8, 0), (9, 0)]) (.seq (.reg a6E) (.seq (.reg a6M) (.cond (tm 127) (.seq (.reg b4Z) .ret) .skip)))))))))
theorem e9Z : j6 Tryz.prog ((rBd (bB (sR (sL (sR (sR (sR (sR (sR (sR z8))))))))))) = a6J := by kernel_rfl
theorem e9K : cO (rF (bB (sR (sL (sR (sR (sR (sR (sR (sR z8)))))))))) = (tm 82) := by kernel_rfl
theorem e9A : (rPs (bB (sR (sL (sR (sR (sR (sR (sR (sR z8)))))))))).toList = [83] := by kernel_rfl
noncomputable def b4W : CC := (.seq (.reg a6O) .ret)
theorem e9T : j6 Tryz.prog ((sR (sR (sR (sR (sR (sR (sR z8)))))))) = b4W := by kernel_rfl
noncomputable def b4e : Code := (.seq (sL z8) (.seq (sL (sR z8)) (.seq (sL (sR (sR z8))) (.seq (sL (sR (sR (sR z8)))) (.seq (sL (sR (sR (sR (sR z8))))) (.seq (sL (sR (sR (sR (sR (sR z8)))))) (.seq (.seq (sL (sL (sR (sR (sR (sR (sR (sR z8)))))))) (.block 0 (.rangeFunc (rF (bB (sR (sL (sR (sR (sR (sR (sR (sR z8)))))))))) (rPs (bB (sR (sL (sR (sR (sR (sR (sR (sR z8)))))))))) (rAs (bB (sR (sL (sR (sR (sR (sR (sR (sR z8)))))))))) (rBd (bB (sR (sL (sR (sR (sR (sR (sR (sR z8))))))))))))) (sR (sR (sR (sR (sR (sR (sR z8))))))))))))))
theorem e9n : Tryz.f73.body = some b4e := by kernel_rfl
theorem e9l : t8 Tryz.f73.ntmps b4e = true := by kernel_rfl
theorem e9z : y8 (pth 73) tb.fs = some Tryz.f73 := by rw [i8]; exact Z9 Tryz.func73
theorem e9p : Tryz.f73.results.toList = [.cell 12 i6] := rfl
def d2Y : List CO := [
  O 8 (.mv (.cst (iv 0)))]
def e0n : List CO := [
  mV 20 0,
 O 21 (.eqp false (B .eql C6) (tm 20) (.cst l9))]
def f7w : List CO := [
  O 8 (.mv (.cst (iv 1)))]
def d4t : List CO := [
  mV 23 0,
 nL 24 23,
 fA 25 1 24,
 O 26 (.loadN 12 (tm 25)),
 mV 27 2,
 C 28 a3G [(tm 26), (tm 27)],
 mV 22 28,
 eX 29 0 22,
 eX 30 1 22,
 eX 31 2 22,
 mV 9 29,
 mV 10 30,
 mV 11 31]
def d51 : List CO := [
  mV 33 0,
 nL 34 33,
 fA 35 1 34,
 O 36 (.loadN 12 (tm 35)),
 C 37 T0 [(tm 36)],
 mV 32 37,
 eX 38 0 32,
 eX 39 1 32,
 mV 12 38,
 mV 13 39]
def d53 : List CO := [
  mV 40 11,
 O 41 (.ne (B .neq i6) (tm 40) (.cst (iv 0))),
 mV 42 41,
 G 43 42 false (.mv (tm 13)),
 G 44 42 false (.ne (B .neq i6) (tm 43) (.cst (iv 0))),
 O 45 (.pick (tm 42) (.cst (.b true)) (tm 44)),
 mV 46 45,
 G 47 46 false (.mv (tm 3)),
 G 48 46 false (.lt (B .lss b0) (tm 47) (.cst (iv 0))),
 O 49 (.pick (tm 46) (.cst (.b true)) (tm 48)),
 mV 50 49,
 G 51 50 false (.mv (tm 3)),
 G 52 50 false (.mv (tm 12)),
 G 53 50 false (.gt (B .gtr b0) (tm 51) (tm 52)),
 O 54 (.pick (tm 50) (.cst (.b true)) (tm 53))]
def f7z : List CO := [
  O 8 (.mv (.cst (iv 2)))]
def d50 : List CO := [
  mV 55 3,
 mV 56 0,
 nL 57 56,
 fA 58 1 57,
 fA 59 0 58,
 lD 60 59,
 O 61 (.add (B .add b0) (tm 55) (tm 60)),
 O 62 (.sub (B .sub b0) (tm 61) (.cst (iv 1))),
 mV 63 0,
 nL 64 63,
 fA 65 1 64,
 fA 66 0 65,
 lD 67 66,
 O 68 (.quo (B .quo b0) (tm 62) (tm 67)),
 mV 14 68]
def d70 : List CO := [
  O 69 (.mv (.cst (iv 0)))]
def b0V : List CO := [
  O 70 (.lt (B .lss b0) (tm 69) (.cst (iv 8)))]
def b9q : List CO := [
  mV 71 69,
 mV 15 71]
def c5c : List CO := [
  mV 72 0,
 mV 73 1,
 mV 74 2,
 mV 75 15,
 O 76 (.build [(iv 0), (iv 0), (iv 0)] [(0, 1, (tm 74)), (2, 1, (tm 75))]),
 mV 77 15,
 mV 78 14,
 C 79 N6 [(tm 72), (tm 73), (tm 76), (tm 77), (tm 78), (.cst (iv 0))],
 mV 16 79]
def c4D : List CO := [
  mV 80 16,
 O 81 (.ne (B .neq i6) (tm 80) (.cst (iv 0)))]
def f6t : List CO := [
  mV 82 16,
 mV 8 82]
def c5D : List CO := [
  O 83 (.add (B .add b0) (tm 69) (.cst (iv 1))),
 mV 69 83]
def c3V : List CO := [
  mV 84 0,
 mV 85 1,
 mV 86 2,
 O 87 (.build [(iv 0), (iv 0), (iv 0)] [(0, 1, (tm 86)), (2, 1, (.cst (iv 8)))]),
 mV 88 14,
 C 89 N6 [(tm 84), (tm 85), (tm 87), (.cst (iv 8)), (tm 88), (.cst (iv 1))],
 mV 17 89]
def c5Y : List CO := [
  mV 90 17,
 O 91 (.ne (B .neq i6) (tm 90) (.cst (iv 0)))]
def f7l : List CO := [
  mV 92 17,
 mV 8 92]
def c1L : List CO := [
  mV 93 0,
 mV 94 1,
 mV 95 2,
 O 96 (.build [(iv 0), (iv 0), (iv 0)] [(0, 1, (tm 95)), (2, 1, (.cst (iv 9)))]),
 mV 97 0,
 nL 98 97,
 fA 99 13 98,
 lD 100 99,
 O 101 (.add (B .add b0) (.cst (iv 8)) (tm 100)),
 mV 102 14,
 C 103 N6 [(tm 93), (tm 94), (tm 96), (tm 101), (tm 102), (.cst (iv 2))],
 mV 18 103]
def b9e : List CO := [
  mV 104 18,
 O 105 (.ne (B .neq i6) (tm 104) (.cst (iv 0)))]
def f6a : List CO := [
  mV 106 18,
 mV 8 106]
def c9J : List CO := [
  mV 108 0,
 mV 109 1,
 mV 110 2,
 C 111 I9 [(tm 108), (tm 109), (tm 110)],
 mV 107 111,
 eX 112 0 107,
 eX 113 1 107,
 O 19 (.alloc s9 13 [(iv 0), (iv 0), (iv 0), (iv 0), (iv 0), (iv 0), (iv 0), (iv 0), (iv 0), (iv 0), (iv 0), (iv 0), (iv 0)]),
 .op none none (.store 13 (tm 19) (tm 112)),
 mV 11 113]
def c36 : List CO := [
  mV 114 11,
 O 115 (.ne (B .neq i6) (tm 114) (.cst (iv 0)))]
def f5c : List CO := [
  mV 116 11,
 mV 8 116]
def c9l : List CO := [
  mV 117 3,
 fA 118 2 19,
 .op none none (.store 1 (tm 118) (tm 117))]
def c7g : List CO := [
  mV 119 0,
 mV 120 1,
 mV 121 2,
 O 122 (.loadN 13 (tm 19)),
 C 123 a2I [(tm 119), (tm 120), (tm 121), (tm 122)],
 mV 8 123]
def a42 : List CO := [
  O 4 (.mv (.cst (iv 0)))]
def a5w : List CO := [
  mV 9 1,
 mV 10 0,
 nL 11 10,
 fA 12 2 11,
 fA 13 0 12,
 lD 14 13,
 O 15 (.rem (B .rem b0) (tm 9) (tm 14)),
 mV 5 15]
def a4I : List CO := [
  mV 16 5,
 O 17 (.eq (B .eql b0) (tm 16) (.cst (iv 0)))]
def e0E : List CO := [
  O 4 (.mv (.cst (iv 0)))]
def b1t : List CO := [
  mV 19 0,
 nL 20 19,
 fA 21 1 20,
 lD 22 21,
 mV 23 0,
 nL 24 23,
 fA 25 0 24,
 lD 26 25,
 mV 27 0,
 nL 28 27,
 fA 29 14 28,
 lD 30 29,
 mV 31 1,
 mV 32 0,
 nL 33 32,
 fA 34 2 33,
 fA 35 0 34,
 lD 36 35,
 O 37 (.quo (B .quo b0) (tm 31) (tm 36)),
 C 38 a2N [(tm 22), (tm 26), (tm 30), (tm 37)],
 mV 18 38,
 eX 39 0 18,
 eX 40 1 18,
 mV 6 39,
 mV 7 40]
def b0f : List CO := [
  mV 41 7,
 O 42 (.ne (B .neq i6) (tm 41) (.cst (iv 0))),
 mV 43 42,
 G 44 43 false (.mv (tm 6)),
 G 45 43 false (.eq (B .eql b0) (tm 44) (.cst (iv 0))),
 O 46 (.pick (tm 43) (.cst (.b true)) (tm 45))]
def d3H : List CO := [
  mV 47 7,
 mV 4 47]
def e3r : List CO := [
  mV 49 0,
 nL 50 49,
 fA 51 0 50,
 lD 52 51,
 mV 53 6,
 C 54 K8 [(tm 52), (tm 53)],
 mV 48 54,
 eX 55 0 48,
 eX 56 1 48,
 mV 8 55,
 mV 7 56]
def e06 : List CO := [
  mV 57 7,
 O 58 (.ne (B .neq i6) (tm 57) (.cst (iv 0)))]
def f8l : List CO := [
  mV 59 7,
 mV 4 59]
def c0P : List CO := [
  mV 60 8,
 mV 61 5,
 O 62 (.sl 1 false (tm 60) (some (tm 61)) none none),
 .op none none (.clrs [(.y 0)] (tm 62))]
def c2B : List CO := [
  mV 63 0,
 mV 64 6,
 mV 65 8,
 C 66 a5W [(tm 63), (tm 64), (tm 65)],
 mV 4 66]
def a48 : List CO := [
  O 4 (.mv (.cst i7)),
 O 5 (.mv (.cst (iv 0)))]
def a4Z : List CO := [
  mV 11 0,
 C 12 a2X [(tm 11)],
 mV 6 12]
def a5z : List CO := [
  mV 13 6,
 O 14 (.ne (B .neq i6) (tm 13) (.cst (iv 0)))]
def f9A : List CO := [
  mV 15 6,
 O 4 (.mv (.cst i7)),
 mV 5 15]
def a5l : List CO := [
  mV 16 0,
 nL 17 16,
 fA 18 1 17,
 lD 19 18,
 mV 20 0,
 nL 21 20,
 fA 22 2 21,
 lD 23 22,
 O 24 (.bslice b4R 2 2 [a3h] [(0, 1, (tm 19)), (1, 1, (tm 23))]),
 O 25 (.len false (tm 24)),
 O 26 (.mv (.cst (iv 0)))]
def a0j : List CO := [
  O 27 (.lt (B .lss b0) (tm 26) (tm 25))]
def a1a : List CO := [
  O 28 (.iaS 1 (tm 24) (tm 26)),
 lD 29 28,
 mV 8 29]
def a1f : List CO := [
  mV 31 8,
 mV 32 1,
 O 33 (.look (some .i64) i7 true (tm 31) (tm 32)),
 mV 30 33,
 eX 34 0 30,
 eX 35 1 30,
 mV 9 34,
 mV 10 35]
def a1b : List CO := [
  mV 36 10]
def b0w : List CO := [
  mV 37 9,
 C 38 X5 [(tm 37)],
 mV 4 38,
 O 5 (.mv (.cst (iv 0)))]
def a4y : List CO := [
  O 39 (.add (B .add b0) (tm 26) (.cst (iv 1))),
 mV 26 39]
def c3u : List CO := [
  mV 40 0,
 nL 41 40,
 fA 42 0 41,
 lD 43 42,
 mV 44 1,
 C 45 b1y [(tm 43), (tm 44)],
 eX 46 0 45,
 eX 47 1 45,
 mV 4 46,
 mV 5 47]
def b0y : List CO := [
  mV 8 2,
 O 9 (.len false (tm 8)),
 O 10 (.mv (.cst (iv 0)))]
def a09 : List CO := [
  O 11 (.lt (B .lss b0) (tm 10) (tm 9))]
def a4R : List CO := [
  O 12 (.iaS 1 (tm 8) (tm 10)),
 lD 13 12,
 mV 7 13]
def a49 : List CO := [
  mV 14 7,
 mV 15 0,
 mV 16 1,
 C 17 a3a [(tm 15), (tm 16)],
 nL 18 14,
 .op none none (.store 1 (tm 18) (tm 17))]
def a5B : List CO := [
  O 19 (.add (B .add b0) (tm 10) (.cst (iv 1))),
 mV 10 19]
def d9c : List CO := [
  O 4 (.mv (.cst (iv 0)))]
def e3q : List CO := [
  mV 8 0,
 nL 9 8,
 fA 10 0 9,
 lD 11 10,
 mV 12 0,
 nL 13 12,
 fA 14 1 13,
 lD 15 14,
 mV 16 1,
 C 17 a3I [(tm 11), (tm 15), (tm 16)],
 mV 7 17,
 eX 18 0 7,
 eX 19 1 7,
 mV 5 18,
 mV 6 19]
def e3y : List CO := [
  mV 20 0,
 nL 21 20,
 fA 22 1 21,
 lD 23 22,
 mV 24 1,
 O 25 (.add (B .add b0) (tm 23) (tm 24)),
 nL 26 20,
 fA 27 1 26,
 .op none none (.store 1 (tm 27) (tm 25))]
def e1r : List CO := [
  mV 28 5,
 mV 4 28]
def e3n : List CO := [
  O 4 (.box s9 (tm 0)),
 O 8 (.alloc s9 13 [(iv 0), (iv 0), (iv 0), (iv 0), (iv 0), (iv 0), (iv 0), (iv 0), (iv 0), (iv 0), (iv 0), (iv 0), (iv 0)]),
 O 9 (.mv (.cst (iv 0)))]
def e23 : List CO := [
  mV 11 3,
 O 12 (.ne (B .neq i6) (tm 11) (.cst (iv 0))),
 mV 13 12,
 G 14 13 false (.mv (tm 1)),
 G 15 13 false (.mv (tm 2)),
 .call (some (pth 16)) (some (pth 13, false)) (.cst (.func a5E [])) [(tm 14), (tm 15)],
 G 17 13 false (.un .not (tm 16)),
 O 18 (.pick (tm 13) (.cst (.b true)) (tm 17))]
def f9s : List CO := [
  O 10 (.alloc s9 13 [(iv 0), (iv 0), (iv 0), (iv 0), (iv 0), (iv 0), (iv 0), (iv 0), (iv 0), (iv 0), (iv 0), (iv 0), (iv 0)])]
def f8M : List CO := [
  O 19 (.loadN 13 (tm 10)),
 .op none none (.store 13 (tm 8) (tm 19)),
 O 9 (.mv (.cst (iv 4)))]
def d8w : List CO := [
  O 20 (.loadN 13 (tm 4)),
 .op none none (.store 13 (tm 8) (tm 20)),
 O 9 (.mv (.cst (iv 0)))]
def d9m : List CO := [
  mV 9 1,
 O 10 (.mksl j7 1 1 [(.y 0)] (tm 9) (tm 9)),
 mV 11 1,
 mV 12 2,
 C 13 a1t [(tm 10), (.cst (iv 0)), (tm 11), (tm 12)],
 mV 8 13,
 eX 14 0 8,
 eX 15 1 8,
 mV 6 14,
 mV 7 15]
def e1t : List CO := [
  mV 16 7,
 O 17 (.ne (B .neq i6) (tm 16) (.cst (iv 0))),
 mV 18 17,
 G 19 18 true (.mv (tm 0)),
 G 20 18 true (.nil (tm 19)),
 G 21 18 true (.fa 1 (tm 20)),
 G 22 18 true (.load (tm 21)),
 G 23 18 true (.eq (B .eql i6) (tm 22) (.cst (iv 0))),
 O 24 (.pick (tm 18) (tm 23) (.cst (.b false)))]
def f9c : List CO := [
  mV 25 0,
 mV 26 7,
 nL 27 25,
 fA 28 1 27,
 .op none none (.store 1 (tm 28) (tm 26))]
def e0R : List CO := [
  mV 29 0,
 mV 30 0,
 nL 31 30,
 fA 32 0 31,
 lD 33 32,
 mV 34 6,
 O 35 (.app j7 1 1 [(.y 0)] (tm 33) (tm 34)),
 nL 36 29,
 fA 37 0 36,
 .op none none (.store 1 (tm 37) (tm 35))]
def a97 : List CO := [
  mV 8 2,
 O 9 (.len false (tm 8)),
 O 10 (.mv (.cst (iv 0)))]
def a2n : List CO := [
  O 11 (.lt (B .lss b0) (tm 10) (tm 9))]
def b01 : List CO := [
  O 12 (.iaS 1 (tm 8) (tm 10)),
 lD 13 12,
 mV 7 13]
def b1o : List CO := [
  mV 14 0,
 mV 15 1,
 mV 16 7,
 C 17 a1n [(tm 14), (tm 15), (tm 16)]]
def a9A : List CO := [
  O 18 (.add (B .add b0) (tm 10) (.cst (iv 1))),
 mV 10 18]
def d16 : List CO := [
  O 4 (.mv (.cst i7)),
 O 5 (.mv (.cst (iv 0)))]
def e4O : List CO := [
  mV 6 0,
 nL 7 6,
 fA 8 1 7,
 lD 9 8,
 O 10 (.ne (B .neq i6) (tm 9) (.cst (iv 0)))]
def f82 : List CO := [
  mV 11 0,
 nL 12 11,
 fA 13 1 12,
 lD 14 13,
 O 4 (.mv (.cst i7)),
 mV 5 14]
def d3m : List CO := [
  mV 15 0,
 nL 16 15,
 fA 17 0 16,
 lD 18 17,
 mV 19 1,
 mV 20 0,
 nL 21 20,
 fA 22 0 21,
 lD 23 22,
 O 24 (.len false (tm 23)),
 O 25 (.sub (B .sub b0) (tm 19) (tm 24)),
 O 26 (.appz j7 1 1 [(.y 0)] (tm 18) (tm 25)),
 mV 4 26,
 O 5 (.mv (.cst (iv 0)))]
def d8l : List CO := [
  O 2 (.mv (.cst i7))]
def e1M : List CO := [
  mV 3 0,
 O 4 (.eq (B .eql B3) (tm 3) (.cst i7))]
def f8T : List CO := [
  O 2 (.mv (.cst i7))]
def d6i : List CO := [
  O 5 (.bslice j7 0 0 [(.y 0)] []),
 mV 6 0,
 O 7 (.app j7 1 1 [(.y 0)] (tm 5) (tm 6)),
 mV 2 7]
def a9K : List CO := [
  O 10 (.mv (.cst (iv 0)))]
def a9E : List CO := [
  mV 12 0,
 C 13 a2X [(tm 12)],
 mV 11 13]
def b0o : List CO := [
  mV 15 11,
 O 16 (.ne (B .neq i6) (tm 15) (.cst (iv 0))),
 mV 14 16]
def f9G : List CO := [
  mV 17 11,
 mV 10 17]
def a9L : List CO := [
  mV 19 3,
 mV 20 2,
 mV 21 0,
 nL 22 21,
 fA 23 0 22,
 lD 24 23,
 nL 25 24,
 fA 26 3 25,
 O 27 (.loadN 12 (tm 26)),
 .call (some (pth 28)) none (tm 20) [(tm 27)],
 O 29 (.lt (B .lss b0) (tm 19) (tm 28)),
 mV 30 29,
 G 31 30 false (.mv (tm 3)),
 G 32 30 false (.mv (tm 0)),
 G 33 30 false (.nil (tm 32)),
 G 34 30 false (.fa 0 (tm 33)),
 G 35 30 false (.load (tm 34)),
 G 36 30 false (.nil (tm 35)),
 G 37 30 false (.fa 3 (tm 36)),
 G 38 30 false (.fa 1 (tm 37)),
 G 39 30 false (.load (tm 38)),
 G 40 30 false (.ge (B .geq b0) (tm 31) (tm 39)),
 O 41 (.pick (tm 30) (.cst (.b true)) (tm 40)),
 mV 18 41]
def f9g : List CO := [
  O 10 (.mv (.cst (iv 2)))]
def a90 : List CO := [
  mV 43 4,
 O 44 (.len false (tm 43)),
 mV 45 0,
 nL 46 45,
 fA 47 0 46,
 lD 48 47,
 nL 49 48,
 fA 50 3 49,
 fA 51 0 50,
 lD 52 51,
 O 53 (.ne (B .neq b0) (tm 44) (tm 52)),
 mV 42 53]
def f9K : List CO := [
  O 10 (.mv (.cst (iv 1)))]
def b0N : List CO := [
  mV 54 0,
 mV 55 3,
 C 56 a5U [(tm 54), (tm 55)]]
def a93 : List CO := [
  mV 57 1,
 mV 58 0,
 .call (some (pth 59)) none (tm 57) [(tm 58)],
 mV 60 3,
 mV 61 4,
 C 62 X5 [(tm 61)],
 .op none none (.mupd (some .i64) (tm 59) (tm 60) (tm 62))]
def a8M : List CO := [
  O 10 (.mv (.cst (iv 0)))]
def d6L : List CO := [
  O 2 (.mv (.cst a3h))]
def d7J : List CO := [
  mV 3 0,
 nL 4 3,
 fA 5 1 4,
 lD 6 5,
 mV 2 6]
def d3r : List CO := [
  O 1 (.box x6 (tm 0)),
 O 2 (.mv (.cst (iv 0)))]
def d0Z : List CO := [
  fA 3 5 1,
 lD 4 3,
 mV 2 4]
def b1e : List CO := [
  O 6 (.mv (.cst (.b false)))]
def a9V : List CO := [
  mV 7 0,
 mV 8 1,
 O 9 (.ge (B .geq b0) (tm 7) (tm 8)),
 mV 10 9,
 G 11 10 true (.mv (tm 0)),
 G 12 10 true (.mv (tm 2)),
 G 13 10 true (.le (B .leq b0) (tm 11) (tm 12)),
 O 14 (.pick (tm 10) (tm 13) (.cst (.b false))),
 mV 6 14]
def d8b : List CO := [
  O 2 (.mv (.cst (.b false)))]
def d8S : List CO := [
  mV 3 0,
 O 4 (.ge (B .geq Z5) (tm 3) (.cst (.p (.int .i32 (97))))),
 mV 5 4,
 G 6 5 true (.mv (tm 0)),
 G 7 5 true (.le (B .leq Z5) (tm 6) (.cst (.p (.int .i32 (122))))),
 O 8 (.pick (tm 5) (tm 7) (.cst (.b false))),
 mV 9 8,
 G 10 9 false (.mv (tm 0)),
 G 11 9 false (.ge (B .geq Z5) (tm 10) (.cst (.p (.int .i32 (48))))),
 G 12 9 false (.mv (tm 11)),
 G 13 12 true (.mv (tm 0)),
 G 14 12 true (.le (B .leq Z5) (tm 13) (.cst (.p (.int .i32 (57))))),
 G 15 9 false (.pick (tm 12) (tm 14) (.cst (.b false))),
 O 16 (.pick (tm 9) (.cst (.b true)) (tm 15)),
 mV 17 16,
 G 18 17 false (.mv (tm 0)),
 G 19 17 false (.eq (B .eql Z5) (tm 18) (.cst (.p (.int .i32 (46))))),
 O 20 (.pick (tm 17) (.cst (.b true)) (tm 19)),
 mV 21 20,
 G 22 21 false (.mv (tm 0)),
 G 23 21 false (.eq (B .eql Z5) (tm 22) (.cst (.p (.int .i32 (95))))),
 O 24 (.pick (tm 21) (.cst (.b true)) (tm 23)),
 mV 25 24,
 G 26 25 false (.mv (tm 0)),
 G 27 25 false (.eq (B .eql Z5) (tm 26) (.cst (.p (.int .i32 (45))))),
 O 28 (.pick (tm 25) (.cst (.b true)) (tm 27)),
 O 29 (.un .not (tm 28)),
 mV 2 29]
def e0u : List CO := [
  O 4 (.mv (.cst (.b false)))]
def d9a : List CO := [
  mV 5 0,
 mV 6 1,
 C 7 b1L [(tm 5), (tm 6)],
 O 8 (.ge (B .geq b0) (tm 7) (.cst (iv 0))),
 mV 4 8]
def d5S : List CO := [
  fA 5 0 1,
 lD 6 5,
 lD 7 2,
 lD 8 3,
 mV 9 0,
 C 10 a0t [(tm 6), (tm 7), (tm 8), (tm 9)]]
def d4s : List CO := [
  O 8 (.mv (.cst (iv 0)))]
def b05 : List CO := [
  mV 11 8,
 mV 12 2,
 O 13 (.lt (B .lss b0) (tm 11) (tm 12))]
def d4Q : List CO := [
  mV 14 1,
 mV 15 8,
 O 16 (.add (B .add b0) (tm 14) (tm 15)),
 mV 17 0,
 O 18 (.rem (B .rem b0) (tm 16) (tm 17)),
 mV 9 18]
def d5g : List CO := [
  mV 19 0,
 mV 20 9,
 mV 21 2,
 O 22 (.add (B .add b0) (tm 20) (tm 21)),
 mV 23 8,
 O 24 (.sub (B .sub b0) (tm 22) (tm 23)),
 O 25 (.min (tm 19) (tm 24)),
 mV 10 25]
def d3N : List CO := [
  mV 26 3,
 mV 27 1,
 mV 28 8,
 O 29 (.add (B .add b0) (tm 27) (tm 28)),
 mV 30 0,
 O 31 (.quo (B .quo b0) (tm 29) (tm 30)),
 mV 32 9,
 mV 33 10,
 mV 34 8,
 O 35 (.build [(iv 0), (iv 0), (iv 0), (iv 0)] [(0, 1, (tm 31)), (1, 1, (tm 32)), (2, 1, (tm 33)), (3, 1, (tm 34))]),
 .call (some (pth 36)) none (tm 26) [(tm 35)],
 O 37 (.un .not (tm 36))]
def e5b : List CO := [
  mV 38 8,
 mV 39 10,
 mV 40 9,
 O 41 (.sub (B .sub b0) (tm 39) (tm 40)),
 O 42 (.add (B .add b0) (tm 38) (tm 41)),
 mV 8 42]
def e5I : List CO := [
  O 8 (.mv (.cst (iv 0))),
 O 9 (.mv (.cst (iv 0)))]
def d7T : List CO := [
  mV 14 0,
 O 15 (.eqp false (B .eql C6) (tm 14) (.cst l9))]
def f9m : List CO := [
  O 8 (.mv (.cst (iv 0))),
 O 9 (.mv (.cst (iv 1)))]
def d94 : List CO := [
  mV 17 0,
 nL 18 17,
 fA 19 1 18,
 O 20 (.loadN 12 (tm 19)),
 mV 21 3,
 C 22 a58 [(tm 20), (tm 21)],
 mV 16 22,
 eX 23 0 16,
 eX 24 1 16,
 mV 10 23,
 mV 11 24]
def d1X : List CO := [
  mV 25 11,
 O 26 (.ne (B .neq i6) (tm 25) (.cst (iv 0)))]
def f7x : List CO := [
  mV 27 11,
 O 8 (.mv (.cst (iv 0))),
 mV 9 27]
def e3c : List CO := [
  mV 28 2,
 O 29 (.build [(iv 0), (iv 0), (iv 0)] [(0, 1, (tm 28))]),
 O 12 (.alloc B7 3 [(iv 0), (iv 0), (iv 0)]),
 .op none none (.store 3 (tm 12) (tm 29))]
def d0K : List CO := [
  O 13 (.mv (.cst (iv 0)))]
def e0z : List CO := [
  mV 30 10,
 O 31 (.len false (tm 30)),
 O 32 (.mv (.cst (iv 0)))]
def a5i : List CO := [
  O 33 (.lt (B .lss b0) (tm 32) (tm 31))]
def a9d : List CO := [
  O 34 (.iaS 1 (tm 30) (tm 32)),
 lD 35 34,
 fA 36 2 12,
 .op none none (.store 1 (tm 36) (tm 35))]
def a9u : List CO := [
  mV 38 0,
 mV 39 1,
 O 40 (.loadN 3 (tm 12)),
 C 41 W8 [(tm 38), (tm 39), (tm 40)],
 mV 37 41,
 eX 42 0 37,
 eX 43 1 37,
 mV 13 42,
 mV 11 43]
def a8F : List CO := [
  mV 44 11,
 O 45 (.ne (B .neq i6) (tm 44) (.cst (iv 0)))]
def f5X : List CO := [
  mV 46 11,
 O 8 (.mv (.cst (iv 0))),
 mV 9 46]
def a8C : List CO := [
  mV 47 13,
 O 48 (.eq (B .eql b0) (tm 47) (.cst (iv 0)))]
def c7v : List CO := [
  mV 49 13,
 fA 50 1 12,
 .op none none (.store 1 (tm 50) (tm 49))]
def c74 : List CO := [
  O 51 (.add (B .add b0) (tm 32) (.cst (iv 1))),
 mV 32 51]
def a8V : List CO := [
  mV 52 13,
 mV 8 52,
 O 9 (.mv (.cst (iv 0)))]
def d4n : List CO := [
  O 4 (.mv (.cst (iv 0)))]
def b0L : List CO := [
  mV 6 4,
 lD 7 1,
 O 8 (.len false (tm 7)),
 O 9 (.lt (B .lss b0) (tm 6) (tm 8))]
def d2M : List CO := [
  lD 13 2,
 lD 14 1,
 mV 15 4,
 O 16 (.sl 1 false (tm 14) (some (tm 15)) none none),
 O 17 (.len false (tm 16)),
 O 18 (.min (tm 13) (tm 17)),
 mV 5 18]
def c98 : List CO := [
  mV 19 0,
 lD 20 1,
 mV 21 4,
 mV 22 4,
 mV 23 5,
 O 24 (.add (B .add b0) (tm 22) (tm 23)),
 mV 25 4,
 mV 26 5,
 O 27 (.add (B .add b0) (tm 25) (tm 26)),
 O 28 (.sl 1 true (tm 20) (some (tm 21)) (some (tm 24)) (some (tm 27))),
 .call (some (pth 29)) none (tm 19) [(tm 28)],
 O 30 (.un .not (tm 29))]
def d8x : List CO := [
  mV 10 4,
 lD 11 2,
 O 12 (.add (B .add b0) (tm 10) (tm 11)),
 mV 4 12]
def e3Q : List CO := [
  O 6 (.mv (.cst (tv []))),
 O 7 (.mv (.cst (iv 0)))]
def d28 : List CO := [
  mV 14 0,
 mV 15 1,
 mV 16 2,
 C 17 b1J [(tm 14), (tm 15), (tm 16)],
 mV 13 17,
 eX 18 0 13,
 eX 19 1 13,
 mV 8 18,
 mV 9 19]
def d1Z : List CO := [
  mV 20 9,
 O 21 (.ne (B .neq i6) (tm 20) (.cst (iv 0)))]
def f8m : List CO := [
  mV 22 9,
 O 6 (.mv (.cst (tv []))),
 mV 7 22]
def d06 : List CO := [
  mV 24 8,
 O 25 (.b2s (tm 24)),
 C 26 b1z [(tm 25), (.cst (tv [0]))],
 mV 23 26,
 eX 27 0 23,
 eX 28 1 23,
 eX 29 2 23,
 mV 10 27,
 mV 11 28,
 mV 12 29]
def d9S : List CO := [
  mV 30 11,
 C 31 b1Y [(tm 30), (.cst (tv [0]))],
 O 32 (.ne (B .neq E4) (tm 31) (.cst (tv [])))]
def f8g : List CO := [
  O 6 (.mv (.cst (tv []))),
 O 7 (.mv (.cst (iv 4)))]
def d5y : List CO := [
  mV 33 10,
 mV 6 33,
 O 7 (.mv (.cst (iv 0)))]
def d9u : List CO := [
  O 4 (.box y6 (tm 0)),
 O 8 (.alloc y6 2 [(iv 0), (tv [])]),
 O 9 (.mv (.cst (iv 0)))]
def e4L : List CO := [
  mV 11 3,
 O 12 (.ne (B .neq i6) (tm 11) (.cst (iv 0))),
 mV 13 12,
 G 14 13 false (.mv (tm 1)),
 G 15 13 false (.mv (tm 2)),
 .call (some (pth 16)) (some (pth 13, false)) (.cst (.func a5E [])) [(tm 14), (tm 15)],
 G 17 13 false (.un .not (tm 16)),
 O 18 (.pick (tm 13) (.cst (.b true)) (tm 17))]
def f9q : List CO := [
  O 10 (.alloc y6 2 [(iv 0), (tv [])])]
def f9H : List CO := [
  O 19 (.loadN 2 (tm 10)),
 .op none none (.store 2 (tm 8) (tm 19)),
 O 9 (.mv (.cst (iv 4)))]
def d4D : List CO := [
  O 20 (.loadN 2 (tm 4)),
 .op none none (.store 2 (tm 8) (tm 20)),
 O 9 (.mv (.cst (iv 0)))]
def b5F : List CO := [
  O 6 (.mv (.cst (iv 0))),
 O 7 (.mv (.cst (iv 0)))]
def b5v : List CO := [
  mV 14 0,
 mV 15 1,
 mV 16 2,
 C 17 a5L [(tm 14), (tm 15), (tm 16)],
 mV 13 17,
 eX 18 0 13,
 eX 19 1 13,
 mV 8 18,
 mV 9 19]
def b5p : List CO := [
  O 10 (.alloc b0 1 [(iv 0)]),
 .op none none (.store 1 (tm 10) (.cst (iv 0)))]
def b5t : List CO := [
  mV 20 8,
 C 21 b1Z [(tm 20)]]
def a3F : List CO := [
  mV 12 23]
def a7p : List CO := [
  lD 24 10,
 O 25 (.slow (B .shl b0) (tm 24) (.cst (.p (.int .u64 (8))))),
 mV 26 12,
 O 27 (.convI .i64 (tm 26)),
 O 28 (.slow (B .or b0) (tm 25) (tm 27)),
 .op none none (.store 1 (tm 10) (tm 28))]
def b5y : List CO := [
  lD 29 10,
 mV 30 9,
 mV 6 29,
 mV 7 30]
def d7N : List CO := [
  fA 5 0 1,
 lD 6 5,
 lD 7 2,
 lD 8 3,
 O 9 (.len false (tm 8)),
 mV 10 0,
 C 11 a0t [(tm 6), (tm 7), (tm 9), (tm 10)]]
def d5G : List CO := [
  O 8 (.mv (.cst (iv 0))),
 O 9 (.mv (.cst (.b false))),
 O 10 (.mv (.cst (iv 0)))]
def d3y : List CO := [
  mV 15 0,
 O 16 (.eqp false (B .eql C6) (tm 15) (.cst l9))]
def f8G : List CO := [
  O 8 (.mv (.cst (iv 0))),
 O 9 (.mv (.cst (.b false))),
 O 10 (.mv (.cst (iv 1)))]
def d09 : List CO := [
  mV 18 0,
 nL 19 18,
 fA 20 1 19,
 O 21 (.loadN 12 (tm 20)),
 mV 22 3,
 C 23 a58 [(tm 21), (tm 22)],
 mV 17 23,
 eX 24 0 17,
 eX 25 1 17,
 mV 11 24,
 mV 10 25]
def d6B : List CO := [
  mV 26 10,
 O 27 (.ne (B .neq i6) (tm 26) (.cst (iv 0)))]
def f7F : List CO := [
  mV 28 10,
 O 8 (.mv (.cst (iv 0))),
 O 9 (.mv (.cst (.b false))),
 mV 10 28]
def d3Q : List CO := [
  mV 29 2,
 O 30 (.build [(iv 0), (iv 0), (iv 0)] [(0, 1, (tm 29))]),
 O 12 (.alloc B7 3 [(iv 0), (iv 0), (iv 0)]),
 .op none none (.store 3 (tm 12) (tm 30))]
def d7o : List CO := [
  mV 31 11,
 O 32 (.len false (tm 31)),
 O 33 (.mv (.cst (iv 0)))]
def a5j : List CO := [
  O 34 (.lt (B .lss b0) (tm 33) (tm 32))]
def b0P : List CO := [
  mV 35 33,
 O 36 (.iaS 1 (tm 31) (tm 33)),
 lD 37 36,
 mV 13 35,
 mV 14 37]
def a86 : List CO := [
  mV 38 14,
 fA 39 2 12,
 .op none none (.store 1 (tm 39) (tm 38))]
def a9l : List CO := [
  mV 40 9,
 mV 41 40,
 G 42 41 true (.mv (tm 13)),
 G 43 41 true (.gt (B .gtr b0) (tm 42) (.cst (iv 0))),
 O 44 (.pick (tm 41) (tm 43) (.cst (.b false)))]
def c7V : List CO := [
  mV 45 1,
 fA 46 1 12,
 lD 47 46,
 mV 48 0,
 nL 49 48,
 fA 50 1 49,
 fA 51 0 50,
 lD 52 51,
 O 53 (.mksl j7 1 1 [(.y 0)] (tm 52) (tm 52)),
 C 54 a0y [(tm 45), (tm 47), (tm 53)],
 mV 10 54]
def c6U : List CO := [
  mV 55 10,
 O 56 (.ne (B .neq i6) (tm 55) (.cst (iv 0)))]
def f6G : List CO := [
  mV 57 10,
 O 8 (.mv (.cst (iv 0))),
 O 9 (.mv (.cst (.b false))),
 mV 10 57]
def a4r : List CO := [
  mV 59 0,
 mV 60 1,
 O 61 (.loadN 3 (tm 12)),
 C 62 W8 [(tm 59), (tm 60), (tm 61)],
 mV 58 62,
 eX 63 0 58,
 eX 64 1 58,
 mV 8 63,
 mV 10 64]
def a38 : List CO := [
  mV 65 10,
 O 66 (.ne (B .neq i6) (tm 65) (.cst (iv 0)))]
def f5W : List CO := [
  mV 67 10,
 O 8 (.mv (.cst (iv 0))),
 O 9 (.mv (.cst (.b false))),
 mV 10 67]
def a3Z : List CO := [
  mV 68 8,
 O 69 (.eq (B .eql b0) (tm 68) (.cst (iv 0))),
 mV 9 69]
def a4b : List CO := [
  mV 70 9]
def a9q : List CO := [
  mV 72 0,
 nL 73 72,
 fA 74 0 73,
 lD 75 74,
 mV 76 1,
 C 77 a5J [(tm 75), (tm 76)],
 mV 71 77,
 eX 78 0 71,
 eX 79 1 71,
 mV 8 78,
 mV 10 79]
def a8H : List CO := [
  mV 80 10,
 O 81 (.ne (B .neq i6) (tm 80) (.cst (iv 0)))]
def c9k : List CO := [
  mV 82 10,
 O 8 (.mv (.cst (iv 0))),
 O 9 (.mv (.cst (.b false))),
 mV 10 82]
def c6m : List CO := [
  mV 83 0,
 mV 84 1,
 O 85 (.loadN 3 (tm 12)),
 mV 86 8,
 C 87 W6 [(tm 83), (tm 84), (tm 85), (tm 86)],
 mV 10 87]
def c54 : List CO := [
  mV 88 10,
 O 89 (.ne (B .neq i6) (tm 88) (.cst (iv 0)))]
def f6J : List CO := [
  mV 90 10,
 O 8 (.mv (.cst (iv 0))),
 O 9 (.mv (.cst (.b false))),
 mV 10 90]
def a9v : List CO := [
  mV 91 8,
 fA 92 1 12,
 .op none none (.store 1 (tm 92) (tm 91))]
def a8P : List CO := [
  O 93 (.add (B .add b0) (tm 33) (.cst (iv 1))),
 mV 33 93]
def c4j : List CO := [
  mV 94 8,
 mV 95 9,
 mV 8 94,
 mV 9 95,
 O 10 (.mv (.cst (iv 0)))]
def b0i : List CO := [
  O 6 (.mv (.cst (iv 0)))]
def a9J : List CO := [
  mV 7 0,
 nL 8 7,
 fA 9 15 8,
 fA 10 0 9,
 lD 11 10,
 O 12 (.eq (B .eql b0) (tm 11) (.cst (iv 2)))]
def e2c : List CO := [
  mV 13 0,
 nL 14 13,
 fA 15 0 14,
 lD 16 15,
 mV 17 1,
 mV 18 2,
 C 19 a0y [(tm 16), (tm 17), (tm 18)],
 mV 6 19]
def d0S : List CO := [
  mV 20 0,
 nL 21 20,
 fA 22 0 21,
 lD 23 22,
 mV 24 1,
 mV 25 2,
 C 26 b1M [(tm 23), (tm 24), (tm 25)],
 mV 6 26]
def b1s : List CO := [
  O 8 (.mv (.cst (iv 0)))]
def b04 : List CO := [
  mV 12 1,
 mV 13 0,
 mV 14 2,
 C 15 I9 [(tm 12), (tm 13), (tm 14)],
 mV 11 15,
 eX 16 0 11,
 eX 17 1 11,
 O 9 (.alloc s9 13 [(iv 0), (iv 0), (iv 0), (iv 0), (iv 0), (iv 0), (iv 0), (iv 0), (iv 0), (iv 0), (iv 0), (iv 0), (iv 0)]),
 .op none none (.store 13 (tm 9) (tm 16)),
 mV 10 17]
def b0l : List CO := [
  mV 18 10,
 O 19 (.ne (B .neq i6) (tm 18) (.cst (iv 0))),
 mV 20 19,
 G 21 20 false (.mv (tm 3)),
 G 22 20 false (.fa 2 (tm 9)),
 G 23 20 false (.load (tm 22)),
 G 24 20 false (.le (B .leq b0) (tm 21) (tm 23)),
 O 25 (.pick (tm 20) (.cst (.b true)) (tm 24))]
def d7z : List CO := [
  mV 26 10,
 mV 8 26]
def e29 : List CO := [
  mV 27 3,
 fA 28 2 9,
 .op none none (.store 1 (tm 28) (tm 27))]
def e1E : List CO := [
  mV 29 1,
 mV 30 0,
 mV 31 2,
 O 32 (.loadN 13 (tm 9)),
 C 33 a2I [(tm 29), (tm 30), (tm 31), (tm 32)],
 mV 8 33]
def a9G : List CO := [
  O 8 (.box B7 (tm 2)),
 O 12 (.mv (.cst (iv 0)))]
def b0s : List CO := [
  mV 20 0,
 mV 21 1,
 O 22 (.loadN 3 (tm 8)),
 C 23 W8 [(tm 20), (tm 21), (tm 22)],
 mV 19 23,
 eX 24 0 19,
 eX 25 1 19,
 mV 13 24,
 mV 14 25]
def a9T : List CO := [
  mV 26 14,
 O 27 (.ne (B .neq i6) (tm 26) (.cst (iv 0))),
 mV 28 27,
 G 29 28 false (.mv (tm 13)),
 G 30 28 false (.eq (B .eql b0) (tm 29) (.cst (iv 0))),
 O 31 (.pick (tm 28) (.cst (.b true)) (tm 30))]
def d5j : List CO := [
  mV 32 14,
 mV 12 32]
def d9q : List CO := [
  O 15 (.mv (.cst (iv 1)))]
def d4C : List CO := [
  mV 33 5,
 O 34 (.mv (.cst (iv 0)))]
def a2x : List CO := [
  O 35 (.lt (B .lss b0) (tm 34) (tm 33))]
def d57 : List CO := [
  mV 36 15,
 mV 37 0,
 nL 38 37,
 fA 39 13 38,
 lD 40 39,
 O 41 (.mul (B .mul b0) (tm 36) (tm 40)),
 mV 15 41]
def d7G : List CO := [
  O 42 (.add (B .add b0) (tm 34) (.cst (iv 1))),
 mV 34 42]
def a5k : List CO := [
  mV 43 3,
 mV 44 15,
 O 45 (.add (B .add b0) (tm 43) (tm 44)),
 mV 46 4,
 O 47 (.le (B .leq b0) (tm 45) (tm 46))]
def c4N : List CO := [
  O 12 (.mv (.cst (iv 0)))]
def a9c : List CO := [
  mV 48 5,
 O 49 (.gt (B .gtr b0) (tm 48) (.cst (iv 0)))]
def c39 : List CO := [
  mV 50 0,
 nL 51 50,
 fA 52 13 51,
 lD 53 52,
 O 54 (.mv (.cst (iv 0)))]
def a4p : List CO := [
  O 55 (.lt (B .lss b0) (tm 54) (tm 53))]
def b9p : List CO := [
  mV 56 54,
 mV 16 56]
def c2g : List CO := [
  mV 57 0,
 mV 58 1,
 fA 59 0 8,
 lD 60 59,
 mV 61 13,
 mV 62 16,
 O 63 (.build [(iv 0), (iv 0), (iv 0)] [(0, 1, (tm 60)), (1, 1, (tm 61)), (2, 1, (tm 62))]),
 mV 64 3,
 mV 65 16,
 mV 66 15,
 O 67 (.mul (B .mul b0) (tm 65) (tm 66)),
 mV 68 0,
 nL 69 68,
 fA 70 13 69,
 lD 71 70,
 O 72 (.quo (B .quo b0) (tm 67) (tm 71)),
 O 73 (.add (B .add b0) (tm 64) (tm 72)),
 mV 74 4,
 mV 75 5,
 O 76 (.sub (B .sub b0) (tm 75) (.cst (iv 1))),
 C 77 N6 [(tm 57), (tm 58), (tm 63), (tm 73), (tm 74), (tm 76)],
 mV 17 77]
def c67 : List CO := [
  mV 78 17,
 O 79 (.ne (B .neq i6) (tm 78) (.cst (iv 0)))]
def f6e : List CO := [
  mV 80 17,
 mV 12 80]
def c8g : List CO := [
  O 81 (.add (B .add b0) (tm 54) (.cst (iv 1))),
 mV 54 81]
def a4i : List CO := [
  mV 82 3,
 mV 83 4,
 O 84 (.lt (B .lss b0) (tm 82) (tm 83))]
def c8d : List CO := [
  O 12 (.mv (.cst (iv 0)))]
def a8J : List CO := [
  mV 85 0,
 mV 86 1,
 O 87 (.loadN 3 (tm 8)),
 C 88 W6 [(tm 85), (tm 86), (tm 87), (.cst (iv 0))],
 mV 18 88]
def a87 : List CO := [
  mV 89 18,
 O 90 (.ne (B .neq i6) (tm 89) (.cst (iv 0)))]
def f5z : List CO := [
  mV 91 18,
 mV 12 91]
def a9b : List CO := [
  mV 92 0,
 nL 93 92,
 fA 94 0 93,
 lD 95 94,
 mV 96 1,
 mV 97 13,
 C 98 a50 [(tm 95), (tm 96), (tm 97)],
 mV 12 98]
def e5i : List CO := [
  O 2 (.mv (.cst (iv 0)))]
def d4c : List CO := [
  mV 4 0,
 O 5 (.eqp false (B .eql D7) (tm 4) (.cst l9)),
 mV 3 5]
def f7m : List CO := [
  O 2 (.mv (.cst (iv 1)))]
def e2E : List CO := [
  mV 7 0,
 nL 8 7,
 fA 9 0 8,
 lD 10 9,
 nL 11 10,
 fA 12 17 11,
 lD 13 12,
 mV 14 0,
 O 15 (.eqp true (B .neq D7) (tm 13) (tm 14)),
 mV 6 15]
def f8B : List CO := [
  O 2 (.mv (.cst (iv 22)))]
def d5q : List CO := [
  O 2 (.mv (.cst (iv 0)))]
def d0B : List CO := [
  O 4 (.mv (.cst i7)),
 O 5 (.mv (.cst (iv 0)))]
def e2a : List CO := [
  mV 11 0,
 O 12 (.eqp false (B .eql a6D) (tm 11) (.cst l9)),
 mV 10 12]
def f70 : List CO := [
  O 4 (.mv (.cst i7)),
 O 5 (.mv (.cst (iv 1)))]
def e5h : List CO := [
  mV 14 1,
 O 15 (.lt (B .lss b0) (tm 14) (.cst (iv 0))),
 mV 16 15,
 G 17 16 false (.mv (tm 1)),
 G 18 16 false (.mv (tm 0)),
 G 19 16 false (.nil (tm 18)),
 G 20 16 false (.fa 3 (tm 19)),
 G 21 16 false (.fa 1 (tm 20)),
 G 22 16 false (.load (tm 21)),
 G 23 16 false (.ge (B .geq b0) (tm 17) (tm 22)),
 O 24 (.pick (tm 16) (.cst (.b true)) (tm 23)),
 mV 13 24]
def f7X : List CO := [
  O 4 (.mv (.cst i7)),
 O 5 (.mv (.cst (iv 2)))]
def d43 : List CO := [
  mV 26 0,
 nL 27 26,
 fA 28 15 27,
 lD 29 28,
 mV 30 1,
 O 31 (.look (some .i64) i7 true (tm 29) (tm 30)),
 mV 25 31,
 eX 32 0 25,
 eX 33 1 25,
 mV 6 32,
 mV 7 33]
def e2A : List CO := [
  mV 34 7]
def d1i : List CO := [
  mV 35 6,
 C 36 X5 [(tm 35)],
 mV 4 36,
 O 5 (.mv (.cst (iv 0)))]
def f7y : List CO := [
  mV 38 0,
 mV 39 1,
 C 40 a51 [(tm 38), (tm 39)],
 mV 37 40,
 eX 41 0 37,
 eX 42 1 37,
 mV 8 41,
 mV 9 42]
def f78 : List CO := [
  mV 43 9]
def f5J : List CO := [
  mV 44 8,
 mV 4 44,
 O 5 (.mv (.cst (iv 0)))]
def f6M : List CO := [
  mV 45 0,
 nL 46 45,
 fA 47 2 46,
 lD 48 47,
 mV 49 1,
 C 50 f2H [(tm 48), (tm 49)],
 eX 51 0 50,
 eX 52 1 50,
 mV 4 51,
 mV 5 52]
def d6s : List CO := [
  O 4 (.mv (.cst (.b false)))]
def d4x : List CO := [
  mV 5 0,
 O 6 (.b2s (tm 5)),
 mV 7 1,
 O 8 (.b2s (tm 7)),
 O 9 (.eq (B .eql E4) (tm 6) (tm 8)),
 mV 4 9]
def b0r : List CO := [
  O 8 (.mv (.cst i7)),
 O 9 (.mv (.cst (iv 0)))]
def b0Q : List CO := [
  mV 15 0,
 mV 16 1,
 mV 17 2,
 C 18 a5L [(tm 15), (tm 16), (tm 17)],
 mV 14 18,
 eX 19 0 14,
 eX 20 1 14,
 mV 10 19,
 mV 11 20]
def a92 : List CO := [
  mV 21 11,
 O 22 (.ne (B .neq i6) (tm 21) (.cst (iv 0)))]
def f9w : List CO := [
  mV 23 11,
 O 8 (.mv (.cst i7)),
 mV 9 23]
def b02 : List CO := [
  mV 24 3,
 O 25 (.lt (B .lss b0) (tm 24) (.cst (iv 0))),
 mV 26 25,
 G 27 26 false (.mv (tm 3)),
 G 28 26 false (.mv (tm 2)),
 G 29 26 false (.mul (B .mul b0) (.cst (iv 8)) (tm 28)),
 G 30 26 false (.slow (B .shr b0) (tm 27) (tm 29)),
 G 31 26 false (.ne (B .neq b0) (tm 30) (.cst (iv 0))),
 O 32 (.pick (tm 26) (.cst (.b true)) (tm 31))]
def f9o : List CO := [
  O 8 (.mv (.cst i7)),
 O 9 (.mv (.cst (iv 3)))]
def b0u : List CO := [
  mV 33 0,
 C 34 X5 [(tm 33)],
 mV 12 34]
def b1n : List CO := [
  mV 35 2,
 O 36 (.mv (.cst (iv 0)))]
def a0Y : List CO := [
  O 37 (.lt (B .lss b0) (tm 36) (tm 35))]
def a5o : List CO := [
  mV 38 36,
 mV 13 38]
def a4d : List CO := [
  mV 39 12,
 mV 40 1,
 mV 41 13,
 O 42 (.add (B .add b0) (tm 40) (tm 41)),
 mV 43 3,
 mV 44 13,
 O 45 (.mul (B .mul b0) (.cst (iv 8)) (tm 44)),
 O 46 (.slow (B .shr b0) (tm 43) (tm 45)),
 O 47 (.convI .u8 (tm 46)),
 O 48 (.iaS 1 (tm 39) (tm 42)),
 .op none none (.store 1 (tm 48) (tm 47))]
def a4c : List CO := [
  O 49 (.add (B .add b0) (tm 36) (.cst (iv 1))),
 mV 36 49]
def a8E : List CO := [
  mV 50 12,
 mV 8 50,
 O 9 (.mv (.cst (iv 0)))]
def d2j : List CO := [
  mV 4 0,
 nL 5 4,
 fA 6 1 5,
 lD 7 6,
 mV 8 1,
 .op none none (.mdel (some .i64) (tm 7) (tm 8))]
def e2P : List CO := [
  mV 9 0,
 nL 10 9,
 fA 11 2 10,
 lD 12 11,
 mV 13 1,
 .op none none (.mdel (some .i64) (tm 12) (tm 13))]
def e5p : List CO := [
  mV 14 0,
 nL 15 14,
 fA 16 3 15,
 lD 17 16,
 mV 18 1,
 .op none none (.mdel (some .i64) (tm 17) (tm 18))]
def e45 : List CO := [
  O 4 (.mv (.cst (iv 0)))]
def d9N : List CO := [
  mV 5 0,
 mV 6 1,
 C 7 a5M [(tm 5), (tm 6), (.cst (.b true))],
 mV 4 7]
def a5m : List CO := [
  O 2 (.box x6 (tm 0)),
 O 4 (.mv (.cst i7)),
 O 5 (.mv (.cst (iv 0)))]
def a4H : List CO := [
  O 11 (.loadN 12 (tm 2)),
 C 12 T0 [(tm 11)],
 mV 10 12,
 eX 13 0 10,
 eX 14 1 10,
 mV 6 13,
 mV 7 14]
def a4K : List CO := [
  mV 15 7,
 O 16 (.ne (B .neq i6) (tm 15) (.cst (iv 0)))]
def f8c : List CO := [
  mV 17 7,
 O 4 (.mv (.cst i7)),
 mV 5 17]
def a4B : List CO := [
  mV 18 1,
 mV 19 6,
 O 20 (.sub (B .sub b0) (tm 19) (.cst (iv 1))),
 fA 21 0 2,
 lD 22 21,
 O 23 (.quo (B .quo b0) (tm 20) (tm 22)),
 C 24 b19 [(tm 18), (.cst (iv 0)), (tm 23)],
 O 25 (.un .not (tm 24))]
def f8P : List CO := [
  O 4 (.mv (.cst i7)),
 O 5 (.mv (.cst (iv 2)))]
def a4J : List CO := [
  fA 26 0 2,
 lD 27 26,
 O 28 (.quo (B .quo b0) (tm 27) (.cst (iv 2))),
 mV 8 28]
def a5d : List CO := [
  mV 29 1,
 O 30 (.sub (B .sub b0) (tm 29) (.cst (iv 8))),
 mV 9 30]
def a4u : List CO := [
  mV 42 9,
 O 43 (.lt (B .lss b0) (tm 42) (.cst (iv 0))),
 mV 41 43]
def c2S : List CO := [
  mV 44 1,
 O 45 (.bslice b0 1 1 [(iv 0)] [(0, 1, (tm 44))]),
 mV 4 45,
 O 5 (.mv (.cst (iv 0)))]
def a9s : List CO := [
  mV 47 9,
 mV 48 8,
 O 49 (.lt (B .lss b0) (tm 47) (tm 48)),
 mV 46 49]
def c8G : List CO := [
  mV 50 9,
 O 51 (.bslice b0 2 2 [(iv 0)] [(0, 1, (.cst (iv 8))), (1, 1, (tm 50))]),
 mV 4 51,
 O 5 (.mv (.cst (iv 0)))]
def e2K : List CO := [
  mV 31 9,
 mV 32 8,
 O 33 (.sub (B .sub b0) (tm 31) (tm 32)),
 mV 9 33]
def d2y : List CO := [
  mV 34 9,
 mV 35 8,
 O 36 (.quo (B .quo b0) (tm 34) (tm 35)),
 mV 37 9,
 mV 38 8,
 O 39 (.rem (B .rem b0) (tm 37) (tm 38)),
 O 40 (.bslice b0 3 3 [(iv 0)] [(0, 1, (.cst (iv 9))), (1, 1, (tm 36)), (2, 1, (tm 39))]),
 mV 4 40,
 O 5 (.mv (.cst (iv 0)))]
def d7n : List CO := [
  O 6 (.mv (.cst i7)),
 O 7 (.mv (.cst (iv 0)))]
def e4t : List CO := [
  mV 10 2,
 O 11 (.lt (B .lss b0) (tm 10) (.cst (iv 0)))]
def f9B : List CO := [
  O 6 (.mv (.cst i7)),
 O 7 (.mv (.cst (iv 1)))]
def d9E : List CO := [
  mV 13 0,
 mV 14 1,
 mV 15 2,
 C 16 a29 [(tm 13), (tm 14), (tm 15)],
 mV 12 16,
 eX 17 0 12,
 eX 18 1 12,
 mV 8 17,
 mV 9 18]
def d5H : List CO := [
  mV 19 9,
 O 20 (.un .not (tm 19))]
def f9r : List CO := [
  O 6 (.mv (.cst i7)),
 O 7 (.mv (.cst (iv 2)))]
def d6D : List CO := [
  mV 21 8,
 mV 6 21,
 O 7 (.mv (.cst (iv 0)))]
def d6n : List CO := [
  O 4 (.mv (.cst (tv []))),
 O 5 (.mv (.cst (tv []))),
 O 6 (.mv (.cst (.b false)))]
def e2n : List CO := [
  mV 7 0,
 mV 8 1,
 C 9 b1V [(tm 7), (tm 8)],
 eX 10 0 9,
 eX 11 1 9,
 eX 12 2 9,
 mV 4 10,
 mV 5 11,
 mV 6 12]
def a9M : List CO := [
  O 4 (.mv (.cst (tv [])))]
def b0z : List CO := [
  mV 7 0,
 O 8 (.eq (B .eql E4) (tm 7) (.cst (tv []))),
 mV 9 8,
 G 10 9 false (.mv (tm 1)),
 G 11 9 false (.eq (B .eql E4) (tm 10) (.cst (tv []))),
 O 12 (.pick (tm 9) (.cst (.b true)) (tm 11))]
def d8d : List CO := [
  mV 13 0,
 mV 4 13]
def d2e : List CO := [
  mV 14 1,
 O 15 (.len true (tm 14)),
 O 16 (.eq (B .eql b0) (tm 15) (.cst (iv 1))),
 mV 17 16,
 G 18 17 true (.mv (tm 1)),
 G 19 17 true (.ixS (tm 18) (.cst (iv 0))),
 G 20 17 true (.lt (B .lss j7) (tm 19) (.cst (.y 128))),
 O 21 (.pick (tm 17) (tm 20) (.cst (.b false)))]
def e5z : List CO := [
  mV 22 0,
 mV 23 1,
 O 24 (.ixS (tm 23) (.cst (iv 0))),
 C 25 b2d [(tm 22), (tm 24)],
 mV 26 1,
 O 27 (.ixS (tm 26) (.cst (iv 0))),
 C 28 b1W [(tm 25), (tm 27)],
 mV 4 28]
def f9I : List CO := [
  mV 30 1,
 C 31 e9h [(tm 30)],
 mV 29 31,
 eX 32 0 29,
 eX 33 1 29,
 O 5 (.alloc e9k 256 [(.b false), (.b false), (.b false), (.b false), (.b false), (.b false), (.b false), (.b false), (.b false), (.b false), (.b false), (.b false), (.b false), (.b false), (.b false), (.b false), (.b false), (.b false), (.b false), (.b false), (.b false), (.b false), (.b false), (.b false), (.b false), (.b false), (.b false), (.b false), (.b false), (.b false), (.b false), (.b false), (.b false), (.b false), (.b false), (.b false), (.b false), (.b false), (.b false), (.b false), (.b false), (.b false), (.b false), (.b false), (.b false), (.b false), (.b false), (.b false), (.b false), (.b false), (.b false), (.b false), (.b false), (.b false), (.b false), (.b false), (.b false), (.b false), (.b false), (.b false), (.b false), (.b false), (.b false), (.b false), (.b false), (.b false), (.b false), (.b false), (.b false), (.b false), (.b false), (.b false), (.b false), (.b false), (.b false), (.b false), (.b false), (.b false), (.b false), (.b false), (.b false), (.b false), (.b false), (.b false), (.b false), (.b false), (.b false), (.b false), (.b false), (.b false), (.b false), (.b false), (.b false), (.b false), (.b false), (.b false), (.b false), (.b false), (.b false), (.b false), (.b false), (.b false), (.b false), (.b false), (.b false), (.b false), (.b false), (.b false), (.b false), (.b false), (.b false), (.b false), (.b false), (.b false), (.b false), (.b false), (.b false), (.b false), (.b false), (.b false), (.b false), (.b false), (.b false), (.b false), (.b false), (.b false), (.b false), (.b false), (.b false), (.b false), (.b false), (.b false), (.b false), (.b false), (.b false), (.b false), (.b false), (.b false), (.b false), (.b false), (.b false), (.b false), (.b false), (.b false), (.b false), (.b false), (.b false), (.b false), (.b false), (.b false), (.b false), (.b false), (.b false), (.b false), (.b false), (.b false), (.b false), (.b false), (.b false), (.b false), (.b false), (.b false), (.b false), (.b false), (.b false), (.b false), (.b false), (.b false), (.b false), (.b false), (.b false), (.b false), (.b false), (.b false), (.b false), (.b false), (.b false), (.b false), (.b false), (.b false), (.b false), (.b false), (.b false), (.b false), (.b false), (.b false), (.b false), (.b false), (.b false), (.b false), (.b false), (.b false), (.b false), (.b false), (.b false), (.b false), (.b false), (.b false), (.b false), (.b false), (.b false), (.b false), (.b false), (.b false), (.b false), (.b false), (.b false), (.b false), (.b false), (.b false), (.b false), (.b false), (.b false), (.b false), (.b false), (.b false), (.b false), (.b false), (.b false), (.b false), (.b false), (.b false), (.b false), (.b false), (.b false), (.b false), (.b false), (.b false), (.b false), (.b false), (.b false), (.b false), (.b false), (.b false), (.b false), (.b false), (.b false), (.b false), (.b false), (.b false), (.b false), (.b false), (.b false), (.b false), (.b false), (.b false), (.b false), (.b false), (.b false), (.b false), (.b false), (.b false), (.b false), (.b false), (.b false), (.b false)]),
 .op none none (.store 256 (tm 5) (tm 32)),
 mV 6 33]
def f7H : List CO := [
  mV 34 6]
def f7Q : List CO := [
  mV 35 0,
 C 36 e9f [(tm 35), (tm 5)],
 C 37 e9g [(tm 36), (tm 5)],
 mV 4 37]
def f81 : List CO := [
  mV 38 0,
 mV 39 1,
 C 40 e9c [(tm 38), (tm 39)],
 mV 41 1,
 C 42 e9e [(tm 40), (tm 41)],
 mV 4 42]
def a4T : List CO := [
  O 6 (.mv (.cst i7)),
 O 7 (.mv (.cst (iv 0)))]
def a5u : List CO := [
  mV 10 2]
def a4E : List CO := [
  O 12 (.eq (B .eql b0) (tm 10) (.cst (iv 1))),
 mV 11 12]
def b0A : List CO := [
  O 13 (.eq (B .eql b0) (tm 10) (.cst (iv 2))),
 mV 11 13]
def d3f : List CO := [
  O 14 (.eq (B .eql b0) (tm 10) (.cst (iv 4))),
 mV 11 14]
def a5A : List CO := [
  mV 16 0,
 mV 17 1,
 mV 18 2,
 C 19 a29 [(tm 16), (tm 17), (tm 18)],
 mV 15 19,
 eX 20 0 15,
 eX 21 1 15,
 mV 8 20,
 mV 9 21]
def a5c : List CO := [
  mV 22 9,
 O 23 (.un .not (tm 22))]
def f9D : List CO := [
  O 6 (.mv (.cst i7)),
 O 7 (.mv (.cst (iv 2)))]
def a5h : List CO := [
  mV 24 8,
 mV 6 24,
 O 7 (.mv (.cst (iv 0)))]
def f8L : List CO := [
  O 6 (.mv (.cst i7)),
 O 7 (.mv (.cst (iv 1)))]
def d6P : List CO := [
  O 1 (.box B3 (tm 0)),
 O 2 (.mv (.cst a3g))]
def d4L : List CO := [
  O 3 (.fn a1g [(tm 1)]),
 mV 2 3]
def a9z : List CO := [
  O 4 (.mv (.cst (iv 0))),
 O 5 (.mv (.cst (iv 0)))]
def a9O : List CO := [
  mV 6 0,
 O 7 (.eqp false (B .eql a6F) (tm 6) (.cst l9))]
def f8V : List CO := [
  O 4 (.mv (.cst (iv 0))),
 O 5 (.mv (.cst (iv 1)))]
def b0G : List CO := [
  mV 8 0,
 nL 9 8,
 fA 10 13 9,
 O 11 (.loadN 2 (tm 10)),
 mV 12 1,
 mV 13 0,
 nL 14 13,
 fA 15 1 14,
 fA 16 11 15,
 lD 17 16,
 mV 18 0,
 nL 19 18,
 fA 20 1 19,
 fA 21 1 20,
 lD 22 21,
 mV 23 0,
 nL 24 23,
 fA 25 0 24,
 lD 26 25,
 O 27 (.bfn a3d [(tm 26)]),
 C 28 b18 [(tm 11), (tm 12), (tm 17), (tm 22), (tm 27)],
 eX 29 0 28,
 eX 30 1 28,
 mV 4 29,
 mV 5 30]
def b0n : List CO := [
  O 6 (.box B7 (tm 2)),
 O 8 (.mv (.cst (iv 0)))]
def b1g : List CO := [
  fA 13 1 6,
 lD 14 13,
 O 15 (.eq (B .eql b0) (tm 14) (.cst (iv 0)))]
def d5I : List CO := [
  mV 17 0,
 mV 18 1,
 fA 19 0 6,
 lD 20 19,
 C 21 I9 [(tm 17), (tm 18), (tm 20)],
 mV 16 21,
 eX 22 0 16,
 eX 23 1 16,
 O 9 (.alloc s9 13 [(iv 0), (iv 0), (iv 0), (iv 0), (iv 0), (iv 0), (iv 0), (iv 0), (iv 0), (iv 0), (iv 0), (iv 0), (iv 0)]),
 .op none none (.store 13 (tm 9) (tm 22)),
 mV 10 23]
def d9Y : List CO := [
  mV 24 10,
 O 25 (.ne (B .neq i6) (tm 24) (.cst (iv 0)))]
def f8O : List CO := [
  mV 26 10,
 mV 8 26]
def e3a : List CO := [
  fA 27 2 6,
 lD 28 27,
 C 29 a2Q [(tm 9), (tm 28)],
 mV 30 3,
 nL 31 29,
 .op none none (.store 1 (tm 31) (tm 30))]
def d7Y : List CO := [
  mV 32 0,
 mV 33 1,
 fA 34 0 6,
 lD 35 34,
 O 36 (.loadN 13 (tm 9)),
 C 37 a2I [(tm 32), (tm 33), (tm 35), (tm 36)],
 mV 8 37]
def d3t : List CO := [
  mV 39 1,
 fA 40 1 6,
 lD 41 40,
 C 42 K8 [(tm 39), (tm 41)],
 mV 38 42,
 eX 43 0 38,
 eX 44 1 38,
 mV 11 43,
 mV 12 44]
def e1a : List CO := [
  mV 45 12,
 O 46 (.ne (B .neq i6) (tm 45) (.cst (iv 0)))]
def f8I : List CO := [
  mV 47 12,
 mV 8 47]
def c8L : List CO := [
  mV 49 11,
 fA 50 2 6,
 lD 51 50,
 O 52 (.mul (B .mul b0) (.cst (iv 2)) (tm 51)),
 mV 53 3,
 C 54 a1t [(tm 49), (tm 52), (.cst (iv 2)), (tm 53)],
 mV 48 54,
 eX 55 0 48,
 eX 56 1 48,
 mV 11 55,
 mV 12 56]
def c4d : List CO := [
  mV 57 12,
 O 58 (.ne (B .neq i6) (tm 57) (.cst (iv 0)))]
def f5q : List CO := [
  mV 59 12,
 mV 8 59]
def c5w : List CO := [
  mV 60 1,
 fA 61 1 6,
 lD 62 61,
 mV 63 11,
 C 64 a0y [(tm 60), (tm 62), (tm 63)],
 mV 8 64]
def d18 : List CO := [
  O 6 (.mv (.cst (iv 0)))]
def e4w : List CO := [
  mV 7 0,
 mV 8 1,
 mV 9 2,
 C 10 X6 [(tm 7), (.cst (.func W3 [])), (.cst (.func X2 [])), (tm 8), (tm 9)],
 mV 6 10]
def d55 : List CO := [
  O 6 (.mv (.cst (iv 0)))]
def d0M : List CO := [
  mV 9 0,
 O 10 (.eqp false (B .eql a6F) (tm 9) (.cst l9)),
 mV 8 10]
def f7t : List CO := [
  O 6 (.mv (.cst (iv 1)))]
def e3Z : List CO := [
  mV 12 2,
 mV 13 0,
 nL 14 13,
 fA 15 1 14,
 fA 16 11 15,
 lD 17 16,
 O 18 (.lt (B .lss b0) (tm 12) (tm 17)),
 mV 19 18,
 G 20 19 false (.mv (tm 2)),
 G 21 19 false (.mv (tm 0)),
 G 22 19 false (.nil (tm 21)),
 G 23 19 false (.fa 1 (tm 22)),
 G 24 19 false (.fa 1 (tm 23)),
 G 25 19 false (.load (tm 24)),
 G 26 19 false (.ge (B .geq b0) (tm 20) (tm 25)),
 O 27 (.pick (tm 19) (.cst (.b true)) (tm 26)),
 mV 11 27]
def f7Y : List CO := [
  O 6 (.mv (.cst (iv 2)))]
def d4m : List CO := [
  mV 28 0,
 nL 29 28,
 fA 30 13 29,
 O 31 (.loadN 2 (tm 30)),
 mV 32 1,
 mV 33 2,
 C 34 b1v [(tm 31), (tm 32), (tm 33)],
 mV 7 34]
def d81 : List CO := [
  mV 35 7,
 O 36 (.ne (B .neq i6) (tm 35) (.cst (iv 0)))]
def f9t : List CO := [
  mV 37 7,
 mV 6 37]
def e4k : List CO := [
  mV 38 1,
 mV 39 2,
 C 40 b1Q [(tm 38), (tm 39)],
 mV 6 40]
def d4p : List CO := [
  O 4 (.mv (.cst i7)),
 O 5 (.mv (.cst (.b false)))]
def e38 : List CO := [
  mV 8 0,
 nL 9 8,
 fA 10 1 9,
 lD 11 10,
 C 12 b1I [(tm 11)],
 O 13 (.len false (tm 12)),
 O 14 (.mv (.cst (iv 0)))]
def d5f : List CO := [
  O 15 (.lt (B .lss b0) (tm 14) (tm 13))]
def f9h : List CO := [
  O 16 (.iaS 2 (tm 12) (tm 14)),
 O 17 (.loadN 2 (tm 16)),
 O 7 (.alloc a7x 2 [(iv 0), i7]),
 .op none none (.store 2 (tm 7) (tm 17))]
def f88 : List CO := [
  fA 18 0 7,
 lD 19 18,
 mV 20 1,
 O 21 (.eq (B .eql b0) (tm 19) (tm 20))]
def f9J : List CO := [
  fA 22 1 7,
 lD 23 22,
 mV 4 23,
 O 5 (.mv (.cst (.b true)))]
def f8H : List CO := [
  O 24 (.add (B .add b0) (tm 14) (.cst (iv 1))),
 mV 14 24]
def d2O : List CO := [
  O 4 (.mv (.cst i7)),
 O 5 (.mv (.cst (.b false)))]
def d01 : List CO := [
  O 6 (.mv (.cst (iv 0)))]
def e2Z : List CO := [
  mV 9 0,
 O 10 (.rangeS (tm 9))]
def a9U : List CO := [
  O 11 (.nextS (tm 10)),
 eX 12 0 11]
def e0J : List CO := [
  eX 13 1 11,
 eX 14 2 11,
 mV 7 13,
 mV 8 14]
def d1J : List CO := [
  mV 15 1,
 mV 16 8,
 .call (some (pth 17)) none (tm 15) [(tm 16)],
 mV 18 2,
 O 19 (.eq (B .eql c5z) (tm 17) (tm 18))]
def f9d : List CO := [
  mV 20 7,
 mV 6 20]
def d3u : List CO := [
  O 6 (.mv (.cst (iv (-1))))]
def d3M : List CO := [
  O 6 (.mv (.cst i7)),
 O 7 (.mv (.cst (.b false)))]
def e0P : List CO := [
  mV 8 1,
 O 9 (.lt (B .lss b0) (tm 8) (.cst (iv 0))),
 mV 10 9,
 G 11 10 false (.mv (tm 2)),
 G 12 10 false (.lt (B .lss b0) (tm 11) (.cst (iv 0))),
 O 13 (.pick (tm 10) (.cst (.b true)) (tm 12)),
 mV 14 13,
 G 15 14 false (.mv (tm 1)),
 G 16 14 false (.mv (tm 0)),
 G 17 14 false (.len false (tm 16)),
 G 18 14 false (.gt (B .gtr b0) (tm 15) (tm 17)),
 O 19 (.pick (tm 14) (.cst (.b true)) (tm 18)),
 mV 20 19,
 G 21 20 false (.mv (tm 2)),
 G 22 20 false (.mv (tm 0)),
 G 23 20 false (.len false (tm 22)),
 G 24 20 false (.mv (tm 1)),
 G 25 20 false (.sub (B .sub b0) (tm 23) (tm 24)),
 G 26 20 false (.gt (B .gtr b0) (tm 21) (tm 25)),
 O 27 (.pick (tm 20) (.cst (.b true)) (tm 26))]
def f8s : List CO := [
  O 6 (.mv (.cst i7)),
 O 7 (.mv (.cst (.b false)))]
def d5N : List CO := [
  mV 28 0,
 mV 29 1,
 mV 30 1,
 mV 31 2,
 O 32 (.add (B .add b0) (tm 30) (tm 31)),
 O 33 (.sl 1 false (tm 28) (some (tm 29)) (some (tm 32)) none),
 mV 6 33,
 O 7 (.mv (.cst (.b true)))]
def b1r : List CO := [
  O 4 (.mv (.cst (tv []))),
 O 5 (.mv (.cst (tv []))),
 O 6 (.mv (.cst (.b false)))]
def b0a : List CO := [
  mV 8 0,
 mV 9 1,
 C 10 a2S [(tm 8), (tm 9)],
 mV 7 10]
def b1a : List CO := [
  mV 11 7,
 O 12 (.ge (B .geq b0) (tm 11) (.cst (iv 0)))]
def d9n : List CO := [
  mV 13 0,
 mV 14 7,
 O 15 (.sls (tm 13) none (some (tm 14))),
 mV 16 0,
 mV 17 7,
 mV 18 1,
 O 19 (.len true (tm 18)),
 O 20 (.add (B .add b0) (tm 17) (tm 19)),
 O 21 (.sls (tm 16) (some (tm 20)) none),
 mV 4 15,
 mV 5 21,
 O 6 (.mv (.cst (.b true)))]
def d27 : List CO := [
  mV 22 0,
 mV 4 22,
 O 5 (.mv (.cst (tv []))),
 O 6 (.mv (.cst (.b false)))]
def d1y : List CO := [
  O 4 (.mv (.cst (tv [])))]
def d2P : List CO := [
  mV 5 0,
 O 6 (.len true (tm 5)),
 O 7 (.gt (B .gtr b0) (tm 6) (.cst (iv 0))),
 mV 8 7,
 G 9 8 true (.mv (tm 0)),
 G 10 8 true (.ixS (tm 9) (.cst (iv 0))),
 G 11 8 true (.mv (tm 1)),
 G 12 8 true (.eq (B .eql j7) (tm 10) (tm 11)),
 O 13 (.pick (tm 8) (tm 12) (.cst (.b false)))]
def f79 : List CO := [
  mV 14 0,
 O 15 (.sls (tm 14) (some (.cst (iv 1))) none),
 mV 0 15]
def d1W : List CO := [
  mV 16 0,
 mV 4 16]
def d9e : List CO := [
  O 4 (.mv (.cst (tv [])))]
def b0F : List CO := [
  mV 5 0,
 O 6 (.len true (tm 5)),
 O 7 (.gt (B .gtr b0) (tm 6) (.cst (iv 0))),
 mV 8 7,
 G 9 8 true (.mv (tm 0)),
 G 10 8 true (.mv (tm 0)),
 G 11 8 true (.len true (tm 10)),
 G 12 8 true (.sub (B .sub b0) (tm 11) (.cst (iv 1))),
 G 13 8 true (.ixS (tm 9) (tm 12)),
 G 14 8 true (.mv (tm 1)),
 G 15 8 true (.eq (B .eql j7) (tm 13) (tm 14)),
 O 16 (.pick (tm 8) (tm 15) (.cst (.b false)))]
def e4d : List CO := [
  mV 17 0,
 mV 18 0,
 O 19 (.len true (tm 18)),
 O 20 (.sub (B .sub b0) (tm 19) (.cst (iv 1))),
 O 21 (.sls (tm 17) none (some (tm 20))),
 mV 0 21]
def d0z : List CO := [
  mV 22 0,
 mV 4 22]
def c99 : List CO := [
  lD 4 1,
 O 5 (.len false (tm 4)),
 O 6 (.sub (B .sub b0) (tm 5) (.cst (iv 1))),
 mV 3 6]
def b0K : List CO := [
  mV 7 3,
 O 8 (.ge (B .geq b0) (tm 7) (.cst (iv 0)))]
def e34 : List CO := [
  mV 11 0,
 mV 12 3,
 lD 13 1,
 mV 14 3,
 O 15 (.iaS 1 (tm 13) (tm 14)),
 lD 16 15,
 .call (some (pth 17)) none (tm 11) [(tm 12), (tm 16)],
 O 18 (.un .not (tm 17))]
def d2k : List CO := [
  mV 9 3,
 O 10 (.sub (B .sub b0) (tm 9) (.cst (iv 1))),
 mV 3 10]
def d5V : List CO := [
  O 5 (.box O7 (tm 0)),
 O 10 (.mv (.cst (iv 0))),
 O 11 (.mv (.cst (iv 0)))]
def a94 : List CO := [
  mV 14 2,
 mV 12 14,
 O 13 (.mv (.cst (iv 0)))]
def a4S : List CO := [
  O 16 (.loadN 2 (tm 5)),
 mV 17 1,
 mV 18 12,
 mV 19 3,
 C 20 b1P [(tm 16), (tm 17), (tm 18), (tm 19)],
 mV 15 20,
 eX 21 0 15,
 eX 22 1 15,
 mV 12 21,
 mV 13 22]
def a00 : List CO := [
  mV 24 13,
 O 25 (.ne (B .neq i6) (tm 24) (.cst (iv 0))),
 mV 23 25]
def b1q : List CO := [
  mV 26 13,
 O 10 (.mv (.cst (iv 0))),
 mV 11 26]
def a06 : List CO := [
  mV 28 12,
 mV 29 3,
 O 30 (.ge (B .geq b0) (tm 28) (tm 29)),
 mV 27 30]
def a5x : List CO := [
  O 10 (.mv (.cst (iv 0))),
 O 11 (.mv (.cst (iv 10)))]
def a2E : List CO := [
  mV 32 4,
 mV 33 12,
 .call (some (pth 34)) none (tm 32) [(tm 33)],
 mV 31 34]
def a4G : List CO := [
  mV 35 12,
 O 36 (.add (B .add b0) (tm 35) (.cst (iv 1))),
 mV 12 36]
def a5y : List CO := [
  O 37 (.loadN 2 (tm 5)),
 mV 38 1,
 mV 39 12,
 C 40 a5R [(tm 37), (tm 38), (tm 39), (.cst (.b true))],
 mV 13 40]
def a4q : List CO := [
  mV 41 13,
 O 42 (.ne (B .neq i6) (tm 41) (.cst (iv 0)))]
def a8T : List CO := [
  mV 43 13,
 O 10 (.mv (.cst (iv 0))),
 mV 11 43]
def a4t : List CO := [
  mV 44 12,
 mV 10 44,
 O 11 (.mv (.cst (iv 0)))]
noncomputable def a0J : Code := c9N (Tryz.prog.funcs[181]?)
noncomputable def b6C : CC := (.seq (.reg a94) (.seq .skip (.seq (.reg a4S) (.seq (.block 0 (.seq (.reg a00) (.cond (tm 23) (.seq (.reg b1q) .ret) (.seq (.reg a06) (.cond (tm 27) (.seq (.reg a5x) .ret) (.seq (.reg a2E) (.cond (tm 31) (.seq (.reg a4G) (.goto 0)) .skip))))))) (.seq (.seq (.reg a5y) (.seq (.reg a4q) (.cond (tm 42) (.seq (.reg a8T) .ret) .skip))) (.seq (.reg a4t) .ret))))))
theorem f1A : j6 Tryz.prog a0J = b6C := by kernel_rfl
noncomputable def a3J : CC := (.seq .skip (.seq (.reg a4S) (.seq (.block 0 (.seq (.reg a00) (.cond (tm 23) (.seq (.reg b1q) .ret) (.seq (.reg a06) (.cond (tm 27) (.seq (.reg a5x) .ret) (.seq (.reg a2E) (.cond (tm 31) (.seq (.reg a4G) (.goto 0)) .skip))))))) (.seq (.seq (.reg a5y) (.seq (.reg a4q) (.cond (tm 42) (.seq (.reg a8T) .ret) .skip))) (.seq (.reg a4t) .ret)))))
theorem f0Y : findLabel a0J 0 = some (V4 a0J 0) := by kernel_rfl
theorem f01 : j6 Tryz.prog (V4 a0J 0) = a3J := by kernel_rfl
def a9P : List CO := [
  O 4 (.mv (.cst (.b false)))]
def a95 : List CO := [
  mV 9 0,
 O 10 (.eqp false (B .eql a6D) (tm 9) (.cst l9))]
def f8q : List CO := [
  O 4 (.mv (.cst (.b false)))]
def a9B : List CO := [
  mV 12 0,
 nL 13 12,
 fA 14 16 13,
 lD 15 14,
 mV 16 1,
 O 17 (.look (some .i64) (.agg []) true (tm 15) (tm 16)),
 mV 11 17,
 eX 18 0 11,
 eX 19 1 11,
 O 5 (.alloc b6R 0 []),
 .op none none (.store 0 (tm 5) (tm 18)),
 mV 6 19]
def a9W : List CO := [
  mV 21 0,
 mV 22 1,
 C 23 a51 [(tm 21), (tm 22)],
 mV 20 23,
 eX 24 0 20,
 eX 25 1 20,
 mV 7 24,
 mV 8 25]
def b0x : List CO := [
  mV 26 0,
 nL 27 26,
 fA 28 17 27,
 lD 29 28,
 O 30 (.eqp true (B .neq D7) (tm 29) (.cst l9)),
 mV 31 30,
 G 32 31 true (.mv (tm 6)),
 G 33 31 true (.un .not (tm 32)),
 O 34 (.pick (tm 31) (tm 33) (.cst (.b false)))]
def b0v : List CO := [
  mV 36 0,
 nL 37 36,
 fA 38 17 37,
 lD 39 38,
 nL 40 39,
 fA 41 3 40,
 lD 42 41,
 mV 43 1,
 O 44 (.look (some .i64) (.agg []) true (tm 42) (tm 43)),
 mV 35 44,
 eX 45 0 35,
 eX 46 1 35,
 mV 6 46]
def b1l : List CO := [
  mV 47 6,
 mV 48 47,
 G 49 48 false (.mv (tm 8)),
 O 50 (.pick (tm 48) (.cst (.b true)) (tm 49)),
 mV 4 50]
def e01 : List CO := [
  O 2 (.mv (.cst a3h))]
def e3S : List CO := [
  mV 3 0,
 nL 4 3,
 fA 5 2 4,
 lD 6 5,
 mV 2 6]
def c90 : List CO := [
  O 1 (.box x6 (tm 0)),
 O 2 (.mv (.cst (iv 0)))]
def e3A : List CO := [
  fA 3 11 1,
 lD 4 3,
 mV 2 4]
def e1l : List CO := [
  O 3 (.box O7 (tm 0)),
 O 6 (.mv (.cst (iv 0)))]
def d1T : List CO := [
  O 10 (.loadN 2 (tm 3)),
 mV 11 1,
 mV 12 2,
 C 13 b1A [(tm 10), (tm 11), (tm 12)],
 mV 9 13,
 eX 14 0 9,
 eX 15 1 9,
 mV 7 14,
 mV 8 15]
def e3K : List CO := [
  mV 17 8,
 O 18 (.ne (B .neq i6) (tm 17) (.cst (iv 0))),
 mV 16 18]
def f7o : List CO := [
  mV 19 8,
 mV 6 19]
def d3q : List CO := [
  mV 21 7,
 O 22 (.un .not (tm 21)),
 mV 20 22]
def f8v : List CO := [
  O 6 (.mv (.cst (iv 11)))]
def d9F : List CO := [
  O 23 (.loadN 2 (tm 3)),
 mV 24 1,
 mV 25 2,
 C 26 a5R [(tm 23), (tm 24), (tm 25), (.cst (.b false))],
 mV 6 26]
def e2q : List CO := [
  O 4 (.mv (.cst (iv 0)))]
def e4l : List CO := [
  mV 6 0,
 C 7 a2X [(tm 6)],
 mV 5 7]
def e4r : List CO := [
  mV 8 5,
 O 9 (.ne (B .neq i6) (tm 8) (.cst (iv 0)))]
def f8y : List CO := [
  mV 10 5,
 mV 4 10]
def e0Z : List CO := [
  mV 11 1,
 mV 12 0,
 nL 13 12,
 fA 14 0 13,
 lD 15 14,
 nL 16 15,
 fA 17 3 16,
 fA 18 11 17,
 lD 19 18,
 O 20 (.lt (B .lss b0) (tm 11) (tm 19)),
 mV 21 20,
 G 22 21 false (.mv (tm 1)),
 G 23 21 false (.mv (tm 0)),
 G 24 21 false (.nil (tm 23)),
 G 25 21 false (.fa 0 (tm 24)),
 G 26 21 false (.load (tm 25)),
 G 27 21 false (.nil (tm 26)),
 G 28 21 false (.fa 3 (tm 27)),
 G 29 21 false (.fa 1 (tm 28)),
 G 30 21 false (.load (tm 29)),
 G 31 21 false (.ge (B .geq b0) (tm 22) (tm 30)),
 O 32 (.pick (tm 21) (.cst (.b true)) (tm 31))]
def f9E : List CO := [
  O 4 (.mv (.cst (iv 2)))]
def d7W : List CO := [
  mV 33 0,
 mV 34 1,
 C 35 a5U [(tm 33), (tm 34)]]
def e3C : List CO := [
  mV 36 0,
 nL 37 36,
 fA 38 3 37,
 lD 39 38,
 mV 40 1,
 O 41 (.build [] []),
 .op none none (.mupd (some .i64) (tm 39) (tm 40) (tm 41))]
def d66 : List CO := [
  O 4 (.mv (.cst (iv 0)))]
def d6x : List CO := [
  O 2 (.mv (.cst i7))]
def d8i : List CO := [
  mV 6 0,
 O 7 (.eqp false (B .eql b5W) (tm 6) (.cst l9))]
def f8Z : List CO := [
  O 2 (.mv (.cst i7))]
def d6U : List CO := [
  O 3 (.mv (.cst i7))]
def d4d : List CO := [
  mV 8 0,
 nL 9 8,
 fA 10 16 9,
 lD 11 10,
 C 12 b1x [(tm 11)],
 C 13 a74 [(tm 12)],
 O 14 (.len false (tm 13)),
 O 15 (.mv (.cst (iv 0)))]
def e3x : List CO := [
  O 16 (.lt (B .lss b0) (tm 15) (tm 14))]
def f7v : List CO := [
  O 17 (.iaS 1 (tm 13) (tm 15)),
 lD 18 17,
 mV 5 18]
def f7E : List CO := [
  mV 19 3,
 mV 20 5,
 mV 21 0,
 nL 22 21,
 fA 23 16 22,
 lD 24 23,
 mV 25 5,
 O 26 (.look (some .i64) i7 false (tm 24) (tm 25)),
 C 27 X5 [(tm 26)],
 O 28 (.build [(iv 0), i7] [(0, 1, (tm 20)), (1, 1, (tm 27))]),
 O 29 (.bslice a7x 1 2 [(iv 0), i7] [(0, 2, (tm 28))]),
 O 30 (.app a7x 2 32 [(iv 0), i7] (tm 19) (tm 29)),
 mV 3 30]
def f8j : List CO := [
  O 31 (.add (B .add b0) (tm 15) (.cst (iv 1))),
 mV 15 31]
def e3d : List CO := [
  mV 32 3,
 mV 2 32]
def d4f : List CO := [
  O 4 (.mv (.cst (iv 0)))]
def d8n : List CO := [
  mV 14 1,
 O 15 (.len true (tm 14)),
 mV 5 15]
def e3H : List CO := [
  mV 17 5,
 O 18 (.eq (B .eql b0) (tm 17) (.cst (iv 0))),
 mV 19 18,
 G 20 19 false (.mv (tm 1)),
 G 21 19 false (.mv (tm 0)),
 G 22 19 false (.eq (B .eql E4) (tm 20) (tm 21)),
 O 23 (.pick (tm 19) (.cst (.b true)) (tm 22)),
 mV 16 23]
def f7A : List CO := [
  O 4 (.mv (.cst (iv 0)))]
def d74 : List CO := [
  mV 25 5,
 O 26 (.eq (B .eql b0) (tm 25) (.cst (iv 1))),
 mV 24 26]
def d58 : List CO := [
  mV 27 0,
 mV 28 1,
 O 29 (.ixS (tm 28) (.cst (iv 0))),
 C 30 a5Q [(tm 27), (tm 29)],
 mV 4 30]
def f7P : List CO := [
  mV 32 5,
 mV 33 0,
 O 34 (.len true (tm 33)),
 O 35 (.ge (B .geq b0) (tm 32) (tm 34)),
 mV 31 35]
def f74 : List CO := [
  O 4 (.mv (.cst (iv (-1))))]
def f9p : List CO := [
  mV 37 5,
 O 38 (.load (.cst (.p (.pointer (some ⟨0, 0, none⟩))))),
 O 39 (.le (B .leq b0) (tm 37) (tm 38)),
 mV 40 39,
 G 41 40 true (.mv (tm 0)),
 G 42 40 true (.len true (tm 41)),
 G 43 40 true (.le (B .leq b0) (tm 42) (.cst (iv 64))),
 O 44 (.pick (tm 40) (tm 43) (.cst (.b false))),
 mV 36 44]
def f9j : List CO := [
  mV 45 0,
 mV 46 1,
 C 47 b2G [(tm 45), (tm 46)],
 mV 4 47]
def f5x : List CO := [
  mV 48 1,
 O 49 (.ixS (tm 48) (.cst (iv 0))),
 mV 6 49]
def f5w : List CO := [
  mV 50 1,
 O 51 (.ixS (tm 50) (.cst (iv 1))),
 mV 7 51]
def f5B : List CO := [
  O 8 (.mv (.cst (iv 0)))]
def f5L : List CO := [
  mV 52 0,
 O 53 (.len true (tm 52)),
 mV 54 5,
 O 55 (.sub (B .sub b0) (tm 53) (tm 54)),
 O 56 (.add (B .add b0) (tm 55) (.cst (iv 1))),
 mV 9 56]
def f6j : List CO := [
  O 10 (.mv (.cst (iv 0)))]
def f7f : List CO := [
  mV 57 8,
 mV 58 9,
 O 59 (.lt (B .lss b0) (tm 57) (tm 58))]
def f5l : List CO := [
  mV 60 0,
 mV 61 8,
 O 62 (.ixS (tm 60) (tm 61)),
 mV 63 6,
 O 64 (.ne (B .neq j7) (tm 62) (tm 63))]
def f7i : List CO := [
  mV 65 0,
 mV 66 8,
 O 67 (.add (B .add b0) (tm 66) (.cst (iv 1))),
 mV 68 9,
 O 69 (.sls (tm 65) (some (tm 67)) (some (tm 68))),
 mV 70 6,
 C 71 a5Q [(tm 69), (tm 70)],
 mV 11 71]
def f5N : List CO := [
  mV 72 11,
 O 73 (.lt (B .lss b0) (tm 72) (.cst (iv 0)))]
def f5V : List CO := [
  O 4 (.mv (.cst (iv (-1))))]
def f7h : List CO := [
  mV 74 8,
 mV 75 11,
 O 76 (.add (B .add b0) (tm 75) (.cst (iv 1))),
 O 77 (.add (B .add b0) (tm 74) (tm 76)),
 mV 8 77]
def f5d : List CO := [
  mV 78 0,
 mV 79 8,
 O 80 (.add (B .add b0) (tm 79) (.cst (iv 1))),
 O 81 (.ixS (tm 78) (tm 80)),
 mV 82 7,
 O 83 (.eq (B .eql j7) (tm 81) (tm 82)),
 mV 84 83,
 G 85 84 true (.mv (tm 0)),
 G 86 84 true (.mv (tm 8)),
 G 87 84 true (.mv (tm 8)),
 G 88 84 true (.mv (tm 5)),
 G 89 84 true (.add (B .add b0) (tm 87) (tm 88)),
 G 90 84 true (.sls (tm 85) (some (tm 86)) (some (tm 89))),
 G 91 84 true (.mv (tm 1)),
 G 92 84 true (.eq (B .eql E4) (tm 90) (tm 91)),
 O 93 (.pick (tm 84) (tm 92) (.cst (.b false)))]
def f6Z : List CO := [
  mV 94 8,
 mV 4 94]
def f6b : List CO := [
  mV 95 8,
 O 96 (.add (B .add b0) (tm 95) (.cst (iv 1))),
 mV 8 96]
def f5S : List CO := [
  mV 97 10,
 O 98 (.add (B .add b0) (tm 97) (.cst (iv 1))),
 mV 10 98]
def f5U : List CO := [
  mV 99 5,
 O 100 (.load (.cst (.p (.pointer (some ⟨0, 0, none⟩))))),
 O 101 (.le (B .leq b0) (tm 99) (tm 100)),
 mV 102 101,
 G 103 102 true (.mv (tm 10)),
 G 104 102 true (.mv (tm 8)),
 .call (some (pth 105)) (some (pth 102, true)) (.cst (.func e9d [])) [(tm 104)],
 G 106 102 true (.gt (B .gtr b0) (tm 103) (tm 105)),
 O 107 (.pick (tm 102) (tm 106) (.cst (.b false)))]
def f60 : List CO := [
  mV 108 0,
 mV 109 8,
 O 110 (.sls (tm 108) (some (tm 109)) none),
 mV 111 1,
 C 112 b2G [(tm 110), (tm 111)],
 mV 12 112]
def f5k : List CO := [
  mV 113 12,
 O 114 (.ge (B .geq b0) (tm 113) (.cst (iv 0)))]
def f66 : List CO := [
  mV 115 12,
 mV 116 8,
 O 117 (.add (B .add b0) (tm 115) (tm 116)),
 mV 4 117]
def f65 : List CO := [
  O 4 (.mv (.cst (iv (-1))))]
def f6w : List CO := [
  mV 118 5,
 O 119 (.load (.cst (.p (.pointer (some ⟨0, 0, none⟩))))),
 O 120 (.gt (B .gtr b0) (tm 118) (tm 119)),
 mV 121 120,
 G 122 121 true (.mv (tm 10)),
 G 123 121 true (.mv (tm 8)),
 G 124 121 true (.slow (B .shr b0) (tm 123) (.cst (.p (.int .u64 (4))))),
 G 125 121 true (.add (B .add b0) (.cst (iv 4)) (tm 124)),
 G 126 121 true (.ge (B .geq b0) (tm 122) (tm 125)),
 O 127 (.pick (tm 121) (tm 126) (.cst (.b false))),
 mV 128 127,
 G 129 128 true (.mv (tm 8)),
 G 130 128 true (.mv (tm 9)),
 G 131 128 true (.lt (B .lss b0) (tm 129) (tm 130)),
 O 132 (.pick (tm 128) (tm 131) (.cst (.b false)))]
def f6s : List CO := [
  mV 133 0,
 mV 134 8,
 O 135 (.sls (tm 133) (some (tm 134)) none),
 mV 136 1,
 C 137 e9b [(tm 135), (tm 136)],
 mV 13 137]
def f6Y : List CO := [
  mV 138 13,
 O 139 (.lt (B .lss b0) (tm 138) (.cst (iv 0)))]
def f6C : List CO := [
  O 4 (.mv (.cst (iv (-1))))]
def f5H : List CO := [
  mV 140 8,
 mV 141 13,
 O 142 (.add (B .add b0) (tm 140) (tm 141)),
 mV 4 142]
def f6y : List CO := [
  O 4 (.mv (.cst (iv (-1))))]
def d0q : List CO := [
  O 4 (.box O7 (tm 0)),
 O 8 (.mv (.cst (iv 0))),
 O 9 (.mv (.cst (iv 0)))]
def a4L : List CO := [
  mV 14 2,
 mV 15 3,
 O 16 (.lt (B .lss b0) (tm 14) (tm 15))]
def d2T : List CO := [
  mV 18 1,
 fA 19 0 4,
 lD 20 19,
 mV 21 2,
 fA 22 1 4,
 lD 23 22,
 O 24 (.quo (B .quo b0) (tm 21) (tm 23)),
 O 25 (.add (B .add b0) (tm 20) (tm 24)),
 C 26 K8 [(tm 18), (tm 25)],
 mV 17 26,
 eX 27 0 17,
 eX 28 1 17,
 mV 10 27,
 mV 11 28]
def e4U : List CO := [
  mV 29 11,
 O 30 (.ne (B .neq i6) (tm 29) (.cst (iv 0)))]
def f72 : List CO := [
  mV 31 11,
 O 8 (.mv (.cst (iv 0))),
 mV 9 31]
def e3h : List CO := [
  mV 32 2,
 fA 33 1 4,
 lD 34 33,
 O 35 (.quo (B .quo b0) (tm 32) (tm 34)),
 fA 36 1 4,
 lD 37 36,
 O 38 (.mul (B .mul b0) (tm 35) (tm 37)),
 mV 12 38]
def d7Z : List CO := [
  mV 40 10,
 mV 41 2,
 mV 42 12,
 O 43 (.sub (B .sub b0) (tm 41) (tm 42)),
 mV 44 3,
 mV 45 12,
 O 46 (.sub (B .sub b0) (tm 44) (tm 45)),
 fA 47 1 4,
 lD 48 47,
 O 49 (.min (tm 46) (tm 48)),
 C 50 b2h [(tm 40), (tm 43), (tm 49)],
 mV 39 50,
 eX 51 0 39,
 eX 52 1 39,
 mV 13 51,
 mV 11 52]
def b0W : List CO := [
  mV 53 11,
 O 54 (.eq (B .eql i6) (tm 53) (.cst (iv 0)))]
def e4j : List CO := [
  mV 55 12,
 mV 56 13,
 O 57 (.add (B .add b0) (tm 55) (tm 56)),
 mV 8 57,
 O 9 (.mv (.cst (iv 0)))]
def d5t : List CO := [
  mV 58 12,
 fA 59 1 4,
 lD 60 59,
 O 61 (.add (B .add b0) (tm 58) (tm 60)),
 mV 2 61]
def a9i : List CO := [
  mV 62 3,
 mV 8 62,
 O 9 (.mv (.cst (iv 0)))]
def c96 : List CO := [
  O 4 (.box O7 (tm 0)),
 O 8 (.mv (.cst (iv 0)))]
def e4F : List CO := [
  mV 12 1,
 fA 13 0 4,
 lD 14 13,
 mV 15 2,
 fA 16 1 4,
 lD 17 16,
 O 18 (.quo (B .quo b0) (tm 15) (tm 17)),
 O 19 (.add (B .add b0) (tm 14) (tm 18)),
 C 20 K8 [(tm 12), (tm 19)],
 mV 11 20,
 eX 21 0 11,
 eX 22 1 11,
 mV 9 21,
 mV 10 22]
def e4g : List CO := [
  mV 23 10,
 O 24 (.ne (B .neq i6) (tm 23) (.cst (iv 0)))]
def f9k : List CO := [
  mV 25 10,
 mV 8 25]
def e0g : List CO := [
  mV 27 9,
 mV 28 2,
 fA 29 1 4,
 lD 30 29,
 O 31 (.rem (B .rem b0) (tm 28) (tm 30)),
 mV 32 3,
 C 33 b2f [(tm 27), (tm 31), (tm 32)],
 mV 26 33,
 eX 34 0 26,
 eX 35 1 26,
 mV 9 34]
def d8g : List CO := [
  mV 36 1,
 fA 37 0 4,
 lD 38 37,
 mV 39 2,
 fA 40 1 4,
 lD 41 40,
 O 42 (.quo (B .quo b0) (tm 39) (tm 41)),
 O 43 (.add (B .add b0) (tm 38) (tm 42)),
 mV 44 9,
 C 45 a0y [(tm 36), (tm 43), (tm 44)],
 mV 8 45]
def e2J : List CO := [
  O 3 (.box O7 (tm 0)),
 O 6 (.mv (.cst (.b false))),
 O 7 (.mv (.cst (iv 0)))]
def d71 : List CO := [
  mV 11 1,
 fA 12 0 3,
 lD 13 12,
 mV 14 2,
 fA 15 1 3,
 lD 16 15,
 O 17 (.quo (B .quo b0) (tm 14) (tm 16)),
 O 18 (.add (B .add b0) (tm 13) (tm 17)),
 C 19 K8 [(tm 11), (tm 18)],
 mV 10 19,
 eX 20 0 10,
 eX 21 1 10,
 mV 8 20,
 mV 9 21]
def d0A : List CO := [
  mV 22 9,
 O 23 (.ne (B .neq i6) (tm 22) (.cst (iv 0)))]
def f8p : List CO := [
  mV 24 9,
 O 6 (.mv (.cst (.b false))),
 mV 7 24]
def e3i : List CO := [
  mV 25 8,
 mV 26 2,
 fA 27 1 3,
 lD 28 27,
 O 29 (.rem (B .rem b0) (tm 26) (tm 28)),
 C 30 b1U [(tm 25), (tm 29)],
 eX 31 0 30,
 eX 32 1 30,
 mV 6 31,
 mV 7 32]
def d04 : List CO := [
  O 1 (.box a3t (tm 0)),
 O 2 (.mv (.cst a3g))]
def d1N : List CO := [
  O 3 (.fn a3T [(tm 1)]),
 mV 2 3]
def d89 : List CO := [
  O 4 (.mv (.cst (iv 0)))]
def d2W : List CO := [
  mV 5 0,
 mV 6 1,
 C 7 b2F [(tm 5), (tm 6)],
 mV 4 7]
def d9V : List CO := [
  O 6 (.mv (.cst (iv 0))),
 O 7 (.mv (.cst (iv 0)))]
def b0Z : List CO := [
  mV 9 0,
 mV 10 1,
 mV 11 2,
 C 12 b1F [(tm 9), (tm 10), (tm 11)],
 O 13 (.un .not (tm 12))]
def b0C : List CO := [
  O 6 (.mv (.cst (iv 0))),
 O 7 (.mv (.cst (iv 2)))]
def b0O : List CO := [
  mV 14 1,
 mV 8 14]
def a0n : List CO := [
  mV 15 8,
 mV 16 2,
 O 17 (.ge (B .geq b0) (tm 15) (tm 16))]
def a5g : List CO := [
  O 6 (.mv (.cst (iv 0))),
 O 7 (.mv (.cst (iv 11)))]
def a0V : List CO := [
  mV 18 8,
 O 19 (.rem (B .rem b0) (tm 18) (.cst (iv 8))),
 O 20 (.eq (B .eql b0) (tm 19) (.cst (iv 0)))]
def Q6 : List CO := [
  mV 21 0,
 mV 22 8,
 O 23 (.quo (B .quo b0) (tm 22) (.cst (iv 8))),
 O 24 (.iaS 1 (tm 21) (tm 23)),
 lD 25 24,
 mV 26 8,
 O 27 (.rem (B .rem b0) (tm 26) (.cst (iv 8))),
 O 28 (.slow (B .shr j7) (tm 25) (tm 27)),
 O 29 (.and (B .and j7) (tm 28) (.cst (.y 1))),
 O 30 (.eq (B .eql j7) (tm 29) (.cst (.y 0)))]
def a0e : List CO := [
  mV 31 8,
 mV 6 31,
 O 7 (.mv (.cst (iv 0)))]
def a0h : List CO := [
  mV 32 8,
 O 33 (.add (B .add b0) (tm 32) (.cst (iv 1))),
 mV 8 33]
def P8 : List CO := [
  mV 34 0,
 mV 35 8,
 O 36 (.quo (B .quo b0) (tm 35) (.cst (iv 8))),
 O 37 (.iaS 1 (tm 34) (tm 36)),
 lD 38 37,
 O 39 (.ne (B .neq j7) (tm 38) (.cst (.y 255)))]
def U1 : List CO := [
  mV 40 8,
 O 41 (.add (B .add b0) (tm 40) (.cst (iv 8))),
 mV 8 41]
noncomputable def H2 : Code := c9N (Tryz.prog.funcs[210]?)
noncomputable def b5D : CC := (.seq (.seq (.reg b0Z) (.cond (tm 13) (.seq (.reg b0C) .ret) .skip)) (.seq (.reg b0O) (.seq .skip (.seq (.seq (.reg a0n) (.cond (tm 17) (.seq (.reg a5g) .ret) .skip)) (.seq (.seq (.reg a0V) (.cond (tm 20) (.goto 1) .skip)) (.seq .skip (.seq (.seq (.reg Q6) (.cond (tm 30) (.seq (.reg a0e) .ret) .skip)) (.seq (.reg a0h) (.seq (.goto 0) (.seq .skip (.seq (.seq (.reg P8) (.cond (tm 39) (.goto 2) .skip)) (.seq (.reg U1) (.goto 0)))))))))))))
theorem f0O : j6 Tryz.prog H2 = b5D := by kernel_rfl
noncomputable def a3w : CC := (.seq .skip (.seq (.seq (.reg a0n) (.cond (tm 17) (.seq (.reg a5g) .ret) .skip)) (.seq (.seq (.reg a0V) (.cond (tm 20) (.goto 1) .skip)) (.seq .skip (.seq (.seq (.reg Q6) (.cond (tm 30) (.seq (.reg a0e) .ret) .skip)) (.seq (.reg a0h) (.seq (.goto 0) (.seq .skip (.seq (.seq (.reg P8) (.cond (tm 39) (.goto 2) .skip)) (.seq (.reg U1) (.goto 0)))))))))))
theorem a6N : findLabel H2 0 = some (V4 H2 0) := by kernel_rfl
theorem a6K : j6 Tryz.prog (V4 H2 0) = a3w := by kernel_rfl
noncomputable def a6G : CC := (.seq .skip (.seq (.seq (.reg Q6) (.cond (tm 30) (.seq (.reg a0e) .ret) .skip)) (.seq (.reg a0h) (.seq (.goto 0) (.seq .skip (.seq (.seq (.reg P8) (.cond (tm 39) (.goto 2) .skip)) (.seq (.reg U1) (.goto 0))))))))
theorem f0j : findLabel H2 2 = some (V4 H2 2) := by kernel_rfl
theorem f0e : j6 Tryz.prog (V4 H2 2) = a6G := by kernel_rfl
noncomputable def b4T : CC := (.seq .skip (.seq (.seq (.reg P8) (.cond (tm 39) (.goto 2) .skip)) (.seq (.reg U1) (.goto 0))))
theorem e9Q : findLabel H2 1 = some (V4 H2 1) := by kernel_rfl
theorem e98 : j6 Tryz.prog (V4 H2 1) = b4T := by kernel_rfl
def a96 : List CO := [
  O 6 (.mv (.cst i7)),
 O 7 (.mv (.cst (iv 0)))]
def a9S : List CO := [
  mV 9 1,
 O 10 (.lt (B .lss b0) (tm 9) (.cst (iv 0))),
 mV 11 10,
 G 12 11 false (.mv (tm 1)),
 G 13 11 false (.quo (B .quo b0) (tm 12) (.cst (iv 8))),
 G 14 11 false (.mv (tm 0)),
 G 15 11 false (.len false (tm 14)),
 G 16 11 false (.ge (B .geq b0) (tm 13) (tm 15)),
 O 17 (.pick (tm 11) (.cst (.b true)) (tm 16))]
def f7r : List CO := [
  O 6 (.mv (.cst i7)),
 O 7 (.mv (.cst (iv 2)))]
def a9I : List CO := [
  mV 18 0,
 C 19 X5 [(tm 18)],
 mV 8 19]
def a9F : List CO := [
  mV 20 2]
def d6V : List CO := [
  mV 21 8,
 mV 22 1,
 O 23 (.quo (B .quo b0) (tm 22) (.cst (iv 8))),
 O 24 (.iaS 1 (tm 21) (tm 23)),
 lD 25 24,
 mV 26 1,
 O 27 (.rem (B .rem b0) (tm 26) (.cst (iv 8))),
 O 28 (.slow (B .shl j7) (.cst (.y 1)) (tm 27)),
 O 29 (.slow (B .or j7) (tm 25) (tm 28)),
 O 30 (.iaS 1 (tm 21) (tm 23)),
 .op none none (.store 1 (tm 30) (tm 29))]
def d4h : List CO := [
  mV 31 8,
 mV 32 1,
 O 33 (.quo (B .quo b0) (tm 32) (.cst (iv 8))),
 O 34 (.iaS 1 (tm 31) (tm 33)),
 lD 35 34,
 mV 36 1,
 O 37 (.rem (B .rem b0) (tm 36) (.cst (iv 8))),
 O 38 (.slow (B .shl j7) (.cst (.y 1)) (tm 37)),
 O 39 (.slow (B .andNot j7) (tm 35) (tm 38)),
 O 40 (.iaS 1 (tm 31) (tm 33)),
 .op none none (.store 1 (tm 40) (tm 39))]
def b1j : List CO := [
  mV 41 8,
 mV 6 41,
 O 7 (.mv (.cst (iv 0)))]
def a99 : List CO := [
  O 4 (.mv (.cst (.b false))),
 O 5 (.mv (.cst (iv 0)))]
def b0B : List CO := [
  mV 6 1,
 O 7 (.lt (B .lss b0) (tm 6) (.cst (iv 0))),
 mV 8 7,
 G 9 8 false (.mv (tm 1)),
 G 10 8 false (.quo (B .quo b0) (tm 9) (.cst (iv 8))),
 G 11 8 false (.mv (tm 0)),
 G 12 8 false (.len false (tm 11)),
 G 13 8 false (.ge (B .geq b0) (tm 10) (tm 12)),
 O 14 (.pick (tm 8) (.cst (.b true)) (tm 13))]
def f87 : List CO := [
  O 4 (.mv (.cst (.b false))),
 O 5 (.mv (.cst (iv 2)))]
def b1i : List CO := [
  mV 15 0,
 mV 16 1,
 O 17 (.quo (B .quo b0) (tm 16) (.cst (iv 8))),
 O 18 (.iaS 1 (tm 15) (tm 17)),
 lD 19 18,
 mV 20 1,
 O 21 (.rem (B .rem b0) (tm 20) (.cst (iv 8))),
 O 22 (.slow (B .shr j7) (tm 19) (tm 21)),
 O 23 (.and (B .and j7) (tm 22) (.cst (.y 1))),
 O 24 (.eq (B .eql j7) (tm 23) (.cst (.y 1))),
 mV 4 24,
 O 5 (.mv (.cst (iv 0)))]
def e1i : List CO := [
  O 6 (.mv (.cst (.b false)))]
def d4o : List CO := [
  mV 7 1,
 O 8 (.ge (B .geq b0) (tm 7) (.cst (iv 0))),
 mV 9 8,
 G 10 9 true (.mv (tm 1)),
 G 11 9 true (.mv (tm 2)),
 G 12 9 true (.le (B .leq b0) (tm 10) (tm 11)),
 O 13 (.pick (tm 9) (tm 12) (.cst (.b false))),
 mV 14 13,
 G 15 14 true (.mv (tm 2)),
 G 16 14 true (.mv (tm 0)),
 G 17 14 true (.len false (tm 16)),
 G 18 14 true (.mul (B .mul b0) (.cst (iv 8)) (tm 17)),
 G 19 14 true (.le (B .leq b0) (tm 15) (tm 18)),
 O 20 (.pick (tm 14) (tm 19) (.cst (.b false))),
 mV 6 20]
def a2F : CC := (.seq (.reg a4Q) .ret)
def a2v : CC := (.cond (tm 18) a2F .skip)
def a0U : CC := (.seq (.reg a4O) a2v)
def a2p : CC := (.reg a5r)
def a2j : CC := (.cond (tm 24) a2p .skip)
def a0Z : CC := (.seq (.reg a5t) a2j)
def c4x : CC := (.cond (tm 34) .skip (.exit 0))
def c1b : CC := (.seq (.reg b0e) c4x)
def c27 : CC := (.seq (.reg f5p) .ret)
def c8j : CC := (.cond (tm 49) c27 .skip)
def c68 : CC := (.seq (.reg b9t) c8j)
def c5V : CC := (.seq (.reg c28) c68)
def c9b : CC := (.block 1 c5V)
def c77 : CC := (.reg e5l)
def c9o : CC := (.seq c9b c77)
def c0E : CC := (.seq c1b c9o)
def c4q : CC := (.loop c0E)
def c1s : CC := (.block 0 c4q)
def c7Z : CC := (.seq (.reg e0b) c1s)
def c0Z : CC := (.seq (.reg f61) .ret)
def b8L : CC := (.cond (tm 65) c0Z .skip)
def c21 : CC := (.seq (.reg c4K) b8L)
def c3b : CC := (.cond (tm 68) .skip (.exit 2))
def c1V : CC := (.seq (.reg a34) c3b)
def c78 : CC := (.reg c3a)
def c6c : CC := (.cond (tm 72) c78 .skip)
def c4b : CC := (.seq (.reg a9e) c6c)
def c53 : CC := (.seq (.reg f6A) .ret)
def c1t : CC := (.cond (tm 87) c53 .skip)
def c3j : CC := (.seq (.reg a9j) c1t)
def c4a : CC := (.seq (.reg a9h) c3j)
def b9G : CC := (.seq c4b c4a)
def c2A : CC := (.seq (.reg a88) b9G)
def c6y : CC := (.block 3 c2A)
def c1U : CC := (.reg a9t)
def c9q : CC := (.seq c6y c1U)
def c89 : CC := (.seq c1V c9q)
def b8Y : CC := (.loop c89)
def c7j : CC := (.block 2 b8Y)
def c8T : CC := (.seq (.reg c7y) c7j)
def b9b : CC := (.seq (.reg b96) .ret)
def c5a : CC := (.seq (.reg c8t) b9b)
def b9c : CC := (.seq (.reg c0e) c5a)
def c5T : CC := (.seq c8T b9c)
def c8S : CC := (.seq c21 c5T)
def c2F : CC := (.seq (.reg c7Y) c8S)
def c9m : CC := (.seq c7Z c2F)
def c7m : CC := (.seq (.reg e1V) c9m)
def a4C : CC := (.seq (.reg d3F) c7m)
def d9v : CC := (.seq a0Z a4C)
def e1s : CC := (.seq a0U d9v)
def b2l : CC := (.seq (.reg a2y) e1s)
theorem a1x : type_of% (qz a2F.eq_1 (qz a2v.eq_1 (qz a0U.eq_1 (qz a2p.eq_1 (qz a2j.eq_1 (qz a0Z.eq_1 (qz c4x.eq_1 (qz c1b.eq_1 (qz c27.eq_1 (qz c8j.eq_1 (qz c68.eq_1 (qz c5V.eq_1 (qz c9b.eq_1 (qz c77.eq_1 (qz c9o.eq_1 (qz c0E.eq_1 (qz c4q.eq_1 (qz c1s.eq_1 (qz c7Z.eq_1 (qz c0Z.eq_1 (qz b8L.eq_1 (qz c21.eq_1 (qz c3b.eq_1 (qz c1V.eq_1 (qz c78.eq_1 (qz c6c.eq_1 (qz c4b.eq_1 (qz c53.eq_1 (qz c1t.eq_1 (qz c3j.eq_1 (qz c4a.eq_1 (qz b9G.eq_1 (qz c2A.eq_1 (qz c6y.eq_1 (qz c1U.eq_1 (qz c9q.eq_1 (qz c89.eq_1 (qz b8Y.eq_1 (qz c7j.eq_1 (qz c8T.eq_1 (qz b9b.eq_1 (qz c5a.eq_1 (qz b9c.eq_1 (qz c5T.eq_1 (qz c8S.eq_1 (qz c2F.eq_1 (qz c9m.eq_1 (qz c7m.eq_1 (qz a4C.eq_1 (qz d9v.eq_1 (qz e1s.eq_1 (qy b2l.eq_1)))))))))))))))))))))))))))))))))))))))))))))))))))) := ⟨kr,kr,kr,kr,kr,kr,kr,kr,kr,kr,kr,kr,kr,kr,kr,kr,kr,kr,kr,kr,kr,kr,kr,kr,kr,kr,kr,kr,kr,kr,kr,kr,kr,kr,kr,kr,kr,kr,kr,kr,kr,kr,kr,kr,kr,kr,kr,kr,kr,kr,kr,kr⟩
theorem g1s : FnAt Tryz.prog tb e59 b2l 116 [.tmp 4] := i9 i8 Tryz.func4 rfl (by kernel_rfl) (by kernel_rfl) rfl rfl
def d9T : CC := (.seq (.reg e2V) .ret)
def e7x : CC := (.seq (.reg d99) d9T)
theorem g1M : type_of% (qz d9T.eq_1 (qy e7x.eq_1)) := ⟨kr,kr⟩
theorem g1x : FnAt Tryz.prog tb a21 e7x 20 [.tmp 12] := i9 i8 Tryz.func9 rfl (by kernel_rfl) (by kernel_rfl) rfl rfl
def e1f : CC := (.seq (.reg f7u) .ret)
def e2F : CC := (.cond (tm 22) e1f .skip)
def e1z : CC := (.seq (.reg d5M) e2F)
def d2F : CC := (.seq (.reg d5J) e1z)
def e4Z : CC := (.seq (.reg d4P) .ret)
def d9w : CC := (.seq (.reg d8E) e4Z)
def d2f : CC := (.seq (.reg d0R) d9w)
def e3R : CC := (.seq (.reg d1j) d2f)
def d2Q : CC := (.seq d2F e3R)
def e9a : CC := (.seq (.reg e1n) d2Q)
theorem g1X : type_of% (qz e1f.eq_1 (qz e2F.eq_1 (qz e1z.eq_1 (qz d2F.eq_1 (qz e4Z.eq_1 (qz d9w.eq_1 (qz d2f.eq_1 (qz e3R.eq_1 (qz d2Q.eq_1 (qy e9a.eq_1)))))))))) := ⟨kr,kr,kr,kr,kr,kr,kr,kr,kr,kr⟩
theorem g05 : FnAt Tryz.prog tb a2Z e9a 38 [.tmp 6, .tmp 7] := i9 i8 Tryz.func11 rfl (by kernel_rfl) (by kernel_rfl) rfl rfl
def d90 : CC := (.seq (.reg f7R) .ret)
def d7p : CC := (.seq (.reg f7J) .ret)
def d61 : CC := (.cond (tm 30) d7p .skip)
def d3P : CC := (.seq (.reg e2p) d61)
def e5a : CC := (.cond (tm 26) d90 d3P)
def d4T : CC := (.seq (.reg d9l) e5a)
def d17 : CC := (.block 0 d4T)
def c1H : CC := (.seq (.reg f9b) .ret)
def c4I : CC := (.cond (tm 50) c1H .skip)
def c1E : CC := (.seq (.reg d6p) c4I)
def b84 : CC := (.seq (.reg e5w) c1E)
def b9x : CC := (.seq (.reg b9n) .ret)
def c2b : CC := (.seq b84 b9x)
def c8K : CC := (.seq (.reg e5K) c2b)
def e03 : CC := (.seq d17 c8K)
def d3V : CC := (.seq (.reg e4I) e03)
def e8e : CC := (.seq (.reg d39) d3V)
theorem g1Z : type_of% (qz d90.eq_1 (qz d7p.eq_1 (qz d61.eq_1 (qz d3P.eq_1 (qz e5a.eq_1 (qz d4T.eq_1 (qz d17.eq_1 (qz c1H.eq_1 (qz c4I.eq_1 (qz c1E.eq_1 (qz b84.eq_1 (qz b9x.eq_1 (qz c2b.eq_1 (qz c8K.eq_1 (qz e03.eq_1 (qz d3V.eq_1 (qy e8e.eq_1))))))))))))))))) := ⟨kr,kr,kr,kr,kr,kr,kr,kr,kr,kr,kr,kr,kr,kr,kr,kr,kr⟩
theorem g1k : FnAt Tryz.prog tb a2J e8e 59 [.tmp 10] := i9 i8 Tryz.func12 rfl (by kernel_rfl) (by kernel_rfl) rfl rfl
def d78 : CC := (.seq (.reg f8k) .ret)
def d8W : CC := (.cond (tm 14) d78 .skip)
def d0w : CC := (.seq (.reg d52) d8W)
def e1e : CC := (.seq (.reg f7W) .ret)
def d9x : CC := (.cond (tm 26) e1e .skip)
def d8L : CC := (.seq (.reg d1w) d9x)
def c5b : CC := (.seq (.reg f8a) .ret)
def c16 : CC := (.cond (tm 39) c5b .skip)
def b9m : CC := (.seq (.reg d6A) c16)
def c4u : CC := (.seq (.reg d7H) .ret)
def c80 : CC := (.seq b9m c4u)
def c31 : CC := (.seq (.reg d79) c80)
def e4K : CC := (.seq d8L c31)
def d22 : CC := (.seq (.reg d03) e4K)
def d8K : CC := (.seq d0w d22)
def e8D : CC := (.seq (.reg d6J) d8K)
theorem g2w : type_of% (qz d78.eq_1 (qz d8W.eq_1 (qz d0w.eq_1 (qz e1e.eq_1 (qz d9x.eq_1 (qz d8L.eq_1 (qz c5b.eq_1 (qz c16.eq_1 (qz b9m.eq_1 (qz c4u.eq_1 (qz c80.eq_1 (qz c31.eq_1 (qz e4K.eq_1 (qz d22.eq_1 (qz d8K.eq_1 (qy e8D.eq_1)))))))))))))))) := ⟨kr,kr,kr,kr,kr,kr,kr,kr,kr,kr,kr,kr,kr,kr,kr,kr⟩
theorem f93 : FnAt Tryz.prog tb I9 e8D 42 [.cell 6 s9, .tmp 7] := i9 i8 Tryz.func13 rfl (by kernel_rfl) (by kernel_rfl) rfl rfl
def d4A : CC := (.seq (.reg f7G) .ret)
def e0k : CC := (.cond (tm 18) d4A .skip)
def d2H : CC := (.seq (.reg e1h) e0k)
def d2l : CC := (.seq (.reg f7M) .ret)
def d92 : CC := (.cond (tm 30) d2l .skip)
def d0m : CC := (.seq (.reg e5J) d92)
def e4B : CC := (.seq (.reg e4M) d0m)
def c0u : CC := (.seq (.reg f7C) .ret)
def c5M : CC := (.cond (tm 38) c0u .skip)
def c5W : CC := (.seq (.reg e2h) c5M)
def b9X : CC := (.seq (.reg f63) .ret)
def b9j : CC := (.cond (tm 50) b9X .skip)
def c8p : CC := (.seq (.reg b9S) b9j)
def c7I : CC := (.seq (.reg c9R) .ret)
def c24 : CC := (.seq (.reg c05) c7I)
def c1Y : CC := (.seq c8p c24)
def b85 : CC := (.seq (.reg d5z) c1Y)
def c3v : CC := (.seq c5W b85)
def c2M : CC := (.seq (.reg d6K) c3v)
def d0U : CC := (.seq e4B c2M)
def d0h : CC := (.seq d2H d0U)
def e7w : CC := (.seq (.reg d5p) d0h)
theorem g1R : type_of% (qz d4A.eq_1 (qz e0k.eq_1 (qz d2H.eq_1 (qz d2l.eq_1 (qz d92.eq_1 (qz d0m.eq_1 (qz e4B.eq_1 (qz c0u.eq_1 (qz c5M.eq_1 (qz c5W.eq_1 (qz b9X.eq_1 (qz b9j.eq_1 (qz c8p.eq_1 (qz c7I.eq_1 (qz c24.eq_1 (qz c1Y.eq_1 (qz b85.eq_1 (qz c3v.eq_1 (qz c2M.eq_1 (qz d0U.eq_1 (qz d0h.eq_1 (qy e7w.eq_1)))))))))))))))))))))) := ⟨kr,kr,kr,kr,kr,kr,kr,kr,kr,kr,kr,kr,kr,kr,kr,kr,kr,kr,kr,kr,kr,kr⟩
theorem g0K : FnAt Tryz.prog tb a2I e7w 61 [.tmp 8] := i9 i8 Tryz.func27 rfl (by kernel_rfl) (by kernel_rfl) rfl rfl
def d9i : CC := (.seq (.reg f8K) .ret)
def d8H : CC := (.cond (tm 22) d9i .skip)
def e3j : CC := (.seq (.reg a9Q) d8H)
def d4g : CC := (.seq (.reg b0g) e3j)
def e2g : CC := (.seq (.reg f9z) .ret)
def d8h : CC := (.cond (tm 29) e2g .skip)
def d59 : CC := (.seq (.reg b0J) d8h)
def b9y : CC := (.seq (.reg f85) .ret)
def c1X : CC := (.seq (.reg f6Q) .ret)
def c9z : CC := (.reg c4V)
def c5t : CC := (.seq (.reg f6X) .ret)
def b94 : CC := (.cond (tm 57) c5t .skip)
def c9d : CC := (.seq (.reg c8h) b94)
def c4r : CC := (.cond (tm 50) c9z c9d)
def c6p : CC := (.seq (.reg a8G) c4r)
def c0G : CC := (.cond (tm 44) c1X c6p)
def c3q : CC := (.seq (.reg a98) c0G)
def c6T : CC := (.cond (tm 40) b9y c3q)
def c9C : CC := (.seq (.reg b08) c6T)
def c51 : CC := (.block 0 c9C)
def c4B : CC := (.seq (.reg a8R) .ret)
def c3x : CC := (.seq c51 c4B)
def c9x : CC := (.seq (.reg b1p) c3x)
def d3x : CC := (.seq d59 c9x)
def d2h : CC := (.seq d4g d3x)
def e8Q : CC := (.seq (.reg b07) d2h)
theorem e7F : type_of% (qz d9i.eq_1 (qz d8H.eq_1 (qz e3j.eq_1 (qz d4g.eq_1 (qz e2g.eq_1 (qz d8h.eq_1 (qz d59.eq_1 (qz b9y.eq_1 (qz c1X.eq_1 (qz c9z.eq_1 (qz c5t.eq_1 (qz b94.eq_1 (qz c9d.eq_1 (qz c4r.eq_1 (qz c6p.eq_1 (qz c0G.eq_1 (qz c3q.eq_1 (qz c6T.eq_1 (qz c9C.eq_1 (qz c51.eq_1 (qz c4B.eq_1 (qz c3x.eq_1 (qz c9x.eq_1 (qz d3x.eq_1 (qz d2h.eq_1 (qy e8Q.eq_1)))))))))))))))))))))))))) := ⟨kr,kr,kr,kr,kr,kr,kr,kr,kr,kr,kr,kr,kr,kr,kr,kr,kr,kr,kr,kr,kr,kr,kr,kr,kr,kr⟩
theorem e6C : FnAt Tryz.prog tb b1X e8Q 66 [.tmp 14] := i9 i8 Tryz.func28 rfl (by kernel_rfl) (by kernel_rfl) rfl rfl
theorem e96 : type_of% ((qw b5o (.reg a7w) kr)) := kr
theorem f0a : type_of% ((qw b5s (.reg a7u) kr)) := kr
def b4p : CC := (.seq (.reg b5U) .ret)
def b4q : CC := (.seq (.reg b5T) .ret)
def b4u : CC := (.seq (.reg b5Q) .ret)
def b30 : CC := (.seq (.reg b5H) .ret)
def b33 : CC := (.cond (tm 38) b30 .skip)
def b3Q : CC := (.seq (.reg a7z) b33)
def b4n : CC := (.cond (tm 34) b4u b3Q)
def b4d : CC := (.seq (.reg a7D) b4n)
def b4l : CC := (.cond (tm 30) b4q b4d)
def b4o : CC := (.seq (.reg a7B) b4l)
def b4t : CC := (.cond (tm 26) b4p b4o)
def b4y : CC := (.seq (.reg a7v) b4t)
theorem e9S : type_of% (qz b4p.eq_1 (qz b4q.eq_1 (qz b4u.eq_1 (qz b30.eq_1 (qz b33.eq_1 (qz b3Q.eq_1 (qz b4n.eq_1 (qz b4d.eq_1 (qz b4l.eq_1 (qz b4o.eq_1 (qz b4t.eq_1 (qz b4y.eq_1 ((qw b5j (.block 0 b4y) kr)))))))))))))) := ⟨kr,kr,kr,kr,kr,kr,kr,kr,kr,kr,kr,kr,kr⟩
theorem e9W : type_of% ((qw b5q (.reg a7j) kr)) := kr
theorem f0i : type_of% ((qw b5k (.reg a7o) kr)) := kr
def b4i : CC := (.cond (tm 52) .skip (.exit 1))
theorem b41 : type_of% (qz b4i.eq_1 ((qw b5u (.seq (.reg a3E) b4i) kr))) := ⟨kr,kr⟩
theorem f0b : type_of% ((qw b5C (.reg a7d) kr)) := kr
def b4h : CC := (.seq (.reg b5m) .ret)
def b4v : CC := (.cond (tm 69) b4h .skip)
theorem f0c : type_of% (qz b4h.eq_1 (qz b4v.eq_1 ((qw b5E (.seq (.reg a7k) b4v) kr)))) := ⟨kr,kr,kr⟩
theorem e93 : type_of% ((qw b5G (.reg a7f) kr)) := kr
def b3Y : CC := (.seq (.reg b5r) .ret)
def b3V : CC := (.cond (tm 85) b3Y .skip)
def b31 : CC := (.seq (.reg a7m) b3V)
def b32 : CC := (.drawn a7b [ (0, 0) , (0, 7) , (0, 8) , (1, 0) , (1, 7) , (4, 0) , (4, 7) , (5, 0) ])
def b3Z : CC := (.seq b31 b32)
def b3P : CC := (.seq (.reg a7s) b3Z)
theorem e9O : type_of% (qz b3Y.eq_1 (qz b3V.eq_1 (qz b31.eq_1 (qz b32.eq_1 (qz b3Z.eq_1 (qz b3P.eq_1 ((qw a6T (.block 4 b3P) kr)))))))) := ⟨kr,kr,kr,kr,kr,kr,kr⟩
theorem e9B : type_of% ((qw b5g (.reg a7e) kr)) := kr
theorem e9L : type_of% ((qw b45 (.seq (.reg a7r) .ret) kr)) := kr
def e0y : CC := (.seq (.reg f7n) .ret)
def d3B : CC := (.seq (.reg f8Q) .ret)
def e3g : CC := (.cond (tm 23) d3B .skip)
def d08 : CC := (.seq (.reg e16) e3g)
def e4T : CC := (.cond (tm 19) e0y d08)
def d9C : CC := (.seq (.reg e2X) e4T)
def e3U : CC := (.block 0 d9C)
def b9h : CC := (.seq (.reg e0r) .ret)
def e4S : CC := (.seq e3U b9h)
def d9b : CC := (.seq (.reg d0i) e4S)
def e7r : CC := (.seq (.reg d7I) d9b)
theorem g2y : type_of% (qz e0y.eq_1 (qz d3B.eq_1 (qz e3g.eq_1 (qz d08.eq_1 (qz e4T.eq_1 (qz d9C.eq_1 (qz e3U.eq_1 (qz b9h.eq_1 (qz e4S.eq_1 (qz d9b.eq_1 (qy e7r.eq_1))))))))))) := ⟨kr,kr,kr,kr,kr,kr,kr,kr,kr,kr,kr⟩
theorem g1y : FnAt Tryz.prog tb a1l e7r 34 [.tmp 8, .tmp 9] := i9 i8 Tryz.func33 rfl (by kernel_rfl) (by kernel_rfl) rfl rfl
def d1x : CC := (.seq (.reg f7S) .ret)
def d5r : CC := (.cond (tm 20) d1x .skip)
def d0X : CC := (.seq (.reg d4i) d5r)
def d4J : CC := (.seq (.reg f7T) .ret)
def e5A : CC := (.cond (tm 29) d4J .skip)
def d3s : CC := (.seq (.reg e1d) e5A)
def c0M : CC := (.cond (tm 34) .skip (.exit 0))
def c5y : CC := (.reg c8u)
def c2J : CC := (.reg c0v)
def c0l : CC := (.cond (tm 40) c2J .skip)
def c23 : CC := (.seq (.reg a9o) c0l)
def c6d : CC := (.cond (tm 38) c5y c23)
def c5r : CC := (.seq (.reg a4o) c6d)
def c3G : CC := (.block 2 c5r)
def b9d : CC := (.seq (.reg a4w) c3G)
def c4v : CC := (.seq (.reg f5t) .ret)
def b9J : CC := (.cond (tm 56) c4v .skip)
def c4M : CC := (.seq (.reg a4e) b9J)
def c7A : CC := (.seq (.drawn a4j [ (0, 0) , (0, 3) , (4, 3) ]) c4M)
def c5H : CC := (.seq b9d c7A)
def c3J : CC := (.seq (.reg a4n) c5H)
def c3K : CC := (.seq (.reg a31) c3J)
def c3I : CC := (.block 1 c3K)
def c5v : CC := (.reg a4g)
def c3n : CC := (.seq c3I c5v)
def c9n : CC := (.seq c0M c3n)
def c2e : CC := (.seq (.reg a2g) c9n)
def b9s : CC := (.loop c2e)
def c4c : CC := (.block 0 b9s)
def b8S : CC := (.seq (.reg c65) c4c)
def c5i : CC := (.cond (tm 62) .skip (.exit 3))
def c4s : CC := (.reg c5N)
def c0B : CC := (.seq (.reg b9F) c4s)
def c8H : CC := (.block 4 c0B)
def c56 : CC := (.reg c73)
def c29 : CC := (.seq c8H c56)
def b9U : CC := (.seq c5i c29)
def c0q : CC := (.seq (.reg a8K) b9U)
def c6P : CC := (.loop c0q)
def c6A : CC := (.block 3 c6P)
def c6Q : CC := (.seq (.reg c8X) c6A)
def c9K : CC := (.seq (.drawn c1N [ (1, 0) ]) .ret)
def c1j : CC := (.seq c6Q c9K)
def c1y : CC := (.seq b8S c1j)
def c0T : CC := (.seq (.reg c5x) c1y)
def c8O : CC := (.seq (.reg d40) c0T)
def c2L : CC := (.seq (.reg d2p) c8O)
def b8M : CC := (.seq (.reg e3u) c2L)
def c3k : CC := (.seq (.reg d82) b8M)
def d8C : CC := (.seq d3s c3k)
def d9P : CC := (.seq (.reg c92) d8C)
def d6R : CC := (.seq d0X d9P)
def e7R : CC := (.seq (.reg d4M) d6R)
theorem a0B : type_of% (qz d1x.eq_1 (qz d5r.eq_1 (qz d0X.eq_1 (qz d4J.eq_1 (qz e5A.eq_1 (qz d3s.eq_1 (qz c0M.eq_1 (qz c5y.eq_1 (qz c2J.eq_1 (qz c0l.eq_1 (qz c23.eq_1 (qz c6d.eq_1 (qz c5r.eq_1 (qz c3G.eq_1 (qz b9d.eq_1 (qz c4v.eq_1 (qz b9J.eq_1 (qz c4M.eq_1 (qz c7A.eq_1 (qz c5H.eq_1 (qz c3J.eq_1 (qz c3K.eq_1 (qz c3I.eq_1 (qz c5v.eq_1 (qz c3n.eq_1 (qz c9n.eq_1 (qz c2e.eq_1 (qz b9s.eq_1 (qz c4c.eq_1 (qz b8S.eq_1 (qz c5i.eq_1 (qz c4s.eq_1 (qz c0B.eq_1 (qz c8H.eq_1 (qz c56.eq_1 (qz c29.eq_1 (qz b9U.eq_1 (qz c0q.eq_1 (qz c6P.eq_1 (qz c6A.eq_1 (qz c6Q.eq_1 (qz c9K.eq_1 (qz c1j.eq_1 (qz c1y.eq_1 (qz c0T.eq_1 (qz c8O.eq_1 (qz c2L.eq_1 (qz b8M.eq_1 (qz c3k.eq_1 (qz d8C.eq_1 (qz d9P.eq_1 (qz d6R.eq_1 (qy e7R.eq_1))))))))))))))))))))))))))))))))))))))))))))))))))))) := ⟨kr,kr,kr,kr,kr,kr,kr,kr,kr,kr,kr,kr,kr,kr,kr,kr,kr,kr,kr,kr,kr,kr,kr,kr,kr,kr,kr,kr,kr,kr,kr,kr,kr,kr,kr,kr,kr,kr,kr,kr,kr,kr,kr,kr,kr,kr,kr,kr,kr,kr,kr,kr,kr⟩
theorem g08 : FnAt Tryz.prog tb a5P e7R 73 [.tmp 6, .tmp 7, .tmp 8] := i9 i8 Tryz.func34 rfl (by kernel_rfl) (by kernel_rfl) rfl rfl
def d5U : CC := (.seq (.reg b1m) .ret)
def d6r : CC := (.cond (tm 12) d5U .skip)
def d0Y : CC := (.seq (.reg a5C) d6r)
def c4k : CC := (.cond (tm 19) .skip (.exit 0))
def c6Y : CC := (.seq (.reg a4M) c4k)
def b91 : CC := (.reg c8A)
def c9u : CC := (.seq (.reg e4h) b91)
def c1l : CC := (.cond (tm 29) c9u .skip)
def c6r : CC := (.seq (.reg b1h) c1l)
def c9P : CC := (.seq (.reg b1k) c6r)
def c0O : CC := (.block 1 c9P)
def c9h : CC := (.reg b0T)
def c6b : CC := (.seq c0O c9h)
def c0R : CC := (.seq c6Y c6b)
def d2G : CC := (.loop c0R)
def d91 : CC := (.block 0 d2G)
def d9t : CC := (.seq (.reg d1p) d91)
def b8T : CC := (.seq (.reg c4H) .ret)
def c1g : CC := (.seq (.reg c14) b8T)
def d8r : CC := (.seq d9t c1g)
def e1A : CC := (.seq d0Y d8r)
def e0h : CC := (.seq (.reg b0S) e1A)
def e8l : CC := (.seq (.reg b0U) e0h)
theorem a0D : type_of% (qz d5U.eq_1 (qz d6r.eq_1 (qz d0Y.eq_1 (qz c4k.eq_1 (qz c6Y.eq_1 (qz b91.eq_1 (qz c9u.eq_1 (qz c1l.eq_1 (qz c6r.eq_1 (qz c9P.eq_1 (qz c0O.eq_1 (qz c9h.eq_1 (qz c6b.eq_1 (qz c0R.eq_1 (qz d2G.eq_1 (qz d91.eq_1 (qz d9t.eq_1 (qz b8T.eq_1 (qz c1g.eq_1 (qz d8r.eq_1 (qz e1A.eq_1 (qz e0h.eq_1 (qy e8l.eq_1))))))))))))))))))))))) := ⟨kr,kr,kr,kr,kr,kr,kr,kr,kr,kr,kr,kr,kr,kr,kr,kr,kr,kr,kr,kr,kr,kr,kr⟩
theorem e6B : FnAt Tryz.prog tb a54 e8l 42 [.tmp 4] := i9 i8 Tryz.func35 rfl (by kernel_rfl) (by kernel_rfl) rfl rfl
def d6b : CC := (.seq (.reg a9D) .ret)
def e8b : CC := (.seq (.reg b00) d6b)
theorem e8x : type_of% (qz d6b.eq_1 (qy e8b.eq_1)) := ⟨kr,kr⟩
theorem f9T : FnAt Tryz.prog tb R5 e8b 5 [.tmp 2] := i9 i8 Tryz.func36 rfl (by kernel_rfl) (by kernel_rfl) rfl rfl
def d4y : CC := (.seq (.reg f7K) .ret)
def d5c : CC := (.cond (tm 19) d4y .skip)
def e31 : CC := (.seq (.reg e4n) d5c)
def c9W : CC := (.seq (.reg e0w) e31)
def c75 : CC := (.seq (.reg f8t) .ret)
def d5O : CC := (.cond (tm 30) c75 .skip)
def e0I : CC := (.seq (.reg d3Z) d5O)
def c82 : CC := (.seq (.reg e0L) .ret)
def e5u : CC := (.seq e0I c82)
def d95 : CC := (.seq (.reg e2G) e5u)
def e37 : CC := (.seq c9W d95)
def e64 : CC := (.seq (.reg d2a) e37)
theorem g2g : type_of% (qz d4y.eq_1 (qz d5c.eq_1 (qz e31.eq_1 (qz c9W.eq_1 (qz c75.eq_1 (qz d5O.eq_1 (qz e0I.eq_1 (qz c82.eq_1 (qz e5u.eq_1 (qz d95.eq_1 (qz e37.eq_1 (qy e64.eq_1)))))))))))) := ⟨kr,kr,kr,kr,kr,kr,kr,kr,kr,kr,kr,kr⟩
theorem g0l : FnAt Tryz.prog tb a0s e64 39 [.tmp 10, .tmp 11, .tmp 12] := i9 i8 Tryz.func38 rfl (by kernel_rfl) (by kernel_rfl) rfl rfl
def d9O : CC := (.seq (.reg f8C) .ret)
def d6m : CC := (.cond (tm 15) d9O .skip)
def d5u : CC := (.seq (.reg d3K) d6m)
def d5X : CC := (.seq (.drawn d1S [ (3, 0) , (7, 0) , (11, 0) , (15, 0) ]) .ret)
def e5q : CC := (.seq d5u d5X)
def d4O : CC := (.seq (.reg d0D) e5q)
def e7V : CC := (.seq (.reg d41) d4O)
theorem g2k : type_of% (qz d9O.eq_1 (qz d6m.eq_1 (qz d5u.eq_1 (qz d5X.eq_1 (qz e5q.eq_1 (qz d4O.eq_1 (qy e7V.eq_1))))))) := ⟨kr,kr,kr,kr,kr,kr,kr⟩
theorem f9W : FnAt Tryz.prog tb a6b e7V 37 [.tmp 6] := i9 i8 Tryz.func39 rfl (by kernel_rfl) (by kernel_rfl) rfl rfl
def e20 : CC := (.seq (.reg f77) .ret)
def d7j : CC := (.cond (tm 17) e20 .skip)
def e5d : CC := (.seq (.reg e2D) d7j)
def e4v : CC := (.seq (.reg f83) .ret)
def d9D : CC := (.cond (tm 29) e4v .skip)
def d4w : CC := (.seq (.reg e22) d9D)
def e1D : CC := (.seq (.reg c9Y) d4w)
def b9Q : CC := (.seq (.reg f7I) .ret)
def c2a : CC := (.cond (tm 39) b9Q .skip)
def c5f : CC := (.seq (.reg d1d) c2a)
def c1h : CC := (.seq (.reg f6k) .ret)
def c9s : CC := (.cond (tm 47) c1h .skip)
def c8m : CC := (.seq (.reg c7X) c9s)
def b9Z : CC := (.seq (.reg d1U) c8m)
def c4l : CC := (.seq (.reg c5L) .ret)
def c88 : CC := (.seq b9Z c4l)
def c9I : CC := (.seq c5f c88)
def c2h : CC := (.seq (.reg d7M) c9I)
def d4I : CC := (.seq e1D c2h)
def e4G : CC := (.seq e5d d4I)
def e83 : CC := (.seq (.reg e2f) e4G)
theorem g2e : type_of% (qz e20.eq_1 (qz d7j.eq_1 (qz e5d.eq_1 (qz e4v.eq_1 (qz d9D.eq_1 (qz d4w.eq_1 (qz e1D.eq_1 (qz b9Q.eq_1 (qz c2a.eq_1 (qz c5f.eq_1 (qz c1h.eq_1 (qz c9s.eq_1 (qz c8m.eq_1 (qz b9Z.eq_1 (qz c4l.eq_1 (qz c88.eq_1 (qz c9I.eq_1 (qz c2h.eq_1 (qz d4I.eq_1 (qz e4G.eq_1 (qy e83.eq_1))))))))))))))))))))) := ⟨kr,kr,kr,kr,kr,kr,kr,kr,kr,kr,kr,kr,kr,kr,kr,kr,kr,kr,kr,kr,kr⟩
theorem g0R : FnAt Tryz.prog tb a55 e83 58 [.tmp 10] := i9 i8 Tryz.func40 rfl (by kernel_rfl) (by kernel_rfl) rfl rfl
def d1G : CC := (.reg e4s)
def e4E : CC := (.cond (tm 21) d1G .skip)
def d0r : CC := (.seq (.reg e0f) e4E)
def d8O : CC := (.seq (.reg d24) d0r)
def d2D : CC := (.seq (.reg d7X) .ret)
def e1p : CC := (.seq d8O d2D)
def e8m : CC := (.seq (.reg d4j) e1p)
theorem g2r : type_of% (qz d1G.eq_1 (qz e4E.eq_1 (qz d0r.eq_1 (qz d8O.eq_1 (qz d2D.eq_1 (qz e1p.eq_1 (qy e8m.eq_1))))))) := ⟨kr,kr,kr,kr,kr,kr,kr⟩
theorem g0A : FnAt Tryz.prog tb a5X e8m 32 [.tmp 6, .tmp 7, .tmp 8, .tmp 9] := i9 i8 Tryz.func41 rfl (by kernel_rfl) (by kernel_rfl) rfl rfl
def d0H : CC := (.seq (.reg f8N) .ret)
def d3U : CC := (.cond (tm 12) d0H .skip)
def d9A : CC := (.seq (.reg d7v) d3U)
def c1v : CC := (.cond (tm 30) .skip (.exit 0))
def b9P : CC := (.reg b87)
def c5m : CC := (.seq (.reg c2H) b9P)
def c1F : CC := (.block 1 c5m)
def c26 : CC := (.reg c2j)
def c3Y : CC := (.seq c1F c26)
def c1I : CC := (.seq c1v c3Y)
def c2w : CC := (.seq (.reg a83) c1I)
def b92 : CC := (.loop c2w)
def c30 : CC := (.block 0 b92)
def b8K : CC := (.seq (.reg e2Q) c30)
def c6w : CC := (.seq (.reg c8P) .ret)
def c8U : CC := (.seq (.reg c8C) c6w)
def c8e : CC := (.seq (.reg c8x) c8U)
def c72 : CC := (.seq b8K c8e)
def c9p : CC := (.seq (.reg e2C) c72)
def d05 : CC := (.seq (.reg d4B) c9p)
def e0O : CC := (.seq (.reg e2I) d05)
def e1b : CC := (.seq (.reg d96) e0O)
def e1u : CC := (.seq (.reg d4G) e1b)
def d5P : CC := (.seq (.reg d8p) e1u)
def d5E : CC := (.seq d9A d5P)
def e7Q : CC := (.seq (.reg d85) d5E)
theorem b2m : type_of% (qz d0H.eq_1 (qz d3U.eq_1 (qz d9A.eq_1 (qz c1v.eq_1 (qz b9P.eq_1 (qz c5m.eq_1 (qz c1F.eq_1 (qz c26.eq_1 (qz c3Y.eq_1 (qz c1I.eq_1 (qz c2w.eq_1 (qz b92.eq_1 (qz c30.eq_1 (qz b8K.eq_1 (qz c6w.eq_1 (qz c8U.eq_1 (qz c8e.eq_1 (qz c72.eq_1 (qz c9p.eq_1 (qz d05.eq_1 (qz e0O.eq_1 (qz e1b.eq_1 (qz e1u.eq_1 (qz d5P.eq_1 (qz d5E.eq_1 (qy e7Q.eq_1)))))))))))))))))))))))))) := ⟨kr,kr,kr,kr,kr,kr,kr,kr,kr,kr,kr,kr,kr,kr,kr,kr,kr,kr,kr,kr,kr,kr,kr,kr,kr,kr⟩
theorem g0X : FnAt Tryz.prog tb a5D e7Q 55 [.cell 2 s9, .tmp 3] := i9 i8 Tryz.func42 rfl (by kernel_rfl) (by kernel_rfl) rfl rfl
def d6q : CC := (.seq (.reg e0W) .ret)
def e7v : CC := (.seq (.reg e0M) d6q)
theorem g2n : type_of% (qz d6q.eq_1 (qy e7v.eq_1)) := ⟨kr,kr⟩
theorem g0c : FnAt Tryz.prog tb a0y e7v 11 [.tmp 6] := i9 i8 Tryz.func55 rfl (by kernel_rfl) (by kernel_rfl) rfl rfl
def d1R : CC := (.seq (.reg f7N) .ret)
def d4q : CC := (.cond (tm 22) d1R .skip)
def d3J : CC := (.seq (.reg e3I) d4q)
def c2U : CC := (.seq (.reg d9G) .ret)
def c6Z : CC := (.seq (.reg d8A) c2U)
def d1D : CC := (.seq (.reg e4o) c6Z)
def d7m : CC := (.seq (.reg d9Z) d1D)
def e4D : CC := (.seq (.reg d7s) d7m)
def e3X : CC := (.seq (.reg d9r) e4D)
def e0i : CC := (.seq (.reg d3Y) e3X)
def d0j : CC := (.seq d3J e0i)
def e7T : CC := (.seq (.reg e3L) d0j)
theorem g1N : type_of% (qz d1R.eq_1 (qz d4q.eq_1 (qz d3J.eq_1 (qz c2U.eq_1 (qz c6Z.eq_1 (qz d1D.eq_1 (qz d7m.eq_1 (qz e4D.eq_1 (qz e3X.eq_1 (qz e0i.eq_1 (qz d0j.eq_1 (qy e7T.eq_1)))))))))))) := ⟨kr,kr,kr,kr,kr,kr,kr,kr,kr,kr,kr,kr⟩
theorem g0M : FnAt Tryz.prog tb a5N e7T 53 [.tmp 2, .tmp 3] := i9 i8 Tryz.func57 rfl (by kernel_rfl) (by kernel_rfl) rfl rfl
def d0d : CC := (.seq (.reg f8i) .ret)
def d2I : CC := (.cond (tm 23) d0d .skip)
def d1z : CC := (.seq (.reg d8N) d2I)
def e4C : CC := (.seq (.reg d7A) .ret)
def e5H : CC := (.seq d1z e4C)
def d5s : CC := (.seq (.reg d7i) e5H)
def e8w : CC := (.seq (.reg d1P) d5s)
theorem g2A : type_of% (qz d0d.eq_1 (qz d2I.eq_1 (qz d1z.eq_1 (qz e4C.eq_1 (qz e5H.eq_1 (qz d5s.eq_1 (qy e8w.eq_1))))))) := ⟨kr,kr,kr,kr,kr,kr,kr⟩
theorem g0h : FnAt Tryz.prog tb a2R e8w 24 [.tmp 2] := i9 i8 Tryz.func58 rfl (by kernel_rfl) (by kernel_rfl) rfl rfl
theorem e9D : type_of% ((qw b5a (.reg a7q) kr)) := kr
def b4a : CC := (.seq (.reg b5x) .ret)
def b3T : CC := (.seq (.reg b5w) .ret)
def b38 : CC := (.cond (tm 26) b3T .skip)
def b3N : CC := (.seq (.reg a7i) b38)
def b3S : CC := (.cond (tm 19) b4a b3N)
def b39 : CC := (.seq (.reg a7c) b3S)
theorem e9F : type_of% (qz b4a.eq_1 (qz b3T.eq_1 (qz b38.eq_1 (qz b3N.eq_1 (qz b3S.eq_1 (qz b39.eq_1 ((qw b5f (.block 0 b39) kr)))))))) := ⟨kr,kr,kr,kr,kr,kr,kr⟩
theorem e9N : type_of% ((qw b42 (.reg a7l) kr)) := kr
def b3O : CC := (.seq (.drawn b5A [ (0, 0) , (0, 2) ]) .ret)
def b35 : CC := (.cond (tm 38) b3O .skip)
theorem e9P : type_of% (qz b3O.eq_1 (qz b35.eq_1 ((qw b5e (.seq (.reg a7n) b35) kr)))) := ⟨kr,kr,kr⟩
theorem e9J : type_of% ((qw b48 (.drawn a7g [ (0, 0) , (5, 0) , (6, 0) ]) kr)) := kr
theorem e9M : type_of% ((qw b43 (.reg a7h) kr)) := kr
theorem e9E : type_of% ((qw b5d (.reg a6V) kr)) := kr
def b36 : CC := (.seq (.reg b44) .ret)
def b3W : CC := (.cond (tm 64) b36 .skip)
def b37 : CC := (.seq (.reg a3B) b3W)
def b34 : CC := (.cond (tm 67) (.exit 2) .skip)
def b3X : CC := (.seq (.reg a3z) b34)
def b3r : CC := (.seq (.reg b5h) .ret)
def b3L : CC := (.cond (tm 75) b3r .skip)
def b3o : CC := (.seq (.reg a69) b3L)
def b3j : CC := (.drawn a6S [ (0, 0) , (2, 0) , (3, 0) , (6, 0) , (8, 0) , (9, 0) ])
def b3I : CC := (.seq b3o b3j)
def b3R : CC := (.seq (.reg a67) b3I)
def b4c : CC := (.seq b3X b3R)
def b3U : CC := (.seq b37 b4c)
def b4b : CC := (.seq (.reg a3C) b3U)
theorem b4J : type_of% (qz b36.eq_1 (qz b3W.eq_1 (qz b37.eq_1 (qz b34.eq_1 (qz b3X.eq_1 (qz b3r.eq_1 (qz b3L.eq_1 (qz b3o.eq_1 (qz b3j.eq_1 (qz b3I.eq_1 (qz b3R.eq_1 (qz b4c.eq_1 (qz b3U.eq_1 (qz b4b.eq_1 ((qw a6Z (.block 2 b4b) kr)))))))))))))))) := ⟨kr,kr,kr,kr,kr,kr,kr,kr,kr,kr,kr,kr,kr,kr,kr⟩
theorem e9y : type_of% ((qw b47 (.seq (.reg a6X) .ret) kr)) := kr
def e5x : CC := (.reg f8D)
def e0d : CC := (.cond (tm 6) e5x .skip)
def e0c : CC := (.seq (.reg d9M) e0d)
def d6X : CC := (.seq (.reg d1H) .ret)
def d1n : CC := (.seq e0c d6X)
def e85 : CC := (.seq (.reg d9g) d1n)
theorem g2J : type_of% (qz e5x.eq_1 (qz e0d.eq_1 (qz e0c.eq_1 (qz d6X.eq_1 (qz d1n.eq_1 (qy e85.eq_1)))))) := ⟨kr,kr,kr,kr,kr,kr⟩
theorem f98 : FnAt Tryz.prog tb b1B e85 9 [.tmp 4] := i9 i8 Tryz.func60 rfl (by kernel_rfl) (by kernel_rfl) rfl rfl
def d8j : CC := (.seq (.reg f8e) .ret)
def d2R : CC := (.cond (tm 11) d8j .skip)
def d5A : CC := (.seq (.reg d69) d2R)
def e1F : CC := (.seq (.reg f8A) .ret)
def d30 : CC := (.cond (tm 19) e1F .skip)
def e2d : CC := (.seq (.reg e5G) d30)
def c8z : CC := (.seq (.reg e1I) .ret)
def c6C : CC := (.seq (.reg e27) c8z)
def c8f : CC := (.seq (.reg e0t) c6C)
def c7J : CC := (.seq (.reg d9B) c8f)
def d1A : CC := (.seq e2d c7J)
def e2R : CC := (.seq (.reg d0y) d1A)
def d2v : CC := (.seq d5A e2R)
def e77 : CC := (.seq (.reg c9V) d2v)
theorem g1C : type_of% (qz d8j.eq_1 (qz d2R.eq_1 (qz d5A.eq_1 (qz e1F.eq_1 (qz d30.eq_1 (qz e2d.eq_1 (qz c8z.eq_1 (qz c6C.eq_1 (qz c8f.eq_1 (qz c7J.eq_1 (qz d1A.eq_1 (qz e2R.eq_1 (qz d2v.eq_1 (qy e77.eq_1)))))))))))))) := ⟨kr,kr,kr,kr,kr,kr,kr,kr,kr,kr,kr,kr,kr,kr⟩
theorem g1r : FnAt Tryz.prog tb b1u e77 40 [.cell 2 y6, .tmp 3] := i9 i8 Tryz.func61 rfl (by kernel_rfl) (by kernel_rfl) rfl rfl
def d72 : CC := (.seq (.reg a4F) .ret)
def d0x : CC := (.cond (tm 20) d72 .skip)
def e2N : CC := (.seq (.reg a0p) d0x)
def c4n : CC := (.seq (.reg d0g) .ret)
def d7O : CC := (.seq (.reg d5l) c4n)
def e5B : CC := (.seq (.reg e3T) d7O)
def d0T : CC := (.cond (tm 22) e5B .skip)
def e5k : CC := (.seq (.reg a4V) d0T)
def c3U : CC := (.cond (tm 38) .skip (.exit 0))
def c4p : CC := (.seq (.reg f5h) .ret)
def c6q : CC := (.cond (tm 51) c4p .skip)
def c7q : CC := (.seq (.reg a8W) c6q)
def c4E : CC := (.reg c0A)
def c2P : CC := (.cond (tm 57) c4E .skip)
def c5d : CC := (.seq (.reg a8I) c2P)
def c9r : CC := (.seq (.reg f6R) .ret)
def b9W : CC := (.cond (tm 73) c9r .skip)
def c0X : CC := (.seq (.reg a8S) b9W)
def c2C : CC := (.seq (.reg a84) c0X)
def c9t : CC := (.seq c5d c2C)
def b9N : CC := (.seq (.reg a80) c9t)
def c63 : CC := (.seq c7q b9N)
def c86 : CC := (.seq (.reg a8O) c63)
def b9Y : CC := (.seq (.reg a9f) c86)
def c3z : CC := (.block 1 b9Y)
def c3r : CC := (.reg a8D)
def b9V : CC := (.seq c3z c3r)
def c1R : CC := (.seq c3U b9V)
def c7c : CC := (.seq (.reg a2w) c1R)
def c09 : CC := (.loop c7c)
def c1S : CC := (.block 0 c09)
def c6u : CC := (.seq (.reg b1f) c1S)
def c3S : CC := (.seq (.reg a9x) .ret)
def c03 : CC := (.seq c6u c3S)
def c6M : CC := (.seq (.reg a9Y) c03)
def e0a : CC := (.seq e5k c6M)
def e18 : CC := (.seq e2N e0a)
def e7m : CC := (.seq (.reg a0l) e18)
theorem O6 : type_of% (qz d72.eq_1 (qz d0x.eq_1 (qz e2N.eq_1 (qz c4n.eq_1 (qz d7O.eq_1 (qz e5B.eq_1 (qz d0T.eq_1 (qz e5k.eq_1 (qz c3U.eq_1 (qz c4p.eq_1 (qz c6q.eq_1 (qz c7q.eq_1 (qz c4E.eq_1 (qz c2P.eq_1 (qz c5d.eq_1 (qz c9r.eq_1 (qz b9W.eq_1 (qz c0X.eq_1 (qz c2C.eq_1 (qz c9t.eq_1 (qz b9N.eq_1 (qz c63.eq_1 (qz c86.eq_1 (qz b9Y.eq_1 (qz c3z.eq_1 (qz c3r.eq_1 (qz b9V.eq_1 (qz c1R.eq_1 (qz c7c.eq_1 (qz c09.eq_1 (qz c1S.eq_1 (qz c6u.eq_1 (qz c3S.eq_1 (qz c03.eq_1 (qz c6M.eq_1 (qz e0a.eq_1 (qz e18.eq_1 (qy e7m.eq_1)))))))))))))))))))))))))))))))))))))) := ⟨kr,kr,kr,kr,kr,kr,kr,kr,kr,kr,kr,kr,kr,kr,kr,kr,kr,kr,kr,kr,kr,kr,kr,kr,kr,kr,kr,kr,kr,kr,kr,kr,kr,kr,kr,kr,kr,kr⟩
theorem a1r : FnAt Tryz.prog tb K7 e7m 76 [.tmp 13] := i9 i8 Tryz.func64 rfl (by kernel_rfl) (by kernel_rfl) rfl rfl
def d1k : CC := (.seq (.reg e2M) .ret)
def e5f : CC := (.seq (.reg e1k) d1k)
def d2L : CC := (.cond (tm 14) e5f .skip)
def d1M : CC := (.seq (.reg b0d) d2L)
def c9A : CC := (.seq (.reg f8X) .ret)
def e0e : CC := (.cond (tm 37) c9A .skip)
def e0Q : CC := (.seq (.reg e0j) e0e)
def c8Y : CC := (.seq (.reg d3I) .ret)
def d2E : CC := (.seq e0Q c8Y)
def d8q : CC := (.seq (.reg e00) d2E)
def d9y : CC := (.seq d1M d8q)
def e8c : CC := (.seq (.reg b1d) d9y)
theorem e8I : type_of% (qz d1k.eq_1 (qz e5f.eq_1 (qz d2L.eq_1 (qz d1M.eq_1 (qz c9A.eq_1 (qz e0e.eq_1 (qz e0Q.eq_1 (qz c8Y.eq_1 (qz d2E.eq_1 (qz d8q.eq_1 (qz d9y.eq_1 (qy e8c.eq_1)))))))))))) := ⟨kr,kr,kr,kr,kr,kr,kr,kr,kr,kr,kr,kr⟩
theorem e6D : FnAt Tryz.prog tb W8 e8c 46 [.tmp 6, .tmp 7] := i9 i8 Tryz.func65 rfl (by kernel_rfl) (by kernel_rfl) rfl rfl
def d3n : CC := (.seq (.reg e39) .ret)
def d7S : CC := (.seq (.reg d0u) .ret)
def d3g : CC := (.cond (tm 11) d7S .skip)
def c9T : CC := (.seq (.reg b0H) d3g)
def d6Z : CC := (.cond (tm 6) d3n c9T)
def d6w : CC := (.seq (.reg a5p) d6Z)
def d4l : CC := (.block 0 d6w)
def d6S : CC := (.seq (.reg a4A) d4l)
def c0g : CC := (.seq (.reg d7F) .ret)
def e5m : CC := (.seq d6S c0g)
def e8f : CC := (.seq (.reg a5a) e5m)
theorem b2A : type_of% (qz d3n.eq_1 (qz d7S.eq_1 (qz d3g.eq_1 (qz c9T.eq_1 (qz d6Z.eq_1 (qz d6w.eq_1 (qz d4l.eq_1 (qz d6S.eq_1 (qz c0g.eq_1 (qz e5m.eq_1 (qy e8f.eq_1))))))))))) := ⟨kr,kr,kr,kr,kr,kr,kr,kr,kr,kr,kr⟩
theorem g1h : FnAt Tryz.prog tb a2Q e8f 21 [.tmp 4] := i9 i8 Tryz.func66 rfl (by kernel_rfl) (by kernel_rfl) rfl rfl
def d8c : CC := (.cond (tm 9) .skip (.exit 0))
def c7s : CC := (.seq (.reg d0v) .ret)
def c4A : CC := (.cond (tm 16) c7s .skip)
def c7S : CC := (.seq (.reg b0X) c4A)
def c5B : CC := (.seq (.reg b0p) c7S)
def d0V : CC := (.block 1 c5B)
def c7B : CC := (.reg e1T)
def e2H : CC := (.seq d0V c7B)
def e46 : CC := (.seq d8c e2H)
def d3b : CC := (.seq (.reg a2q) e46)
def d5Z : CC := (.loop d3b)
def d3h : CC := (.block 0 d5Z)
def e30 : CC := (.seq (.reg a9N) d3h)
def c6g : CC := (.seq (.reg b06) .ret)
def d9p : CC := (.seq e30 c6g)
def e7Y : CC := (.seq (.reg a91) d9p)
theorem a1B : type_of% (qz d8c.eq_1 (qz c7s.eq_1 (qz c4A.eq_1 (qz c7S.eq_1 (qz c5B.eq_1 (qz d0V.eq_1 (qz c7B.eq_1 (qz e2H.eq_1 (qz e46.eq_1 (qz d3b.eq_1 (qz d5Z.eq_1 (qz d3h.eq_1 (qz e30.eq_1 (qz c6g.eq_1 (qz d9p.eq_1 (qy e7Y.eq_1)))))))))))))))) := ⟨kr,kr,kr,kr,kr,kr,kr,kr,kr,kr,kr,kr,kr,kr,kr,kr⟩
theorem e6U : FnAt Tryz.prog tb a59 e7Y 19 [.tmp 4] := i9 i8 Tryz.func67 rfl (by kernel_rfl) (by kernel_rfl) rfl rfl
def d4V : CC := (.cond (tm 9) .skip (.exit 0))
def c3y : CC := (.seq (.reg d2g) .ret)
def c4e : CC := (.cond (tm 16) c3y .skip)
def b9r : CC := (.seq (.reg b1b) c4e)
def c9e : CC := (.seq (.reg b0k) b9r)
def d9K : CC := (.block 1 c9e)
def c8I : CC := (.reg d0t)
def e3k : CC := (.seq d9K c8I)
def d9j : CC := (.seq d4V e3k)
def e2O : CC := (.seq (.reg a40) d9j)
def d4F : CC := (.loop e2O)
def d4a : CC := (.block 0 d4F)
def d3W : CC := (.seq (.reg d6h) d4a)
def c06 : CC := (.seq (.reg d8a) .ret)
def d5w : CC := (.seq d3W c06)
def e8B : CC := (.seq (.reg d33) d5w)
theorem a6v : type_of% (qz d4V.eq_1 (qz c3y.eq_1 (qz c4e.eq_1 (qz b9r.eq_1 (qz c9e.eq_1 (qz d9K.eq_1 (qz c8I.eq_1 (qz e3k.eq_1 (qz d9j.eq_1 (qz e2O.eq_1 (qz d4F.eq_1 (qz d4a.eq_1 (qz d3W.eq_1 (qz c06.eq_1 (qz d5w.eq_1 (qy e8B.eq_1)))))))))))))))) := ⟨kr,kr,kr,kr,kr,kr,kr,kr,kr,kr,kr,kr,kr,kr,kr,kr⟩
theorem g1b : FnAt Tryz.prog tb a52 e8B 19 [.tmp 4] := i9 i8 Tryz.func70 rfl (by kernel_rfl) (by kernel_rfl) rfl rfl
def e0o : CC := (.seq (.reg e0m) .ret)
def e8O : CC := (.seq (.reg d5m) e0o)
theorem g1W : type_of% (qz e0o.eq_1 (qy e8O.eq_1)) := ⟨kr,kr⟩
theorem f95 : FnAt Tryz.prog tb a1i e8O 8 [.tmp 3] := i9 i8 Tryz.func71 rfl (by kernel_rfl) (by kernel_rfl) rfl rfl
def d6z : CC := (.seq (.reg f7D) .ret)
def e2j : CC := (.seq (.reg f80) .ret)
def d7C : CC := (.cond (tm 14) e2j .skip)
def d45 : CC := (.seq (.reg d7B) d7C)
def d0F : CC := (.cond (tm 5) d6z d45)
def d7c : CC := (.seq (.reg d7P) d0F)
def e4p : CC := (.block 0 d7c)
def c3p : CC := (.seq (.reg d0p) .ret)
def c5s : CC := (.seq (.drawn d6C [ (4, 0) , (6, 0) ]) c3p)
def c4F : CC := (.seq (.reg e25) c5s)
def e1m : CC := (.seq (.reg d7E) c4F)
def e5j : CC := (.seq e4p e1m)
def e7f : CC := (.seq (.reg e24) e5j)
theorem g1H : type_of% (qz d6z.eq_1 (qz e2j.eq_1 (qz d7C.eq_1 (qz d45.eq_1 (qz d0F.eq_1 (qz d7c.eq_1 (qz e4p.eq_1 (qz c3p.eq_1 (qz c5s.eq_1 (qz c4F.eq_1 (qz e1m.eq_1 (qz e5j.eq_1 (qy e7f.eq_1))))))))))))) := ⟨kr,kr,kr,kr,kr,kr,kr,kr,kr,kr,kr,kr,kr⟩
theorem g0P : FnAt Tryz.prog tb a5H e7f 44 [.tmp 2, .tmp 3] := i9 i8 Tryz.func72 rfl (by kernel_rfl) (by kernel_rfl) rfl rfl
theorem e9o : type_of% ((qw b4Y (.reg a6W) kr)) := kr
def b3z : CC := (.seq (.reg b46) .ret)
def b3v : CC := (.cond (tm 25) b3z .skip)
theorem e9q : type_of% (qz b3z.eq_1 (qz b3v.eq_1 ((qw b4S (.seq (.reg a66) b3v) kr)))) := ⟨kr,kr,kr⟩
def b21 : CC := (.seq (.reg b5i) .ret)
def b3q : CC := (.cond (tm 45) b21 .skip)
def b25 : CC := (.seq (.reg a65) b3q)
theorem e9s : type_of% (qz b21.eq_1 (qz b3q.eq_1 (qz b25.eq_1 ((qw b4U (.seq (.reg a7a) b25) kr))))) := ⟨kr,kr,kr,kr⟩
theorem e9r : type_of% ((qw b4N (.reg a6Y) kr)) := kr
def b3h : CC := (.seq (.reg b49) .ret)
def b24 : CC := (.cond (tm 60) b3h .skip)
theorem e9t : type_of% (qz b3h.eq_1 (qz b24.eq_1 ((qw b4O (.seq (.reg a68) b24) kr)))) := ⟨kr,kr,kr⟩
def b3B : CC := (.seq (.reg b4V) .ret)
def b3x : CC := (.cond (tm 80) b3B .skip)
def b3s : CC := (.seq (.reg a6C) b3x)
def b3p : CC := (.seq (.drawn a6B [ (0, 0) , (1, 0) , (5, 0) ]) b3s)
def b3J : CC := (.cond (tm 71) b3p .skip)
theorem b4r : type_of% (qz b3B.eq_1 (qz b3x.eq_1 (qz b3s.eq_1 (qz b3p.eq_1 (qz b3J.eq_1 ((qw b40 (.seq (.drawn a3D [ (0, 0) , (1, 0) , (4, 0) , (8, 0) ]) b3J) kr))))))) := ⟨kr,kr,kr,kr,kr,kr⟩
theorem e9v : type_of% ((qw b4P (.reg a6R) kr)) := kr
def b3k : CC := (.seq (.reg a6H) .ret)
def b3i : CC := (.cond (tm 95) b3k .skip)
def b28 : CC := (.seq (.reg a1I) b3i)
def b2T : CC := (.seq (.reg b4X) .ret)
def b2W : CC := (.cond (tm 109) b2T .skip)
def b2P : CC := (.seq (.reg a6I) b2W)
def b20 : CC := (.seq (.reg a6L) b2P)
def b3H : CC := (.cond (tm 101) b20 .skip)
def b3c : CC := (.seq (.reg a3y) b3H)
def b2Y : CC := (.seq (.reg b4Z) .ret)
def b2M : CC := (.cond (tm 127) b2Y .skip)
def b2O : CC := (.seq (.reg a6M) b2M)
def a6A : CC := (.seq (.reg a6E) b2O)
def a6z : CC := (.seq (.drawn a3v [ (2, 0) , (4, 0) , (5, 0) , (6, 0) , (8, 0) , (9, 0) ]) a6A)
def b3f : CC := (.seq b3c a6z)
def b3w : CC := (.seq (.reg a3x) b3f)
def b23 : CC := (.seq b28 b3w)
def b3E : CC := (.seq (.reg a6P) b23)
theorem a1G : type_of% (qz b3k.eq_1 (qz b3i.eq_1 (qz b28.eq_1 (qz b2T.eq_1 (qz b2W.eq_1 (qz b2P.eq_1 (qz b20.eq_1 (qz b3H.eq_1 (qz b3c.eq_1 (qz b2Y.eq_1 (qz b2M.eq_1 (qz b2O.eq_1 (qz a6A.eq_1 (qz b3f.eq_1 (qz b3w.eq_1 (qz b23.eq_1 (qz b3E.eq_1 ((qw a6J (.block 1 b3E) kr))))))))))))))))))) := ⟨kr,kr,kr,kr,kr,kr,kr,kr,kr,kr,kr,kr,kr,kr,kr,kr,kr,kr⟩
theorem e9j : ∀ Q fr m, GX Tryz.prog tb a6z Q fr m = GX Tryz.prog tb (.seq (.drawn a3v [ (2, 0) , (4, 0) , (5, 0) , (6, 0) , (8, 0) , (9, 0) ]) a6A) Q fr m := kr
theorem e9x : type_of% ((qw b4W (.seq (.reg a6O) .ret) kr)) := kr
def d6t : CC := (.seq (.reg f7w) .ret)
def d0l : CC := (.cond (tm 21) d6t .skip)
def d1L : CC := (.seq (.reg e0n) d0l)
def c2X : CC := (.seq (.reg f7z) .ret)
def d3p : CC := (.cond (tm 54) c2X .skip)
def d62 : CC := (.seq (.reg d53) d3p)
def e5D : CC := (.seq (.reg d51) d62)
def c7e : CC := (.cond (tm 70) .skip (.exit 0))
def c6a : CC := (.seq (.reg f6t) .ret)
def c2G : CC := (.cond (tm 81) c6a .skip)
def c8D : CC := (.seq (.reg c4D) c2G)
def c7E : CC := (.seq (.reg c5c) c8D)
def c3L : CC := (.seq (.reg b9q) c7E)
def c8Z : CC := (.block 1 c3L)
def c7L : CC := (.reg c5D)
def c0Y : CC := (.seq c8Z c7L)
def c0r : CC := (.seq c7e c0Y)
def c6R : CC := (.seq (.reg b0V) c0r)
def c40 : CC := (.loop c6R)
def c2o : CC := (.block 0 c40)
def c66 : CC := (.seq (.reg d70) c2o)
def c9F : CC := (.seq (.reg f7l) .ret)
def c3P : CC := (.cond (tm 91) c9F .skip)
def c2n : CC := (.seq (.reg c5Y) c3P)
def c43 : CC := (.seq (.reg c3V) c2n)
def c5S : CC := (.seq (.reg f6a) .ret)
def c3E : CC := (.cond (tm 105) c5S .skip)
def c1G : CC := (.seq (.reg b9e) c3E)
def c5J : CC := (.seq (.reg c1L) c1G)
def b9w : CC := (.seq (.reg f5c) .ret)
def c7M : CC := (.cond (tm 115) b9w .skip)
def c9Q : CC := (.seq (.reg c36) c7M)
def b9D : CC := (.seq (.reg c7g) .ret)
def c5R : CC := (.seq (.reg c9l) b9D)
def c81 : CC := (.seq c9Q c5R)
def c3s : CC := (.seq (.reg c9J) c81)
def c2R : CC := (.seq c5J c3s)
def c8o : CC := (.seq c43 c2R)
def c50 : CC := (.seq c66 c8o)
def c9B : CC := (.seq (.drawn d50 [ (5, 0) , (12, 0) ]) c50)
def e2z : CC := (.seq e5D c9B)
def d6E : CC := (.seq (.reg d4t) e2z)
def d9I : CC := (.seq d1L d6E)
def e8V : CC := (.seq (.reg d2Y) d9I)
theorem b2k : type_of% (qz d6t.eq_1 (qz d0l.eq_1 (qz d1L.eq_1 (qz c2X.eq_1 (qz d3p.eq_1 (qz d62.eq_1 (qz e5D.eq_1 (qz c7e.eq_1 (qz c6a.eq_1 (qz c2G.eq_1 (qz c8D.eq_1 (qz c7E.eq_1 (qz c3L.eq_1 (qz c8Z.eq_1 (qz c7L.eq_1 (qz c0Y.eq_1 (qz c0r.eq_1 (qz c6R.eq_1 (qz c40.eq_1 (qz c2o.eq_1 (qz c66.eq_1 (qz c9F.eq_1 (qz c3P.eq_1 (qz c2n.eq_1 (qz c43.eq_1 (qz c5S.eq_1 (qz c3E.eq_1 (qz c1G.eq_1 (qz c5J.eq_1 (qz b9w.eq_1 (qz c7M.eq_1 (qz c9Q.eq_1 (qz b9D.eq_1 (qz c5R.eq_1 (qz c81.eq_1 (qz c3s.eq_1 (qz c2R.eq_1 (qz c8o.eq_1 (qz c50.eq_1 (qz c9B.eq_1 (qz e2z.eq_1 (qz d6E.eq_1 (qz d9I.eq_1 (qy e8V.eq_1)))))))))))))))))))))))))))))))))))))))))))) := ⟨kr,kr,kr,kr,kr,kr,kr,kr,kr,kr,kr,kr,kr,kr,kr,kr,kr,kr,kr,kr,kr,kr,kr,kr,kr,kr,kr,kr,kr,kr,kr,kr,kr,kr,kr,kr,kr,kr,kr,kr,kr,kr,kr,kr⟩
theorem g07 : FnAt Tryz.prog tb a5Z e8V 124 [.tmp 8] := i9 i8 Tryz.func75 rfl (by kernel_rfl) (by kernel_rfl) rfl rfl
def d8Y : CC := (.seq (.reg e0E) .ret)
def e2k : CC := (.cond (tm 17) d8Y .skip)
def d1c : CC := (.seq (.reg a4I) e2k)
def c0W : CC := (.seq (.reg d3H) .ret)
def d3O : CC := (.cond (tm 46) c0W .skip)
def d2n : CC := (.seq (.reg b0f) d3O)
def c3N : CC := (.seq (.reg f8l) .ret)
def c5O : CC := (.cond (tm 58) c3N .skip)
def b81 : CC := (.seq (.reg e06) c5O)
def c60 : CC := (.seq (.reg c2B) .ret)
def b8H : CC := (.seq (.reg c0P) c60)
def c25 : CC := (.seq b81 b8H)
def c6n : CC := (.seq (.reg e3r) c25)
def e2w : CC := (.seq d2n c6n)
def d4H : CC := (.seq (.drawn b1t [ (3, 0) , (7, 0) , (11, 0) , (17, 0) ]) e2w)
def d8e : CC := (.seq d1c d4H)
def d8f : CC := (.seq (.reg a5w) d8e)
def e75 : CC := (.seq (.reg a42) d8f)
theorem b2o : type_of% (qz d8Y.eq_1 (qz e2k.eq_1 (qz d1c.eq_1 (qz c0W.eq_1 (qz d3O.eq_1 (qz d2n.eq_1 (qz c3N.eq_1 (qz c5O.eq_1 (qz b81.eq_1 (qz c60.eq_1 (qz b8H.eq_1 (qz c25.eq_1 (qz c6n.eq_1 (qz e2w.eq_1 (qz d4H.eq_1 (qz d8e.eq_1 (qz d8f.eq_1 (qy e75.eq_1)))))))))))))))))) := ⟨kr,kr,kr,kr,kr,kr,kr,kr,kr,kr,kr,kr,kr,kr,kr,kr,kr,kr⟩
theorem b2i : FnAt Tryz.prog tb a5Y e75 67 [.tmp 4] := i9 i8 Tryz.func76 rfl (by kernel_rfl) (by kernel_rfl) rfl rfl
def d0b : CC := (.seq (.reg f9A) .ret)
def e2B : CC := (.cond (tm 14) d0b .skip)
def d1C : CC := (.seq (.reg a5z) e2B)
def d3S : CC := (.seq (.reg a4Z) d1C)
def c79 : CC := (.cond (tm 27) .skip (.exit 0))
def c69 : CC := (.seq (.reg b0w) .ret)
def c4m : CC := (.cond (tm 36) c69 .skip)
def c2z : CC := (.seq (.reg a1b) c4m)
def c4y : CC := (.seq (.reg a1f) c2z)
def c3t : CC := (.seq (.reg a1a) c4y)
def c2W : CC := (.block 1 c3t)
def c8Q : CC := (.reg a4y)
def c5I : CC := (.seq c2W c8Q)
def c5h : CC := (.seq c79 c5I)
def c0C : CC := (.seq (.reg a0j) c5h)
def d5Q : CC := (.loop c0C)
def e2T : CC := (.block 0 d5Q)
def d19 : CC := (.seq (.drawn a5l [ (3, 0) , (7, 0) ]) e2T)
def c1K : CC := (.seq (.reg c3u) .ret)
def d7U : CC := (.seq d19 c1K)
def d4W : CC := (.seq d3S d7U)
def e8o : CC := (.seq (.reg a48) d4W)
theorem S8 : type_of% (qz d0b.eq_1 (qz e2B.eq_1 (qz d1C.eq_1 (qz d3S.eq_1 (qz c79.eq_1 (qz c69.eq_1 (qz c4m.eq_1 (qz c2z.eq_1 (qz c4y.eq_1 (qz c3t.eq_1 (qz c2W.eq_1 (qz c8Q.eq_1 (qz c5I.eq_1 (qz c5h.eq_1 (qz c0C.eq_1 (qz d5Q.eq_1 (qz e2T.eq_1 (qz d19.eq_1 (qz c1K.eq_1 (qz d7U.eq_1 (qz d4W.eq_1 (qy e8o.eq_1)))))))))))))))))))))) := ⟨kr,kr,kr,kr,kr,kr,kr,kr,kr,kr,kr,kr,kr,kr,kr,kr,kr,kr,kr,kr,kr,kr⟩
theorem b2a : FnAt Tryz.prog tb K8 e8o 48 [.tmp 4, .tmp 5] := i9 i8 Tryz.func77 rfl (by kernel_rfl) (by kernel_rfl) rfl rfl
def d2B : CC := (.cond (tm 11) .skip (.exit 0))
def d2X : CC := (.reg a49)
def e4u : CC := (.seq (.reg a4R) d2X)
def d67 : CC := (.block 1 e4u)
def b9i : CC := (.reg a5B)
def d7t : CC := (.seq d67 b9i)
def d8R : CC := (.seq d2B d7t)
def d1Y : CC := (.seq (.reg a09) d8R)
def d49 : CC := (.loop d1Y)
def d1q : CC := (.block 0 d49)
def e7O : CC := (.seq (.reg b0y) d1q)
theorem a0A : type_of% (qz d2B.eq_1 (qz d2X.eq_1 (qz e4u.eq_1 (qz d67.eq_1 (qz b9i.eq_1 (qz d7t.eq_1 (qz d8R.eq_1 (qz d1Y.eq_1 (qz d49.eq_1 (qz d1q.eq_1 (qy e7O.eq_1))))))))))) := ⟨kr,kr,kr,kr,kr,kr,kr,kr,kr,kr,kr⟩
theorem e5Y : FnAt Tryz.prog tb W0 e7O 20 [] := i9 i8 Tryz.func78 rfl (by kernel_rfl) (by kernel_rfl) rfl rfl
def d5i : CC := (.seq (.reg e1r) .ret)
def d4r : CC := (.seq (.reg e3y) d5i)
def e3t : CC := (.seq (.drawn e3q [ (3, 0) , (7, 0) ]) d4r)
def e8H : CC := (.seq (.reg d9c) e3t)
theorem g2B : type_of% (qz d5i.eq_1 (qz d4r.eq_1 (qz e3t.eq_1 (qy e8H.eq_1)))) := ⟨kr,kr,kr,kr⟩
theorem g0T : FnAt Tryz.prog tb a3a e8H 29 [.tmp 4] := i9 i8 Tryz.func79 rfl (by kernel_rfl) (by kernel_rfl) rfl rfl
def e4z : CC := (.seq (.reg f8M) .ret)
def d0e : CC := (.seq (.reg f9s) e4z)
def d1Q : CC := (.cond (tm 18) d0e .skip)
def d4R : CC := (.seq (.reg e23) d1Q)
def e3Y : CC := (.seq (.reg d8w) .ret)
def e2W : CC := (.seq d4R e3Y)
def e7B : CC := (.seq (.reg e3n) e2W)
theorem g1Q : type_of% (qz e4z.eq_1 (qz d0e.eq_1 (qz d1Q.eq_1 (qz d4R.eq_1 (qz e3Y.eq_1 (qz e2W.eq_1 (qy e7B.eq_1))))))) := ⟨kr,kr,kr,kr,kr,kr,kr⟩
theorem f96 : FnAt Tryz.prog tb b16 e7B 21 [.cell 8 s9, .tmp 9] := i9 i8 Tryz.func80 rfl (by kernel_rfl) (by kernel_rfl) rfl rfl
def e1o : CC := (.reg f9c)
def d3e : CC := (.cond (tm 24) e1o .skip)
def d64 : CC := (.seq (.reg e1t) d3e)
def d44 : CC := (.reg e0R)
def d47 : CC := (.seq d64 d44)
def e8j : CC := (.seq (.reg d9m) d47)
theorem g1L : type_of% (qz e1o.eq_1 (qz d3e.eq_1 (qz d64.eq_1 (qz d44.eq_1 (qz d47.eq_1 (qy e8j.eq_1)))))) := ⟨kr,kr,kr,kr,kr,kr⟩
theorem g0p : FnAt Tryz.prog tb a1n e8j 38 [] := i9 i8 Tryz.func84 rfl (by kernel_rfl) (by kernel_rfl) rfl rfl
def d8G : CC := (.cond (tm 11) .skip (.exit 0))
def d5a : CC := (.reg b1o)
def e1U : CC := (.seq (.reg b01) d5a)
def e1O : CC := (.block 1 e1U)
def c5g : CC := (.reg a9A)
def e42 : CC := (.seq e1O c5g)
def e1c : CC := (.seq d8G e42)
def d2s : CC := (.seq (.reg a2n) e1c)
def d2c : CC := (.loop d2s)
def d8Z : CC := (.block 0 d2c)
def e7P : CC := (.seq (.reg a97) d8Z)
theorem a1F : type_of% (qz d8G.eq_1 (qz d5a.eq_1 (qz e1U.eq_1 (qz e1O.eq_1 (qz c5g.eq_1 (qz e42.eq_1 (qz e1c.eq_1 (qz d2s.eq_1 (qz d2c.eq_1 (qz d8Z.eq_1 (qy e7P.eq_1))))))))))) := ⟨kr,kr,kr,kr,kr,kr,kr,kr,kr,kr,kr⟩
theorem e5U : FnAt Tryz.prog tb W1 e7P 19 [] := i9 i8 Tryz.func85 rfl (by kernel_rfl) (by kernel_rfl) rfl rfl
def d5n : CC := (.seq (.drawn f82 [ (3, 0) ]) .ret)
def e0U : CC := (.cond (tm 10) d5n .skip)
def e1H : CC := (.seq (.reg e4O) e0U)
def d5o : CC := (.seq (.drawn d3m [ (3, 0) , (8, 0) ]) .ret)
def e2L : CC := (.seq e1H d5o)
def e7q : CC := (.seq (.reg d16) e2L)
theorem g1A : type_of% (qz d5n.eq_1 (qz e0U.eq_1 (qz e1H.eq_1 (qz d5o.eq_1 (qz e2L.eq_1 (qy e7q.eq_1)))))) := ⟨kr,kr,kr,kr,kr,kr⟩
theorem g04 : FnAt Tryz.prog tb a5O e7q 27 [.tmp 4, .tmp 5] := i9 i8 Tryz.func87 rfl (by kernel_rfl) (by kernel_rfl) rfl rfl
def e1S : CC := (.seq (.reg f8T) .ret)
def d5D : CC := (.cond (tm 4) e1S .skip)
def c95 : CC := (.seq (.reg e1M) d5D)
def d8v : CC := (.seq (.reg d6i) .ret)
def e5M : CC := (.seq c95 d8v)
def e87 : CC := (.seq (.reg d8l) e5M)
theorem g2b : type_of% (qz e1S.eq_1 (qz d5D.eq_1 (qz c95.eq_1 (qz d8v.eq_1 (qz e5M.eq_1 (qy e87.eq_1)))))) := ⟨kr,kr,kr,kr,kr,kr⟩
theorem g0Z : FnAt Tryz.prog tb X5 e87 8 [.tmp 2] := i9 i8 Tryz.func92 rfl (by kernel_rfl) (by kernel_rfl) rfl rfl
def e1x : CC := (.seq (.reg f9G) .ret)
def d2V : CC := (.seq (.reg f9g) .ret)
def c7O : CC := (.seq (.reg f9K) .ret)
def c0a : CC := (.cond (tm 42) c7O .skip)
def c5p : CC := (.seq (.reg a90) c0a)
def d1K : CC := (.cond (tm 18) d2V c5p)
def d2m : CC := (.seq (.reg a9L) d1K)
def d8z : CC := (.cond (tm 14) e1x d2m)
def d1f : CC := (.seq (.reg b0o) d8z)
def d68 : CC := (.block 0 d1f)
def c5P : CC := (.seq (.reg a8M) .ret)
def c4W : CC := (.seq (.reg a93) c5P)
def c4O : CC := (.seq (.reg b0N) c4W)
def d1O : CC := (.seq d68 c4O)
def d54 : CC := (.seq (.reg a9E) d1O)
def e7J : CC := (.seq (.reg a9K) d54)
theorem e7t : type_of% (qz e1x.eq_1 (qz d2V.eq_1 (qz c7O.eq_1 (qz c0a.eq_1 (qz c5p.eq_1 (qz d1K.eq_1 (qz d2m.eq_1 (qz d8z.eq_1 (qz d1f.eq_1 (qz d68.eq_1 (qz c5P.eq_1 (qz c4W.eq_1 (qz c4O.eq_1 (qz d1O.eq_1 (qz d54.eq_1 (qy e7J.eq_1)))))))))))))))) := ⟨kr,kr,kr,kr,kr,kr,kr,kr,kr,kr,kr,kr,kr,kr,kr,kr⟩
theorem e54 : FnAt Tryz.prog tb X6 e7J 63 [.tmp 10] := i9 i8 Tryz.func100 rfl (by kernel_rfl) (by kernel_rfl) rfl rfl
def d29 : CC := (.seq (.reg d7J) .ret)
def e66 : CC := (.seq (.reg d6L) d29)
theorem g1F : type_of% (qz d29.eq_1 (qy e66.eq_1)) := ⟨kr,kr⟩
theorem f90 : FnAt Tryz.prog tb X7 e66 7 [.tmp 2] := i9 i8 Tryz.func101 rfl (by kernel_rfl) (by kernel_rfl) rfl rfl
def e1g : CC := (.seq (.reg d0Z) .ret)
def e8v : CC := (.seq (.reg d3r) e1g)
theorem g2x : type_of% (qz e1g.eq_1 (qy e8v.eq_1)) := ⟨kr,kr⟩
theorem g1w : FnAt Tryz.prog tb X1 e8v 5 [.tmp 2] := i9 i8 Tryz.func102 rfl (by kernel_rfl) (by kernel_rfl) rfl rfl
def d3d : CC := (.seq (.reg a9V) .ret)
def e8i : CC := (.seq (.reg b1e) d3d)
theorem e67 : type_of% (qz d3d.eq_1 (qy e8i.eq_1)) := ⟨kr,kr⟩
theorem f9Y : FnAt Tryz.prog tb b19 e8i 15 [.tmp 6] := i9 i8 Tryz.func103 rfl (by kernel_rfl) (by kernel_rfl) rfl rfl
def d3C : CC := (.seq (.reg d8S) .ret)
def e62 : CC := (.seq (.reg d8b) d3C)
theorem g1G : type_of% (qz d3C.eq_1 (qy e62.eq_1)) := ⟨kr,kr⟩
theorem g0Q : FnAt Tryz.prog tb V9 e62 30 [.tmp 2] := i9 i8 Tryz.func104 rfl (by kernel_rfl) (by kernel_rfl) rfl rfl
def d2z : CC := (.seq (.reg d9a) .ret)
def e60 : CC := (.seq (.reg e0u) d2z)
theorem g2j : type_of% (qz d2z.eq_1 (qy e60.eq_1)) := ⟨kr,kr⟩
theorem g03 : FnAt Tryz.prog tb b1w e60 9 [.tmp 4] := i9 i8 Tryz.func105 rfl (by kernel_rfl) (by kernel_rfl) rfl rfl
def e7C : CC := (.reg d5S)
theorem g2p : type_of% (qy e7C.eq_1) := kr
theorem g0F : FnAt Tryz.prog tb a5K e7C 11 [] := i9 i8 Tryz.func106 rfl (by kernel_rfl) (by kernel_rfl) rfl rfl
def d6l : CC := (.cond (tm 13) .skip (.exit 0))
def d7R : CC := (.seq (.reg b05) d6l)
def c5l : CC := (.cond (tm 37) .ret .skip)
def c0w : CC := (.seq (.reg d3N) c5l)
def c5u : CC := (.reg e5b)
def d5W : CC := (.seq c0w c5u)
def d7L : CC := (.seq (.reg d5g) d5W)
def d0c : CC := (.seq (.reg d4Q) d7L)
def d98 : CC := (.block 1 d0c)
def d8u : CC := (.seq d7R d98)
def d2K : CC := (.loop d8u)
def e47 : CC := (.block 0 d2K)
def e7n : CC := (.seq (.reg d4s) e47)
theorem a3f : type_of% (qz d6l.eq_1 (qz d7R.eq_1 (qz c5l.eq_1 (qz c0w.eq_1 (qz c5u.eq_1 (qz d5W.eq_1 (qz d7L.eq_1 (qz d0c.eq_1 (qz d98.eq_1 (qz d8u.eq_1 (qz d2K.eq_1 (qz e47.eq_1 (qy e7n.eq_1))))))))))))) := ⟨kr,kr,kr,kr,kr,kr,kr,kr,kr,kr,kr,kr,kr⟩
theorem g0z : FnAt Tryz.prog tb a0t e7n 43 [] := i9 i8 Tryz.func107 rfl (by kernel_rfl) (by kernel_rfl) rfl rfl
def e40 : CC := (.seq (.reg f9m) .ret)
def d5v : CC := (.cond (tm 15) e40 .skip)
def e0v : CC := (.seq (.reg d7T) d5v)
def d3E : CC := (.seq (.reg f7x) .ret)
def e48 : CC := (.cond (tm 26) d3E .skip)
def d2A : CC := (.seq (.reg d1X) e48)
def c5U : CC := (.cond (tm 33) .skip (.exit 0))
def c6h : CC := (.seq (.reg f5X) .ret)
def c4Q : CC := (.cond (tm 45) c6h .skip)
def c7r : CC := (.seq (.reg a8F) c4Q)
def c1M : CC := (.seq (.reg a9u) c7r)
def c84 : CC := (.cond (tm 48) (.exit 0) .skip)
def b9f : CC := (.seq (.reg a8C) c84)
def c3Q : CC := (.reg c7v)
def c2p : CC := (.seq b9f c3Q)
def c5k : CC := (.seq c1M c2p)
def c52 : CC := (.seq (.reg a9d) c5k)
def c3l : CC := (.block 1 c52)
def c6k : CC := (.reg c74)
def c6l : CC := (.seq c3l c6k)
def c0N : CC := (.seq c5U c6l)
def c0k : CC := (.seq (.reg a5i) c0N)
def c2i : CC := (.loop c0k)
def c8J : CC := (.block 0 c2i)
def b90 : CC := (.seq (.reg e0z) c8J)
def c3O : CC := (.seq (.reg a8V) .ret)
def b8J : CC := (.seq b90 c3O)
def c0j : CC := (.seq (.reg d0K) b8J)
def c6J : CC := (.seq (.reg e3c) c0j)
def e3G : CC := (.seq d2A c6J)
def d31 : CC := (.seq (.reg d94) e3G)
def d2d : CC := (.seq e0v d31)
def e7z : CC := (.seq (.reg e5I) d2d)
theorem a6d : type_of% (qz e40.eq_1 (qz d5v.eq_1 (qz e0v.eq_1 (qz d3E.eq_1 (qz e48.eq_1 (qz d2A.eq_1 (qz c5U.eq_1 (qz c6h.eq_1 (qz c4Q.eq_1 (qz c7r.eq_1 (qz c1M.eq_1 (qz c84.eq_1 (qz b9f.eq_1 (qz c3Q.eq_1 (qz c2p.eq_1 (qz c5k.eq_1 (qz c52.eq_1 (qz c3l.eq_1 (qz c6k.eq_1 (qz c6l.eq_1 (qz c0N.eq_1 (qz c0k.eq_1 (qz c2i.eq_1 (qz c8J.eq_1 (qz b90.eq_1 (qz c3O.eq_1 (qz b8J.eq_1 (qz c0j.eq_1 (qz c6J.eq_1 (qz e3G.eq_1 (qz d31.eq_1 (qz d2d.eq_1 (qy e7z.eq_1))))))))))))))))))))))))))))))))) := ⟨kr,kr,kr,kr,kr,kr,kr,kr,kr,kr,kr,kr,kr,kr,kr,kr,kr,kr,kr,kr,kr,kr,kr,kr,kr,kr,kr,kr,kr,kr,kr,kr,kr⟩
theorem g00 : FnAt Tryz.prog tb a2N e7z 53 [.tmp 8, .tmp 9] := i9 i8 Tryz.func108 rfl (by kernel_rfl) (by kernel_rfl) rfl rfl
def d3a : CC := (.cond (tm 9) .skip (.exit 0))
def d84 : CC := (.seq (.reg b0L) d3a)
def c4h : CC := (.cond (tm 30) .ret .skip)
def d1m : CC := (.seq (.reg c98) c4h)
def d0n : CC := (.seq (.drawn d2M [ (0, 0) , (1, 0) , (3, 0) ]) d1m)
def d8M : CC := (.block 1 d0n)
def c8a : CC := (.reg d8x)
def d4Z : CC := (.seq d8M c8a)
def e3V : CC := (.seq d84 d4Z)
def e1W : CC := (.loop e3V)
def e2y : CC := (.block 0 e1W)
def e89 : CC := (.seq (.reg d4n) e2y)
theorem a6g : type_of% (qz d3a.eq_1 (qz d84.eq_1 (qz c4h.eq_1 (qz d1m.eq_1 (qz d0n.eq_1 (qz d8M.eq_1 (qz c8a.eq_1 (qz d4Z.eq_1 (qz e3V.eq_1 (qz e1W.eq_1 (qz e2y.eq_1 (qy e89.eq_1)))))))))))) := ⟨kr,kr,kr,kr,kr,kr,kr,kr,kr,kr,kr,kr⟩
theorem g0v : FnAt Tryz.prog tb a1o e89 31 [] := i9 i8 Tryz.func109 rfl (by kernel_rfl) (by kernel_rfl) rfl rfl
def d75 : CC := (.seq (.reg f8m) .ret)
def d4K : CC := (.cond (tm 21) d75 .skip)
def d4X : CC := (.seq (.reg d1Z) d4K)
def c2k : CC := (.seq (.reg f8g) .ret)
def d87 : CC := (.cond (tm 32) c2k .skip)
def d1s : CC := (.seq (.reg d9S) d87)
def c02 : CC := (.seq (.reg d5y) .ret)
def d1h : CC := (.seq d1s c02)
def e5F : CC := (.seq (.reg d06) d1h)
def d14 : CC := (.seq d4X e5F)
def d8y : CC := (.seq (.reg d28) d14)
def e8Y : CC := (.seq (.reg e3Q) d8y)
theorem g2d : type_of% (qz d75.eq_1 (qz d4K.eq_1 (qz d4X.eq_1 (qz c2k.eq_1 (qz d87.eq_1 (qz d1s.eq_1 (qz c02.eq_1 (qz d1h.eq_1 (qz e5F.eq_1 (qz d14.eq_1 (qz d8y.eq_1 (qy e8Y.eq_1)))))))))))) := ⟨kr,kr,kr,kr,kr,kr,kr,kr,kr,kr,kr,kr⟩
theorem g0g : FnAt Tryz.prog tb b2j e8Y 34 [.tmp 6, .tmp 7] := i9 i8 Tryz.func110 rfl (by kernel_rfl) (by kernel_rfl) rfl rfl
def e2m : CC := (.seq (.reg f9H) .ret)
def d2x : CC := (.seq (.reg f9q) e2m)
def d2q : CC := (.cond (tm 18) d2x .skip)
def d6N : CC := (.seq (.reg e4L) d2q)
def d1E : CC := (.seq (.reg d4D) .ret)
def d2J : CC := (.seq d6N d1E)
def e8r : CC := (.seq (.reg d9u) d2J)
theorem g2v : type_of% (qz e2m.eq_1 (qz d2x.eq_1 (qz d2q.eq_1 (qz d6N.eq_1 (qz d1E.eq_1 (qz d2J.eq_1 (qy e8r.eq_1))))))) := ⟨kr,kr,kr,kr,kr,kr,kr⟩
theorem g0y : FnAt Tryz.prog tb b1H e8r 21 [.cell 8 y6, .tmp 9] := i9 i8 Tryz.func111 rfl (by kernel_rfl) (by kernel_rfl) rfl rfl
def e7W : CC := (.reg d7N)
theorem g2F : type_of% (qy e7W.eq_1) := kr
theorem f97 : FnAt Tryz.prog tb a5F e7W 12 [] := i9 i8 Tryz.func126 rfl (by kernel_rfl) (by kernel_rfl) rfl rfl
def d6d : CC := (.seq (.reg f8G) .ret)
def e1y : CC := (.cond (tm 16) d6d .skip)
def e0s : CC := (.seq (.reg d3y) e1y)
def d3L : CC := (.seq (.reg f7F) .ret)
def e5s : CC := (.cond (tm 27) d3L .skip)
def e0l : CC := (.seq (.reg d6B) e5s)
def c6O : CC := (.cond (tm 34) .skip (.exit 0))
def c7W : CC := (.seq (.reg f6G) .ret)
def c2I : CC := (.cond (tm 56) c7W .skip)
def c6f : CC := (.seq (.reg c6U) c2I)
def c2V : CC := (.seq (.drawn c7V [ (2, 0) , (2, 9) , (7, 0) ]) c6f)
def c5K : CC := (.cond (tm 44) c2V .skip)
def c5n : CC := (.seq (.reg a9l) c5K)
def b8C : CC := (.seq (.reg f5W) .ret)
def c6I : CC := (.cond (tm 66) b8C .skip)
def c0p : CC := (.seq (.reg a38) c6I)
def a9g : CC := (.seq (.reg a4r) c0p)
def c0Q : CC := (.seq (.reg c9k) .ret)
def c6B : CC := (.cond (tm 81) c0Q .skip)
def b9M : CC := (.seq (.reg a8H) c6B)
def c8V : CC := (.seq (.reg a9q) b9M)
def c85 : CC := (.seq (.reg f6J) .ret)
def c9v : CC := (.cond (tm 89) c85 .skip)
def c1e : CC := (.seq (.reg c54) c9v)
def c5X : CC := (.seq (.reg c6m) c1e)
def b8Z : CC := (.seq c8V c5X)
def c7a : CC := (.cond (tm 70) b8Z .skip)
def c3T : CC := (.seq (.reg a4b) c7a)
def c9H : CC := (.reg a9v)
def c8w : CC := (.seq c3T c9H)
def a8L : CC := (.seq (.reg a3Z) c8w)
def a37 : CC := (.seq a9g a8L)
def c1w : CC := (.seq c5n a37)
def b83 : CC := (.seq (.reg a86) c1w)
def b9g : CC := (.seq (.reg b0P) b83)
def c4Y : CC := (.block 1 b9g)
def c9O : CC := (.reg a8P)
def c6F : CC := (.seq c4Y c9O)
def c3e : CC := (.seq c6O c6F)
def c3i : CC := (.seq (.reg a5j) c3e)
def c9a : CC := (.loop c3i)
def c8B : CC := (.block 0 c9a)
def c8s : CC := (.seq (.reg d7o) c8B)
def c8n : CC := (.seq (.reg c4j) .ret)
def c71 : CC := (.seq c8s c8n)
def c9y : CC := (.seq (.reg d3Q) c71)
def e33 : CC := (.seq e0l c9y)
def e3p : CC := (.seq (.reg d09) e33)
def d0O : CC := (.seq e0s e3p)
def e86 : CC := (.seq (.reg d5G) d0O)
theorem S6 : type_of% (qz d6d.eq_1 (qz e1y.eq_1 (qz e0s.eq_1 (qz d3L.eq_1 (qz e5s.eq_1 (qz e0l.eq_1 (qz c6O.eq_1 (qz c7W.eq_1 (qz c2I.eq_1 (qz c6f.eq_1 (qz c2V.eq_1 (qz c5K.eq_1 (qz c5n.eq_1 (qz b8C.eq_1 (qz c6I.eq_1 (qz c0p.eq_1 (qz a9g.eq_1 (qz c0Q.eq_1 (qz c6B.eq_1 (qz b9M.eq_1 (qz c8V.eq_1 (qz c85.eq_1 (qz c9v.eq_1 (qz c1e.eq_1 (qz c5X.eq_1 (qz b8Z.eq_1 (qz c7a.eq_1 (qz c3T.eq_1 (qz c9H.eq_1 (qz c8w.eq_1 (qz a8L.eq_1 (qz c1w.eq_1 (qz b83.eq_1 (qz b9g.eq_1 (qz c4Y.eq_1 (qz c9O.eq_1 (qz c6F.eq_1 (qz c3e.eq_1 (qz c3i.eq_1 (qz c9a.eq_1 (qz c8B.eq_1 (qz c8s.eq_1 (qz c8n.eq_1 (qz c71.eq_1 (qz c9y.eq_1 (qz e33.eq_1 (qz e3p.eq_1 (qz d0O.eq_1 (qy e86.eq_1))))))))))))))))))))))))))))))))))))))))))))))))) := ⟨kr,kr,kr,kr,kr,kr,kr,kr,kr,kr,kr,kr,kr,kr,kr,kr,kr,kr,kr,kr,kr,kr,kr,kr,kr,kr,kr,kr,kr,kr,kr,kr,kr,kr,kr,kr,kr,kr,kr,kr,kr,kr,kr,kr,kr,kr,kr,kr,kr⟩
theorem g09 : FnAt Tryz.prog tb b17 e86 96 [.tmp 8, .tmp 9, .tmp 10] := i9 i8 Tryz.func127 rfl (by kernel_rfl) (by kernel_rfl) rfl rfl
theorem a7C : ∀ Q fr m, GX Tryz.prog tb a37 Q fr m = GX Tryz.prog tb (.seq a9g a8L) Q fr m := kr
def e5O : CC := (.seq (.reg e2c) .ret)
def d35 : CC := (.cond (tm 12) e5O .skip)
def e0q : CC := (.seq (.reg a9J) d35)
def e4q : CC := (.seq (.reg d0S) .ret)
def d9X : CC := (.seq e0q e4q)
def e8J : CC := (.seq (.reg b0i) d9X)
theorem e8T : type_of% (qz e5O.eq_1 (qz d35.eq_1 (qz e0q.eq_1 (qz e4q.eq_1 (qz d9X.eq_1 (qy e8J.eq_1)))))) := ⟨kr,kr,kr,kr,kr,kr⟩
theorem e6b : FnAt Tryz.prog tb a5W e8J 27 [.tmp 6] := i9 i8 Tryz.func128 rfl (by kernel_rfl) (by kernel_rfl) rfl rfl
def d8Q : CC := (.seq (.reg d7z) .ret)
def e4e : CC := (.cond (tm 25) d8Q .skip)
def c9S : CC := (.seq (.reg b0l) e4e)
def d6j : CC := (.seq (.reg e1E) .ret)
def e3O : CC := (.seq (.reg e29) d6j)
def d0E : CC := (.seq c9S e3O)
def e0V : CC := (.seq (.reg b04) d0E)
def e7L : CC := (.seq (.reg b1s) e0V)
theorem e65 : type_of% (qz d8Q.eq_1 (qz e4e.eq_1 (qz c9S.eq_1 (qz d6j.eq_1 (qz e3O.eq_1 (qz d0E.eq_1 (qz e0V.eq_1 (qy e7L.eq_1)))))))) := ⟨kr,kr,kr,kr,kr,kr,kr,kr⟩
theorem e6T : FnAt Tryz.prog tb b1E e7L 34 [.tmp 8] := i9 i8 Tryz.func129 rfl (by kernel_rfl) (by kernel_rfl) rfl rfl
def e4N : CC := (.seq (.reg d5j) .ret)
def d6k : CC := (.cond (tm 31) e4N .skip)
def d3T : CC := (.seq (.reg a9T) d6k)
def c22 : CC := (.cond (tm 35) .skip (.exit 0))
def c15 : CC := (.reg d57)
def c57 : CC := (.block 1 c15)
def b8W : CC := (.reg d7G)
def c6o : CC := (.seq c57 b8W)
def c2q : CC := (.seq c22 c6o)
def c17 : CC := (.seq (.reg a2x) c2q)
def c9G : CC := (.loop c17)
def d1t : CC := (.block 0 c9G)
def e4m : CC := (.seq (.reg d4C) d1t)
def c4Z : CC := (.seq (.reg c4N) .ret)
def c5j : CC := (.cond (tm 47) c4Z .skip)
def c12 : CC := (.seq (.reg a5k) c5j)
def c1C : CC := (.cond (tm 55) .skip (.exit 2))
def c1c : CC := (.seq (.reg f6e) .ret)
def c7d : CC := (.cond (tm 79) c1c .skip)
def c0y : CC := (.seq (.reg c67) c7d)
def c1p : CC := (.seq (.drawn c2g [ (3, 0) , (14, 0) ]) c0y)
def c9j : CC := (.seq (.reg b9p) c1p)
def c4g : CC := (.block 3 c9j)
def b97 : CC := (.reg c8g)
def c1o : CC := (.seq c4g b97)
def b9H : CC := (.seq c1C c1o)
def b9O : CC := (.seq (.reg a4p) b9H)
def c2d : CC := (.loop b9O)
def c6L : CC := (.block 2 c2d)
def b9B : CC := (.seq (.reg c39) c6L)
def c7t : CC := (.cond (tm 49) b9B .skip)
def c7p : CC := (.seq (.reg a9c) c7t)
def b8R : CC := (.seq (.reg c8d) .ret)
def c8q : CC := (.cond (tm 84) b8R .skip)
def c8i : CC := (.seq (.reg a4i) c8q)
def c6z : CC := (.seq (.reg f5z) .ret)
def c3m : CC := (.cond (tm 90) c6z .skip)
def c1A : CC := (.seq (.reg a87) c3m)
def c6D : CC := (.seq (.reg a8J) c1A)
def c3W : CC := (.seq (.reg a9b) .ret)
def c8b : CC := (.seq c6D c3W)
def b9l : CC := (.seq c8i c8b)
def c45 : CC := (.seq c7p b9l)
def c2T : CC := (.seq c12 c45)
def e2x : CC := (.seq e4m c2T)
def e2l : CC := (.seq (.reg d9q) e2x)
def e1R : CC := (.seq d3T e2l)
def d8I : CC := (.seq (.reg b0s) e1R)
def e82 : CC := (.seq (.reg a9G) d8I)
theorem R8 : type_of% (qz e4N.eq_1 (qz d6k.eq_1 (qz d3T.eq_1 (qz c22.eq_1 (qz c15.eq_1 (qz c57.eq_1 (qz b8W.eq_1 (qz c6o.eq_1 (qz c2q.eq_1 (qz c17.eq_1 (qz c9G.eq_1 (qz d1t.eq_1 (qz e4m.eq_1 (qz c4Z.eq_1 (qz c5j.eq_1 (qz c12.eq_1 (qz c1C.eq_1 (qz c1c.eq_1 (qz c7d.eq_1 (qz c0y.eq_1 (qz c1p.eq_1 (qz c9j.eq_1 (qz c4g.eq_1 (qz b97.eq_1 (qz c1o.eq_1 (qz b9H.eq_1 (qz b9O.eq_1 (qz c2d.eq_1 (qz c6L.eq_1 (qz b9B.eq_1 (qz c7t.eq_1 (qz c7p.eq_1 (qz b8R.eq_1 (qz c8q.eq_1 (qz c8i.eq_1 (qz c6z.eq_1 (qz c3m.eq_1 (qz c1A.eq_1 (qz c6D.eq_1 (qz c3W.eq_1 (qz c8b.eq_1 (qz b9l.eq_1 (qz c45.eq_1 (qz c2T.eq_1 (qz e2x.eq_1 (qz e2l.eq_1 (qz e1R.eq_1 (qz d8I.eq_1 (qy e82.eq_1))))))))))))))))))))))))))))))))))))))))))))))))) := ⟨kr,kr,kr,kr,kr,kr,kr,kr,kr,kr,kr,kr,kr,kr,kr,kr,kr,kr,kr,kr,kr,kr,kr,kr,kr,kr,kr,kr,kr,kr,kr,kr,kr,kr,kr,kr,kr,kr,kr,kr,kr,kr,kr,kr,kr,kr,kr,kr,kr⟩
theorem e6d : FnAt Tryz.prog tb N6 e82 99 [.tmp 12] := i9 i8 Tryz.func130 rfl (by kernel_rfl) (by kernel_rfl) rfl rfl
def d8P : CC := (.seq (.reg f7m) .ret)
def e2S : CC := (.seq (.reg f8B) .ret)
def e5e : CC := (.cond (tm 6) e2S .skip)
def e09 : CC := (.seq (.reg e2E) e5e)
def d2u : CC := (.cond (tm 3) d8P e09)
def d20 : CC := (.seq (.reg d4c) d2u)
def d34 : CC := (.block 0 d20)
def d0G : CC := (.seq (.reg d5q) .ret)
def e2u : CC := (.seq d34 d0G)
def e79 : CC := (.seq (.reg e5i) e2u)
theorem g1P : type_of% (qz d8P.eq_1 (qz e2S.eq_1 (qz e5e.eq_1 (qz e09.eq_1 (qz d2u.eq_1 (qz d20.eq_1 (qz d34.eq_1 (qz d0G.eq_1 (qz e2u.eq_1 (qy e79.eq_1)))))))))) := ⟨kr,kr,kr,kr,kr,kr,kr,kr,kr,kr⟩
theorem f9R : FnAt Tryz.prog tb a2X e79 16 [.tmp 2] := i9 i8 Tryz.func131 rfl (by kernel_rfl) (by kernel_rfl) rfl rfl
def d3R : CC := (.seq (.reg f70) .ret)
def d60 : CC := (.seq (.reg f7X) .ret)
def d7K : CC := (.cond (tm 13) d60 .skip)
def c9Z : CC := (.seq (.reg e5h) d7K)
def e2b : CC := (.cond (tm 10) d3R c9Z)
def e0A : CC := (.seq (.reg e2a) e2b)
def d3v : CC := (.block 0 e0A)
def c2N : CC := (.seq (.reg d1i) .ret)
def c7N : CC := (.cond (tm 34) c2N .skip)
def c7z : CC := (.seq (.reg e2A) c7N)
def c0c : CC := (.seq (.reg d43) c7z)
def c6j : CC := (.seq (.reg f5J) .ret)
def c0h : CC := (.cond (tm 43) c6j .skip)
def c2c : CC := (.seq (.reg f78) c0h)
def c0s : CC := (.seq (.reg f7y) c2c)
def c2v : CC := (.seq (.reg f6M) .ret)
def c0F : CC := (.seq c0s c2v)
def d0k : CC := (.seq c0c c0F)
def d1e : CC := (.seq d3v d0k)
def e8R : CC := (.seq (.reg d0B) d1e)
theorem g1V : type_of% (qz d3R.eq_1 (qz d60.eq_1 (qz d7K.eq_1 (qz c9Z.eq_1 (qz e2b.eq_1 (qz e0A.eq_1 (qz d3v.eq_1 (qz c2N.eq_1 (qz c7N.eq_1 (qz c7z.eq_1 (qz c0c.eq_1 (qz c6j.eq_1 (qz c0h.eq_1 (qz c2c.eq_1 (qz c0s.eq_1 (qz c2v.eq_1 (qz c0F.eq_1 (qz d0k.eq_1 (qz d1e.eq_1 (qy e8R.eq_1)))))))))))))))))))) := ⟨kr,kr,kr,kr,kr,kr,kr,kr,kr,kr,kr,kr,kr,kr,kr,kr,kr,kr,kr,kr⟩
theorem g0d : FnAt Tryz.prog tb b1y e8R 53 [.tmp 4, .tmp 5] := i9 i8 Tryz.func132 rfl (by kernel_rfl) (by kernel_rfl) rfl rfl
def e2o : CC := (.seq (.reg d4x) .ret)
def e7j : CC := (.seq (.reg d6s) e2o)
theorem g2q : type_of% (qz e2o.eq_1 (qy e7j.eq_1)) := ⟨kr,kr⟩
theorem g0J : FnAt Tryz.prog tb a5E e7j 10 [.tmp 4] := i9 i8 Tryz.func133 rfl (by kernel_rfl) (by kernel_rfl) rfl rfl
def e3w : CC := (.seq (.reg f9w) .ret)
def e3F : CC := (.cond (tm 22) e3w .skip)
def d6H : CC := (.seq (.reg a92) e3F)
def e5c : CC := (.seq (.reg b0Q) d6H)
def d07 : CC := (.seq (.reg f9o) .ret)
def d2i : CC := (.cond (tm 32) d07 .skip)
def e1q : CC := (.seq (.reg b02) d2i)
def c87 : CC := (.cond (tm 37) .skip (.exit 0))
def c7h : CC := (.reg a4d)
def c6x : CC := (.seq (.reg a5o) c7h)
def b9o : CC := (.block 1 c6x)
def c04 : CC := (.reg a4c)
def c4f : CC := (.seq b9o c04)
def c33 : CC := (.seq c87 c4f)
def c2y : CC := (.seq (.reg a0Y) c33)
def c5q : CC := (.loop c2y)
def c42 : CC := (.block 0 c5q)
def c08 : CC := (.seq (.reg b1n) c42)
def c1O : CC := (.seq (.reg a8E) .ret)
def b8G : CC := (.seq c08 c1O)
def c2Z : CC := (.seq (.reg b0u) b8G)
def e1j : CC := (.seq e1q c2Z)
def e3z : CC := (.seq e5c e1j)
def e7e : CC := (.seq (.reg b0r) e3z)
theorem a0C : type_of% (qz e3w.eq_1 (qz e3F.eq_1 (qz d6H.eq_1 (qz e5c.eq_1 (qz d07.eq_1 (qz d2i.eq_1 (qz e1q.eq_1 (qz c87.eq_1 (qz c7h.eq_1 (qz c6x.eq_1 (qz b9o.eq_1 (qz c04.eq_1 (qz c4f.eq_1 (qz c33.eq_1 (qz c2y.eq_1 (qz c5q.eq_1 (qz c42.eq_1 (qz c08.eq_1 (qz c1O.eq_1 (qz b8G.eq_1 (qz c2Z.eq_1 (qz e1j.eq_1 (qz e3z.eq_1 (qy e7e.eq_1)))))))))))))))))))))))) := ⟨kr,kr,kr,kr,kr,kr,kr,kr,kr,kr,kr,kr,kr,kr,kr,kr,kr,kr,kr,kr,kr,kr,kr,kr⟩
theorem e6M : FnAt Tryz.prog tb a1t e7e 51 [.tmp 8, .tmp 9] := i9 i8 Tryz.func134 rfl (by kernel_rfl) (by kernel_rfl) rfl rfl
def d7r : CC := (.reg e5p)
def e43 : CC := (.seq (.reg e2P) d7r)
def e8X : CC := (.seq (.reg d2j) e43)
theorem g2M : type_of% (qz d7r.eq_1 (qz e43.eq_1 (qy e8X.eq_1))) := ⟨kr,kr,kr⟩
theorem g1q : FnAt Tryz.prog tb a5U e8X 19 [] := i9 i8 Tryz.func143 rfl (by kernel_rfl) (by kernel_rfl) rfl rfl
def d7w : CC := (.seq (.reg d9N) .ret)
def e7H : CC := (.seq (.reg e45) d7w)
theorem g2f : type_of% (qz d7w.eq_1 (qy e7H.eq_1)) := ⟨kr,kr⟩
theorem f9Q : FnAt Tryz.prog tb b1L e7H 8 [.tmp 4] := i9 i8 Tryz.func144 rfl (by kernel_rfl) (by kernel_rfl) rfl rfl
def d5B : CC := (.seq (.reg f8c) .ret)
def d9o : CC := (.cond (tm 16) d5B .skip)
def e17 : CC := (.seq (.reg a4K) d9o)
def d8o : CC := (.seq (.reg f8P) .ret)
def e1w : CC := (.cond (tm 25) d8o .skip)
def d3i : CC := (.seq (.reg a4B) e1w)
def c2E : CC := (.seq (.reg c2S) .ret)
def c1B : CC := (.seq (.reg c8G) .ret)
def b80 : CC := (.seq (.drawn d2y []) .ret)
def c3f : CC := (.seq (.reg e2K) b80)
def c3Z : CC := (.cond (tm 46) c1B c3f)
def c46 : CC := (.seq (.reg a9s) c3Z)
def c0U : CC := (.cond (tm 41) c2E c46)
def c8l : CC := (.seq (.reg a4u) c0U)
def c0K : CC := (.block 0 c8l)
def c4X : CC := (.seq (.reg a5d) c0K)
def c7C : CC := (.seq (.reg a4J) c4X)
def e2t : CC := (.seq d3i c7C)
def d9Q : CC := (.seq e17 e2t)
def d2o : CC := (.seq (.reg a4H) d9Q)
def e7b : CC := (.seq (.reg a5m) d2o)
theorem b2u : type_of% (qz d5B.eq_1 (qz d9o.eq_1 (qz e17.eq_1 (qz d8o.eq_1 (qz e1w.eq_1 (qz d3i.eq_1 (qz c2E.eq_1 (qz c1B.eq_1 (qz b80.eq_1 (qz c3f.eq_1 (qz c3Z.eq_1 (qz c46.eq_1 (qz c0U.eq_1 (qz c8l.eq_1 (qz c0K.eq_1 (qz c4X.eq_1 (qz c7C.eq_1 (qz e2t.eq_1 (qz d9Q.eq_1 (qz d2o.eq_1 (qy e7b.eq_1))))))))))))))))))))) := ⟨kr,kr,kr,kr,kr,kr,kr,kr,kr,kr,kr,kr,kr,kr,kr,kr,kr,kr,kr,kr,kr⟩
theorem b2g : FnAt Tryz.prog tb a58 e7b 52 [.tmp 4, .tmp 5] := i9 i8 Tryz.func145 rfl (by kernel_rfl) (by kernel_rfl) rfl rfl
def d8s : CC := (.seq (.reg f9B) .ret)
def d56 : CC := (.cond (tm 11) d8s .skip)
def d0I : CC := (.seq (.reg e4t) d56)
def d46 : CC := (.seq (.reg f9r) .ret)
def e4A : CC := (.cond (tm 20) d46 .skip)
def e4H : CC := (.seq (.reg d5H) e4A)
def c9i : CC := (.seq (.reg d6D) .ret)
def d65 : CC := (.seq e4H c9i)
def e4V : CC := (.seq (.reg d9E) d65)
def d76 : CC := (.seq d0I e4V)
def e8Z : CC := (.seq (.reg d7n) d76)
theorem g2L : type_of% (qz d8s.eq_1 (qz d56.eq_1 (qz d0I.eq_1 (qz d46.eq_1 (qz e4A.eq_1 (qz e4H.eq_1 (qz c9i.eq_1 (qz d65.eq_1 (qz e4V.eq_1 (qz d76.eq_1 (qy e8Z.eq_1))))))))))) := ⟨kr,kr,kr,kr,kr,kr,kr,kr,kr,kr,kr⟩
theorem g0x : FnAt Tryz.prog tb b1J e8Z 22 [.tmp 6, .tmp 7] := i9 i8 Tryz.func146 rfl (by kernel_rfl) (by kernel_rfl) rfl rfl
def c93 : CC := (.seq (.reg e2n) .ret)
def e7E : CC := (.seq (.reg d6n) c93)
theorem g13 : type_of% (qz c93.eq_1 (qy e7E.eq_1)) := ⟨kr,kr⟩
theorem g0f : FnAt Tryz.prog tb b1z e7E 13 [.tmp 4, .tmp 5, .tmp 6] := i9 i8 Tryz.func147 rfl (by kernel_rfl) (by kernel_rfl) rfl rfl
def d1o : CC := (.seq (.reg d8d) .ret)
def e32 : CC := (.cond (tm 12) d1o .skip)
def d0o : CC := (.seq (.reg b0z) e32)
def c9U : CC := (.seq (.drawn e5z []) .ret)
def e5C : CC := (.cond (tm 21) c9U .skip)
def e2r : CC := (.seq (.reg d2e) e5C)
def c6W : CC := (.seq (.reg f7Q) .ret)
def c1r : CC := (.cond (tm 34) c6W .skip)
def b8F : CC := (.seq (.reg f7H) c1r)
def c6E : CC := (.seq (.reg f9I) b8F)
def c41 : CC := (.seq (.reg f81) .ret)
def d6I : CC := (.seq c6E c41)
def c94 : CC := (.seq e2r d6I)
def d2b : CC := (.seq d0o c94)
def e8g : CC := (.seq (.reg a9M) d2b)
theorem e7h : type_of% (qz d1o.eq_1 (qz e32.eq_1 (qz d0o.eq_1 (qz c9U.eq_1 (qz e5C.eq_1 (qz e2r.eq_1 (qz c6W.eq_1 (qz c1r.eq_1 (qz b8F.eq_1 (qz c6E.eq_1 (qz c41.eq_1 (qz d6I.eq_1 (qz c94.eq_1 (qz d2b.eq_1 (qy e8g.eq_1))))))))))))))) := ⟨kr,kr,kr,kr,kr,kr,kr,kr,kr,kr,kr,kr,kr,kr,kr⟩
theorem f9Z : FnAt Tryz.prog tb b1Y e8g 43 [.tmp 4] := i9 i8 Tryz.func148 rfl (by kernel_rfl) (by kernel_rfl) rfl rfl
def d8t : CC := (.reg d3f)
def e0F : CC := (.cond (tm 11) .skip d8t)
def d1r : CC := (.seq (.reg b0A) e0F)
def e2e : CC := (.cond (tm 11) .skip d1r)
def e3B : CC := (.seq (.reg a4E) e2e)
def c7w : CC := (.seq (.reg f9D) .ret)
def b9A : CC := (.cond (tm 23) c7w .skip)
def c4J : CC := (.seq (.reg a5c) b9A)
def c6H : CC := (.seq (.reg a5h) .ret)
def c0x : CC := (.seq c4J c6H)
def c7l : CC := (.seq (.reg a5A) c0x)
def c44 : CC := (.cond (tm 11) c7l .skip)
def e3M : CC := (.seq e3B c44)
def d7D : CC := (.block 0 e3M)
def e0Y : CC := (.seq (.reg a5u) d7D)
def c1m : CC := (.seq (.reg f8L) .ret)
def d8F : CC := (.seq e0Y c1m)
def e8y : CC := (.seq (.reg a4T) d8F)
theorem b2r : type_of% (qz d8t.eq_1 (qz e0F.eq_1 (qz d1r.eq_1 (qz e2e.eq_1 (qz e3B.eq_1 (qz c7w.eq_1 (qz b9A.eq_1 (qz c4J.eq_1 (qz c6H.eq_1 (qz c0x.eq_1 (qz c7l.eq_1 (qz c44.eq_1 (qz e3M.eq_1 (qz d7D.eq_1 (qz e0Y.eq_1 (qz c1m.eq_1 (qz d8F.eq_1 (qy e8y.eq_1)))))))))))))))))) := ⟨kr,kr,kr,kr,kr,kr,kr,kr,kr,kr,kr,kr,kr,kr,kr,kr,kr,kr⟩
theorem g0n : FnAt Tryz.prog tb a5L e8y 25 [.tmp 6, .tmp 7] := i9 i8 Tryz.func150 rfl (by kernel_rfl) (by kernel_rfl) rfl rfl
def d0a : CC := (.seq (.reg d4L) .ret)
def e7N : CC := (.seq (.reg d6P) d0a)
theorem g2E : type_of% (qz d0a.eq_1 (qy e7N.eq_1)) := ⟨kr,kr⟩
theorem f94 : FnAt Tryz.prog tb b1Z e7N 4 [.tmp 2] := i9 i8 Tryz.func151 rfl (by kernel_rfl) (by kernel_rfl) rfl rfl
def d6e : CC := (.seq (.reg f8V) .ret)
def d4b : CC := (.cond (tm 7) d6e .skip)
def d3z : CC := (.seq (.reg a9O) d4b)
def e3D : CC := (.seq (.drawn b0G [ (3, 0) , (9, 0) , (14, 0) , (18, 0) ]) .ret)
def d4z : CC := (.seq d3z e3D)
def e7I : CC := (.seq (.reg a9z) d4z)
theorem e8k : type_of% (qz d6e.eq_1 (qz d4b.eq_1 (qz d3z.eq_1 (qz e3D.eq_1 (qz d4z.eq_1 (qy e7I.eq_1)))))) := ⟨kr,kr,kr,kr,kr,kr⟩
theorem g1v : FnAt Tryz.prog tb a5J e7I 31 [.tmp 4, .tmp 5] := i9 i8 Tryz.func158 rfl (by kernel_rfl) (by kernel_rfl) rfl rfl
def e0T : CC := (.seq (.reg f8O) .ret)
def d7a : CC := (.cond (tm 25) e0T .skip)
def d0W : CC := (.seq (.reg d9Y) d7a)
def c61 : CC := (.seq (.reg d7Y) .ret)
def d9h : CC := (.seq (.reg e3a) c61)
def c97 : CC := (.seq d0W d9h)
def d6y : CC := (.seq (.reg d5I) c97)
def d0N : CC := (.cond (tm 15) d6y .skip)
def d93 : CC := (.seq (.reg b1g) d0N)
def c38 : CC := (.seq (.reg f8I) .ret)
def b8D : CC := (.cond (tm 46) c38 .skip)
def c7P : CC := (.seq (.reg e1a) b8D)
def c3B : CC := (.seq (.reg f5q) .ret)
def c7F : CC := (.cond (tm 58) c3B .skip)
def c0d : CC := (.seq (.reg c4d) c7F)
def c62 : CC := (.seq (.reg c5w) .ret)
def b9R : CC := (.seq c0d c62)
def c1d : CC := (.seq (.reg c8L) b9R)
def c83 : CC := (.seq c7P c1d)
def c20 : CC := (.seq (.reg d3t) c83)
def d2w : CC := (.seq d93 c20)
def e8t : CC := (.seq (.reg b0n) d2w)
theorem e71 : type_of% (qz e0T.eq_1 (qz d7a.eq_1 (qz d0W.eq_1 (qz c61.eq_1 (qz d9h.eq_1 (qz c97.eq_1 (qz d6y.eq_1 (qz d0N.eq_1 (qz d93.eq_1 (qz c38.eq_1 (qz b8D.eq_1 (qz c7P.eq_1 (qz c3B.eq_1 (qz c7F.eq_1 (qz c0d.eq_1 (qz c62.eq_1 (qz b9R.eq_1 (qz c1d.eq_1 (qz c83.eq_1 (qz c20.eq_1 (qz d2w.eq_1 (qy e8t.eq_1)))))))))))))))))))))) := ⟨kr,kr,kr,kr,kr,kr,kr,kr,kr,kr,kr,kr,kr,kr,kr,kr,kr,kr,kr,kr,kr,kr⟩
theorem e6W : FnAt Tryz.prog tb W6 e8t 65 [.tmp 8] := i9 i8 Tryz.func159 rfl (by kernel_rfl) (by kernel_rfl) rfl rfl
def d97 : CC := (.seq (.reg e4w) .ret)
def e76 : CC := (.seq (.reg d18) d97)
theorem g2a : type_of% (qz d97.eq_1 (qy e76.eq_1)) := ⟨kr,kr⟩
theorem f9P : FnAt Tryz.prog tb b1M e76 11 [.tmp 6] := i9 i8 Tryz.func160 rfl (by kernel_rfl) (by kernel_rfl) rfl rfl
def d3X : CC := (.seq (.reg f7t) .ret)
def d2U : CC := (.seq (.reg f7Y) .ret)
def e5n : CC := (.cond (tm 11) d2U .skip)
def d7k : CC := (.seq (.reg e3Z) e5n)
def d9U : CC := (.cond (tm 8) d3X d7k)
def e1v : CC := (.seq (.reg d0M) d9U)
def e5L : CC := (.block 0 e1v)
def c6s : CC := (.seq (.reg f9t) .ret)
def c2m : CC := (.cond (tm 36) c6s .skip)
def b8N : CC := (.seq (.reg d81) c2m)
def c3F : CC := (.seq (.reg d4m) b8N)
def c9M : CC := (.seq (.reg e4k) .ret)
def e2v : CC := (.seq c3F c9M)
def e2U : CC := (.seq e5L e2v)
def e8u : CC := (.seq (.reg d55) e2U)
theorem g2z : type_of% (qz d3X.eq_1 (qz d2U.eq_1 (qz e5n.eq_1 (qz d7k.eq_1 (qz d9U.eq_1 (qz e1v.eq_1 (qz e5L.eq_1 (qz c6s.eq_1 (qz c2m.eq_1 (qz b8N.eq_1 (qz c3F.eq_1 (qz c9M.eq_1 (qz e2v.eq_1 (qz e2U.eq_1 (qy e8u.eq_1))))))))))))))) := ⟨kr,kr,kr,kr,kr,kr,kr,kr,kr,kr,kr,kr,kr,kr,kr⟩
theorem f9U : FnAt Tryz.prog tb a50 e8u 41 [.tmp 6] := i9 i8 Tryz.func161 rfl (by kernel_rfl) (by kernel_rfl) rfl rfl
def d13 : CC := (.cond (tm 15) .skip (.exit 0))
def c0t : CC := (.seq (.reg f9J) .ret)
def c8k : CC := (.cond (tm 21) c0t .skip)
def c4i : CC := (.seq (.reg f88) c8k)
def c8W : CC := (.seq (.reg f9h) c4i)
def d0C : CC := (.block 1 c8W)
def b9L : CC := (.reg f8H)
def d7x : CC := (.seq d0C b9L)
def d9k : CC := (.seq d13 d7x)
def e1N : CC := (.seq (.reg d5f) d9k)
def d1I : CC := (.loop e1N)
def e1P : CC := (.block 0 d1I)
def d8B : CC := (.seq (.reg e38) e1P)
def c9L : CC := (.seq (.reg d2O) .ret)
def e0K : CC := (.seq d8B c9L)
def e8C : CC := (.seq (.reg d4p) e0K)
theorem e8G : type_of% (qz d13.eq_1 (qz c0t.eq_1 (qz c8k.eq_1 (qz c4i.eq_1 (qz c8W.eq_1 (qz d0C.eq_1 (qz b9L.eq_1 (qz d7x.eq_1 (qz d9k.eq_1 (qz e1N.eq_1 (qz d1I.eq_1 (qz e1P.eq_1 (qz d8B.eq_1 (qz c9L.eq_1 (qz e0K.eq_1 (qy e8C.eq_1)))))))))))))))) := ⟨kr,kr,kr,kr,kr,kr,kr,kr,kr,kr,kr,kr,kr,kr,kr,kr⟩
theorem g1t : FnAt Tryz.prog tb a51 e8C 25 [.tmp 4, .tmp 5] := i9 i8 Tryz.func162 rfl (by kernel_rfl) (by kernel_rfl) rfl rfl
def d0s : CC := (.cond (tm 12) .skip (.exit 0))
def c5C : CC := (.seq (.reg f9d) .ret)
def c1f : CC := (.cond (tm 19) c5C .skip)
def c76 : CC := (.seq (.reg d1J) c1f)
def e3o : CC := (.seq (.reg e0J) c76)
def e0D : CC := (.block 1 e3o)
def d2C : CC := (.seq d0s e0D)
def e2i : CC := (.seq (.reg a9U) d2C)
def e3E : CC := (.loop e2i)
def e1K : CC := (.block 0 e3E)
def d6M : CC := (.seq (.reg e2Z) e1K)
def c1q : CC := (.seq (.reg d3u) .ret)
def e0G : CC := (.seq d6M c1q)
def e8P : CC := (.seq (.reg d01) e0G)
theorem b2q : type_of% (qz d0s.eq_1 (qz c5C.eq_1 (qz c1f.eq_1 (qz c76.eq_1 (qz e3o.eq_1 (qz e0D.eq_1 (qz d2C.eq_1 (qz e2i.eq_1 (qz e3E.eq_1 (qz e1K.eq_1 (qz d6M.eq_1 (qz c1q.eq_1 (qz e0G.eq_1 (qy e8P.eq_1)))))))))))))) := ⟨kr,kr,kr,kr,kr,kr,kr,kr,kr,kr,kr,kr,kr,kr⟩
theorem f9V : FnAt Tryz.prog tb a5M e8P 21 [.tmp 6] := i9 i8 Tryz.func168 rfl (by kernel_rfl) (by kernel_rfl) rfl rfl
def d3A : CC := (.seq (.reg f8s) .ret)
def d6G : CC := (.cond (tm 27) d3A .skip)
def d00 : CC := (.seq (.reg e0P) d6G)
def d12 : CC := (.seq (.reg d5N) .ret)
def d7V : CC := (.seq d00 d12)
def e8h : CC := (.seq (.reg d3M) d7V)
theorem g2K : type_of% (qz d3A.eq_1 (qz d6G.eq_1 (qz d00.eq_1 (qz d12.eq_1 (qz d7V.eq_1 (qy e8h.eq_1)))))) := ⟨kr,kr,kr,kr,kr,kr⟩
theorem g1m : FnAt Tryz.prog tb a29 e8h 34 [.tmp 6, .tmp 7] := i9 i8 Tryz.func169 rfl (by kernel_rfl) (by kernel_rfl) rfl rfl
def e08 : CC := (.seq (.drawn d9n []) .ret)
def e1J : CC := (.cond (tm 12) e08 .skip)
def d4u : CC := (.seq (.reg b1a) e1J)
def d6F : CC := (.seq (.reg b0a) d4u)
def d2N : CC := (.seq (.reg d27) .ret)
def d3c : CC := (.seq d6F d2N)
def e8p : CC := (.seq (.reg b1r) d3c)
theorem e7S : type_of% (qz e08.eq_1 (qz e1J.eq_1 (qz d4u.eq_1 (qz d6F.eq_1 (qz d2N.eq_1 (qz d3c.eq_1 (qy e8p.eq_1))))))) := ⟨kr,kr,kr,kr,kr,kr,kr⟩
theorem e6m : FnAt Tryz.prog tb b1V e8p 23 [.tmp 4, .tmp 5, .tmp 6] := i9 i8 Tryz.func170 rfl (by kernel_rfl) (by kernel_rfl) rfl rfl
def e49 : CC := (.cond (tm 13) .skip (.exit 0))
def d5R : CC := (.seq (.reg d2P) e49)
def d2r : CC := (.reg f79)
def d8U : CC := (.block 1 d2r)
def d4E : CC := (.seq d5R d8U)
def d6Q : CC := (.loop d4E)
def e5v : CC := (.block 0 d6Q)
def c91 : CC := (.seq (.reg d1W) .ret)
def e4R : CC := (.seq e5v c91)
def e72 : CC := (.seq (.reg d1y) e4R)
theorem e8F : type_of% (qz e49.eq_1 (qz d5R.eq_1 (qz d2r.eq_1 (qz d8U.eq_1 (qz d4E.eq_1 (qz d6Q.eq_1 (qz e5v.eq_1 (qz c91.eq_1 (qz e4R.eq_1 (qy e72.eq_1)))))))))) := ⟨kr,kr,kr,kr,kr,kr,kr,kr,kr,kr⟩
theorem f9X : FnAt Tryz.prog tb b1W e72 17 [.tmp 4] := i9 i8 Tryz.func171 rfl (by kernel_rfl) (by kernel_rfl) rfl rfl
def e41 : CC := (.cond (tm 16) .skip (.exit 0))
def d0P : CC := (.seq (.reg b0F) e41)
def e3J : CC := (.reg e4d)
def d1u : CC := (.block 1 e3J)
def e4x : CC := (.seq d0P d1u)
def d1l : CC := (.loop e4x)
def d3j : CC := (.block 0 d1l)
def d2Z : CC := (.seq (.reg d0z) .ret)
def d1v : CC := (.seq d3j d2Z)
def e69 : CC := (.seq (.reg d9e) d1v)
theorem b2B : type_of% (qz e41.eq_1 (qz d0P.eq_1 (qz e3J.eq_1 (qz d1u.eq_1 (qz e4x.eq_1 (qz d1l.eq_1 (qz d3j.eq_1 (qz d2Z.eq_1 (qz d1v.eq_1 (qy e69.eq_1)))))))))) := ⟨kr,kr,kr,kr,kr,kr,kr,kr,kr,kr⟩
theorem g01 : FnAt Tryz.prog tb b2d e69 23 [.tmp 4] := i9 i8 Tryz.func172 rfl (by kernel_rfl) (by kernel_rfl) rfl rfl
def d6Y : CC := (.cond (tm 8) .skip (.exit 0))
def d9L : CC := (.seq (.reg b0K) d6Y)
def d7l : CC := (.cond (tm 18) .ret .skip)
def e3f : CC := (.seq (.reg e34) d7l)
def e1G : CC := (.block 1 e3f)
def b9I : CC := (.reg d2k)
def d73 : CC := (.seq e1G b9I)
def e3N : CC := (.seq d9L d73)
def c9X : CC := (.loop e3N)
def d1F : CC := (.block 0 c9X)
def e8z : CC := (.seq (.reg c99) d1F)
theorem a6m : type_of% (qz d6Y.eq_1 (qz d9L.eq_1 (qz d7l.eq_1 (qz e3f.eq_1 (qz e1G.eq_1 (qz b9I.eq_1 (qz d73.eq_1 (qz e3N.eq_1 (qz c9X.eq_1 (qz d1F.eq_1 (qy e8z.eq_1))))))))))) := ⟨kr,kr,kr,kr,kr,kr,kr,kr,kr,kr,kr⟩
theorem g1i : FnAt Tryz.prog tb a1g e8z 19 [] := i9 i8 Tryz.func179 rfl (by kernel_rfl) (by kernel_rfl) rfl rfl
def b4H : CC := (.seq (.reg b1q) .ret)
def b4I : CC := (.seq (.reg a5x) .ret)
def b4B : CC := (.seq (.reg a4G) (.goto 0))
def b4g : CC := (.cond (tm 31) b4B .skip)
def b4f : CC := (.seq (.reg a2E) b4g)
def b4D : CC := (.cond (tm 27) b4I b4f)
def b4K : CC := (.seq (.reg a06) b4D)
def b4G : CC := (.cond (tm 23) b4H b4K)
def b4E : CC := (.seq (.reg a00) b4G)
def b4L : CC := (.block 0 b4E)
def b4j : CC := (.seq (.reg a8T) .ret)
def b4m : CC := (.cond (tm 42) b4j .skip)
def b4k : CC := (.seq (.reg a4q) b4m)
def b4z : CC := (.seq (.reg a5y) b4k)
def b4A : CC := (.seq (.reg a4t) .ret)
def b4s : CC := (.seq b4z b4A)
def b4M : CC := (.seq b4L b4s)
def b4C : CC := (.seq (.reg a4S) b4M)
theorem a3A : type_of% (qz b4H.eq_1 (qz b4I.eq_1 (qz b4B.eq_1 (qz b4g.eq_1 (qz b4f.eq_1 (qz b4D.eq_1 (qz b4K.eq_1 (qz b4G.eq_1 (qz b4E.eq_1 (qz b4L.eq_1 (qz b4j.eq_1 (qz b4m.eq_1 (qz b4k.eq_1 (qz b4z.eq_1 (qz b4A.eq_1 (qz b4s.eq_1 (qz b4M.eq_1 (qz b4C.eq_1 ((qw a3J (.seq .skip b4C) kr)))))))))))))))))))) := ⟨kr,kr,kr,kr,kr,kr,kr,kr,kr,kr,kr,kr,kr,kr,kr,kr,kr,kr,kr⟩
def e7i : CC := (.seq (.reg d5V) (.scope a0J))
theorem g1z : type_of% (qy e7i.eq_1) := kr
theorem g0s : FnAt Tryz.prog tb b18 e7i 45 [.tmp 10, .tmp 11] := i9 i8 Tryz.func181 rfl (by kernel_rfl) (by kernel_rfl) rfl rfl
def d86 : CC := (.seq (.reg f8q) .ret)
def e3l : CC := (.cond (tm 10) d86 .skip)
def e5g : CC := (.seq (.reg a95) e3l)
def c0J : CC := (.reg b0v)
def d5h : CC := (.cond (tm 34) c0J .skip)
def d6v : CC := (.seq (.reg b0x) d5h)
def b9k : CC := (.seq (.reg b1l) .ret)
def d10 : CC := (.seq d6v b9k)
def d3o : CC := (.seq (.reg a9W) d10)
def d5Y : CC := (.seq (.reg a9B) d3o)
def d3k : CC := (.seq e5g d5Y)
def e8A : CC := (.seq (.reg a9P) d3k)
theorem e7s : type_of% (qz d86.eq_1 (qz e3l.eq_1 (qz e5g.eq_1 (qz c0J.eq_1 (qz d5h.eq_1 (qz d6v.eq_1 (qz b9k.eq_1 (qz d10.eq_1 (qz d3o.eq_1 (qz d5Y.eq_1 (qz d3k.eq_1 (qy e8A.eq_1)))))))))))) := ⟨kr,kr,kr,kr,kr,kr,kr,kr,kr,kr,kr,kr⟩
theorem g1o : FnAt Tryz.prog tb a3d e8A 51 [.tmp 4] := i9 i8 Tryz.func182 rfl (by kernel_rfl) (by kernel_rfl) rfl rfl
def d5C : CC := (.seq (.reg e3S) .ret)
def e8S : CC := (.seq (.reg e01) d5C)
theorem g2c : type_of% (qz d5C.eq_1 (qy e8S.eq_1)) := ⟨kr,kr⟩
theorem g0S : FnAt Tryz.prog tb W3 e8S 7 [.tmp 2] := i9 i8 Tryz.func183 rfl (by kernel_rfl) (by kernel_rfl) rfl rfl
def d6f : CC := (.seq (.reg e3A) .ret)
def e8K : CC := (.seq (.reg c90) d6f)
theorem g1E : type_of% (qz d6f.eq_1 (qy e8K.eq_1)) := ⟨kr,kr⟩
theorem g0W : FnAt Tryz.prog tb X2 e8K 5 [.tmp 2] := i9 i8 Tryz.func184 rfl (by kernel_rfl) (by kernel_rfl) rfl rfl
def d1b : CC := (.seq (.reg f7o) .ret)
def e4X : CC := (.seq (.reg f8v) .ret)
def d7q : CC := (.cond (tm 20) e4X .skip)
def d3D : CC := (.seq (.reg d3q) d7q)
def e02 : CC := (.cond (tm 16) d1b d3D)
def d5F : CC := (.seq (.reg e3K) e02)
def e44 : CC := (.block 0 d5F)
def c2D : CC := (.seq (.reg d9F) .ret)
def e3s : CC := (.seq e44 c2D)
def e4Q : CC := (.seq (.reg d1T) e3s)
def e84 : CC := (.seq (.reg e1l) e4Q)
theorem g2C : type_of% (qz d1b.eq_1 (qz e4X.eq_1 (qz d7q.eq_1 (qz d3D.eq_1 (qz e02.eq_1 (qz d5F.eq_1 (qz e44.eq_1 (qz c2D.eq_1 (qz e3s.eq_1 (qz e4Q.eq_1 (qy e84.eq_1))))))))))) := ⟨kr,kr,kr,kr,kr,kr,kr,kr,kr,kr,kr⟩
theorem g0t : FnAt Tryz.prog tb b1v e84 27 [.tmp 6] := i9 i8 Tryz.func185 rfl (by kernel_rfl) (by kernel_rfl) rfl rfl
def e0H : CC := (.seq (.reg f8y) .ret)
def d88 : CC := (.cond (tm 9) e0H .skip)
def e1X : CC := (.seq (.reg e4r) d88)
def e07 : CC := (.seq (.reg e4l) e1X)
def d83 : CC := (.seq (.reg f9E) .ret)
def e0N : CC := (.cond (tm 32) d83 .skip)
def d9W : CC := (.seq (.reg e0Z) e0N)
def c8R : CC := (.seq (.reg d66) .ret)
def c00 : CC := (.seq (.reg e3C) c8R)
def c9f : CC := (.seq (.reg d7W) c00)
def d6u : CC := (.seq d9W c9f)
def d1a : CC := (.seq e07 d6u)
def e74 : CC := (.seq (.reg e2q) d1a)
theorem g1U : type_of% (qz e0H.eq_1 (qz d88.eq_1 (qz e1X.eq_1 (qz e07.eq_1 (qz d83.eq_1 (qz e0N.eq_1 (qz d9W.eq_1 (qz c8R.eq_1 (qz c00.eq_1 (qz c9f.eq_1 (qz d6u.eq_1 (qz d1a.eq_1 (qy e74.eq_1))))))))))))) := ⟨kr,kr,kr,kr,kr,kr,kr,kr,kr,kr,kr,kr,kr⟩
theorem g0L : FnAt Tryz.prog tb b1Q e74 42 [.tmp 4] := i9 i8 Tryz.func186 rfl (by kernel_rfl) (by kernel_rfl) rfl rfl
def d5L : CC := (.seq (.reg f8Z) .ret)
def e0p : CC := (.cond (tm 7) d5L .skip)
def d63 : CC := (.seq (.reg d8i) e0p)
def c1i : CC := (.cond (tm 16) .skip (.exit 0))
def c6S : CC := (.reg f7E)
def b8V : CC := (.seq (.reg f7v) c6S)
def c4P : CC := (.block 1 b8V)
def b9v : CC := (.reg f8j)
def c6X : CC := (.seq c4P b9v)
def c7Q : CC := (.seq c1i c6X)
def c1x : CC := (.seq (.reg e3x) c7Q)
def d5T : CC := (.loop c1x)
def d4v : CC := (.block 0 d5T)
def d1B : CC := (.seq (.reg d4d) d4v)
def c4T : CC := (.seq (.reg e3d) .ret)
def d37 : CC := (.seq d1B c4T)
def d7y : CC := (.seq (.reg d6U) d37)
def d0J : CC := (.seq d63 d7y)
def e7M : CC := (.seq (.reg d6x) d0J)
theorem e8s : type_of% (qz d5L.eq_1 (qz e0p.eq_1 (qz d63.eq_1 (qz c1i.eq_1 (qz c6S.eq_1 (qz b8V.eq_1 (qz c4P.eq_1 (qz b9v.eq_1 (qz c6X.eq_1 (qz c7Q.eq_1 (qz c1x.eq_1 (qz d5T.eq_1 (qz d4v.eq_1 (qz d1B.eq_1 (qz c4T.eq_1 (qz d37.eq_1 (qz d7y.eq_1 (qz d0J.eq_1 (qy e7M.eq_1))))))))))))))))))) := ⟨kr,kr,kr,kr,kr,kr,kr,kr,kr,kr,kr,kr,kr,kr,kr,kr,kr,kr,kr⟩
theorem g0u : FnAt Tryz.prog tb b1I e7M 33 [.tmp 2] := i9 i8 Tryz.func187 rfl (by kernel_rfl) (by kernel_rfl) rfl rfl
def e3m : CC := (.seq (.reg f7A) .ret)
def e5t : CC := (.seq (.reg d58) .ret)
def c4L : CC := (.seq (.reg f74) .ret)
def c3M : CC := (.seq (.reg f9j) .ret)
def b8U : CC := (.cond (tm 36) c3M .skip)
def c2K : CC := (.seq (.reg f9p) b8U)
def c19 : CC := (.cond (tm 31) c4L c2K)
def c3X : CC := (.seq (.reg f7P) c19)
def e4b : CC := (.cond (tm 24) e5t c3X)
def d0f : CC := (.seq (.reg d74) e4b)
def e19 : CC := (.cond (tm 16) e3m d0f)
def d4k : CC := (.seq (.reg e3H) e19)
def d8X : CC := (.block 0 d4k)
def c1a : CC := (.cond (tm 59) .skip (.exit 1))
def b8Q : CC := (.seq (.reg f7f) c1a)
def c6t : CC := (.seq (.reg f5V) .ret)
def b8P : CC := (.cond (tm 73) c6t .skip)
def c8y : CC := (.seq (.reg f5N) b8P)
def c5e : CC := (.reg f7h)
def c4w : CC := (.seq c8y c5e)
def b99 : CC := (.seq (.reg f7i) c4w)
def c7T : CC := (.cond (tm 64) b99 .skip)
def c1n : CC := (.seq (.reg f5l) c7T)
def b9T : CC := (.seq (.reg f6Z) .ret)
def c59 : CC := (.cond (tm 93) b9T .skip)
def c2O : CC := (.seq (.reg f5d) c59)
def c9w : CC := (.seq (.reg f66) .ret)
def b88 : CC := (.cond (tm 114) c9w .skip)
def c4U : CC := (.seq (.reg f5k) b88)
def b89 : CC := (.seq (.reg f65) .ret)
def c8N : CC := (.seq c4U b89)
def c0H : CC := (.seq (.reg f60) c8N)
def c34 : CC := (.seq (.reg f6C) .ret)
def c3h : CC := (.cond (tm 139) c34 .skip)
def c3H : CC := (.seq (.reg f6Y) c3h)
def c1T : CC := (.seq (.reg f5H) .ret)
def c49 : CC := (.seq c3H c1T)
def c4o : CC := (.seq (.reg f6s) c49)
def c07 : CC := (.cond (tm 132) c4o .skip)
def c7u : CC := (.seq (.reg f6w) c07)
def c5Q : CC := (.cond (tm 107) c0H c7u)
def c7D : CC := (.seq (.reg f5U) c5Q)
def c0n : CC := (.seq (.reg f5S) c7D)
def c4C : CC := (.seq (.reg f6b) c0n)
def b9C : CC := (.seq c2O c4C)
def c6K : CC := (.seq c1n b9C)
def c9g : CC := (.block 2 c6K)
def c2Y : CC := (.seq b8Q c9g)
def c3o : CC := (.loop c2Y)
def b9a : CC := (.block 1 c3o)
def c6e : CC := (.seq (.reg f6y) .ret)
def c3C : CC := (.seq b9a c6e)
def c5G : CC := (.seq (.reg f6j) c3C)
def c7k : CC := (.seq (.reg f5L) c5G)
def c8r : CC := (.seq (.reg f5B) c7k)
def c3w : CC := (.seq (.reg f5w) c8r)
def c8F : CC := (.seq (.reg f5x) c3w)
def e3b : CC := (.seq d8X c8F)
def d7Q : CC := (.seq (.reg d8n) e3b)
def e8U : CC := (.seq (.reg d4f) d7Q)
theorem g1J : type_of% (qz e3m.eq_1 (qz e5t.eq_1 (qz c4L.eq_1 (qz c3M.eq_1 (qz b8U.eq_1 (qz c2K.eq_1 (qz c19.eq_1 (qz c3X.eq_1 (qz e4b.eq_1 (qz d0f.eq_1 (qz e19.eq_1 (qz d4k.eq_1 (qz d8X.eq_1 (qz c1a.eq_1 (qz b8Q.eq_1 (qz c6t.eq_1 (qz b8P.eq_1 (qz c8y.eq_1 (qz c5e.eq_1 (qz c4w.eq_1 (qz b99.eq_1 (qz c7T.eq_1 (qz c1n.eq_1 (qz b9T.eq_1 (qz c59.eq_1 (qz c2O.eq_1 (qz c9w.eq_1 (qz b88.eq_1 (qz c4U.eq_1 (qz b89.eq_1 (qz c8N.eq_1 (qz c0H.eq_1 (qz c34.eq_1 (qz c3h.eq_1 (qz c3H.eq_1 (qz c1T.eq_1 (qz c49.eq_1 (qz c4o.eq_1 (qz c07.eq_1 (qz c7u.eq_1 (qz c5Q.eq_1 (qz c7D.eq_1 (qz c0n.eq_1 (qz c4C.eq_1 (qz b9C.eq_1 (qz c6K.eq_1 (qz c9g.eq_1 (qz c2Y.eq_1 (qz c3o.eq_1 (qz b9a.eq_1 (qz c6e.eq_1 (qz c3C.eq_1 (qz c5G.eq_1 (qz c7k.eq_1 (qz c8r.eq_1 (qz c3w.eq_1 (qz c8F.eq_1 (qz e3b.eq_1 (qz d7Q.eq_1 (qy e8U.eq_1)))))))))))))))))))))))))))))))))))))))))))))))))))))))))))) := ⟨kr,kr,kr,kr,kr,kr,kr,kr,kr,kr,kr,kr,kr,kr,kr,kr,kr,kr,kr,kr,kr,kr,kr,kr,kr,kr,kr,kr,kr,kr,kr,kr,kr,kr,kr,kr,kr,kr,kr,kr,kr,kr,kr,kr,kr,kr,kr,kr,kr,kr,kr,kr,kr,kr,kr,kr,kr,kr,kr,kr⟩
theorem g0U : FnAt Tryz.prog tb a2S e8U 143 [.tmp 4] := i9 i8 Tryz.func191 rfl (by kernel_rfl) (by kernel_rfl) rfl rfl
def d6O : CC := (.cond (tm 16) .skip (.exit 0))
def e3e : CC := (.seq (.reg a4L) d6O)
def c3A : CC := (.seq (.reg f72) .ret)
def c48 : CC := (.cond (tm 30) c3A .skip)
def c01 : CC := (.seq (.reg e4U) c48)
def c5A : CC := (.seq (.reg e4j) .ret)
def c3R : CC := (.cond (tm 54) c5A .skip)
def c4R : CC := (.seq (.reg b0W) c3R)
def c6G : CC := (.reg d5t)
def c13 : CC := (.seq c4R c6G)
def c0V : CC := (.seq (.reg d7Z) c13)
def c0o : CC := (.seq (.drawn e3h [ (2, 0) , (5, 0) ]) c0V)
def d6g : CC := (.seq c01 c0o)
def e4f : CC := (.seq (.drawn d2T [ (2, 0) , (5, 0) ]) d6g)
def d4Y : CC := (.block 1 e4f)
def d77 : CC := (.seq e3e d4Y)
def d23 : CC := (.loop d77)
def d9z : CC := (.block 0 d23)
def c1J : CC := (.seq (.reg a9i) .ret)
def e2s : CC := (.seq d9z c1J)
def e78 : CC := (.seq (.reg d0q) e2s)
theorem a1E : type_of% (qz d6O.eq_1 (qz e3e.eq_1 (qz c3A.eq_1 (qz c48.eq_1 (qz c01.eq_1 (qz c5A.eq_1 (qz c3R.eq_1 (qz c4R.eq_1 (qz c6G.eq_1 (qz c13.eq_1 (qz c0V.eq_1 (qz c0o.eq_1 (qz d6g.eq_1 (qz e4f.eq_1 (qz d4Y.eq_1 (qz d77.eq_1 (qz d23.eq_1 (qz d9z.eq_1 (qz c1J.eq_1 (qz e2s.eq_1 (qy e78.eq_1))))))))))))))))))))) := ⟨kr,kr,kr,kr,kr,kr,kr,kr,kr,kr,kr,kr,kr,kr,kr,kr,kr,kr,kr,kr,kr⟩
theorem g1l : FnAt Tryz.prog tb b1P e78 63 [.tmp 8, .tmp 9] := i9 i8 Tryz.func196 rfl (by kernel_rfl) (by kernel_rfl) rfl rfl
def e04 : CC := (.seq (.reg f9k) .ret)
def d4U : CC := (.cond (tm 24) e04 .skip)
def e26 : CC := (.seq (.reg e4g) d4U)
def e3W : CC := (.seq (.drawn d8g [ (2, 0) , (5, 0) ]) .ret)
def d15 : CC := (.seq (.reg e0g) e3W)
def e0X : CC := (.seq e26 d15)
def d7g : CC := (.seq (.drawn e4F [ (2, 0) , (5, 0) ]) e0X)
def e70 : CC := (.seq (.reg c96) d7g)
theorem g1O : type_of% (qz e04.eq_1 (qz d4U.eq_1 (qz e26.eq_1 (qz e3W.eq_1 (qz d15.eq_1 (qz e0X.eq_1 (qz d7g.eq_1 (qy e70.eq_1)))))))) := ⟨kr,kr,kr,kr,kr,kr,kr,kr⟩
theorem g0o : FnAt Tryz.prog tb a5R e70 46 [.tmp 8] := i9 i8 Tryz.func197 rfl (by kernel_rfl) (by kernel_rfl) rfl rfl
def d1V : CC := (.seq (.reg f8p) .ret)
def d3G : CC := (.cond (tm 23) d1V .skip)
def d9f : CC := (.seq (.reg d0A) d3G)
def d8k : CC := (.seq (.reg e3i) .ret)
def e0B : CC := (.seq d9f d8k)
def e28 : CC := (.seq (.drawn d71 [ (2, 0) , (5, 0) ]) e0B)
def e68 : CC := (.seq (.reg e2J) e28)
theorem g2m : type_of% (qz d1V.eq_1 (qz d3G.eq_1 (qz d9f.eq_1 (qz d8k.eq_1 (qz e0B.eq_1 (qz e28.eq_1 (qy e68.eq_1))))))) := ⟨kr,kr,kr,kr,kr,kr,kr⟩
theorem f9O : FnAt Tryz.prog tb b1A e68 33 [.tmp 6, .tmp 7] := i9 i8 Tryz.func198 rfl (by kernel_rfl) (by kernel_rfl) rfl rfl
def e4P : CC := (.seq (.reg d1N) .ret)
def e7X : CC := (.seq (.reg d04) e4P)
theorem g2l : type_of% (qz e4P.eq_1 (qy e7X.eq_1)) := ⟨kr,kr⟩
theorem g0i : FnAt Tryz.prog tb b1x e7X 4 [.tmp 2] := i9 i8 Tryz.func200 rfl (by kernel_rfl) (by kernel_rfl) rfl rfl
def d7h : CC := (.seq (.reg d2W) .ret)
def e61 : CC := (.seq (.reg d89) d7h)
theorem g2I : type_of% (qz d7h.eq_1 (qy e61.eq_1)) := ⟨kr,kr⟩
theorem g1e : FnAt Tryz.prog tb a5Q e61 8 [.tmp 4] := i9 i8 Tryz.func203 rfl (by kernel_rfl) (by kernel_rfl) rfl rfl
def b3y : CC := (.seq (.reg a5g) .ret)
def b3K : CC := (.cond (tm 17) b3y .skip)
def b3d : CC := (.seq (.reg a0n) b3K)
def b22 : CC := (.cond (tm 20) (.goto 1) .skip)
def b3b : CC := (.seq (.reg a0V) b22)
def b2Z : CC := (.seq (.reg a0e) .ret)
def b2N : CC := (.cond (tm 30) b2Z .skip)
def b2Q : CC := (.seq (.reg Q6) b2N)
def b2V : CC := (.cond (tm 39) (.goto 2) .skip)
def b2K : CC := (.seq (.reg P8) b2V)
def b2L : CC := (.seq (.reg U1) (.goto 0))
def b2S : CC := (.seq b2K b2L)
def b2X : CC := (.seq .skip b2S)
def b2U : CC := (.seq (.goto 0) b2X)
def b2J : CC := (.seq (.reg a0h) b2U)
def b26 : CC := (.seq b2Q b2J)
def b3C : CC := (.seq .skip b26)
def b3m : CC := (.seq b3b b3C)
def b3G : CC := (.seq b3d b3m)
theorem a3s : type_of% (qz b3y.eq_1 (qz b3K.eq_1 (qz b3d.eq_1 (qz b22.eq_1 (qz b3b.eq_1 (qz b2Z.eq_1 (qz b2N.eq_1 (qz b2Q.eq_1 (qz b2V.eq_1 (qz b2K.eq_1 (qz b2L.eq_1 (qz b2S.eq_1 (qz b2X.eq_1 (qz b2U.eq_1 (qz b2J.eq_1 (qz b26.eq_1 (qz b3C.eq_1 (qz b3m.eq_1 (qz b3G.eq_1 ((qw a3w (.seq .skip b3G) kr))))))))))))))))))))) := ⟨kr,kr,kr,kr,kr,kr,kr,kr,kr,kr,kr,kr,kr,kr,kr,kr,kr,kr,kr,kr⟩
def b3F : CC := (.seq (.reg a0e) .ret)
def b3e : CC := (.cond (tm 30) b3F .skip)
def b3u : CC := (.seq (.reg Q6) b3e)
def b2R : CC := (.cond (tm 39) (.goto 2) .skip)
def b3A : CC := (.seq (.reg P8) b2R)
def b2I : CC := (.seq (.reg U1) (.goto 0))
def b3t : CC := (.seq b3A b2I)
def b3M : CC := (.seq .skip b3t)
def b3D : CC := (.seq (.goto 0) b3M)
def b29 : CC := (.seq (.reg a0h) b3D)
def b3l : CC := (.seq b3u b29)
theorem b4w : type_of% (qz b3F.eq_1 (qz b3e.eq_1 (qz b3u.eq_1 (qz b2R.eq_1 (qz b3A.eq_1 (qz b2I.eq_1 (qz b3t.eq_1 (qz b3M.eq_1 (qz b3D.eq_1 (qz b29.eq_1 (qz b3l.eq_1 ((qw a6G (.seq .skip b3l) kr))))))))))))) := ⟨kr,kr,kr,kr,kr,kr,kr,kr,kr,kr,kr,kr⟩
def b3a : CC := (.cond (tm 39) (.goto 2) .skip)
def b3g : CC := (.seq (.reg P8) b3a)
def b3n : CC := (.seq (.reg U1) (.goto 0))
def b27 : CC := (.seq b3g b3n)
theorem b4x : type_of% (qz b3a.eq_1 (qz b3g.eq_1 (qz b3n.eq_1 (qz b27.eq_1 ((qw b4T (.seq .skip b27) kr)))))) := ⟨kr,kr,kr,kr,kr⟩
def e7p : CC := (.seq (.reg d9V) (.scope H2))
theorem g1K : type_of% (qy e7p.eq_1) := kr
theorem g0B : FnAt Tryz.prog tb b2h e7p 42 [.tmp 6, .tmp 7] := i9 i8 Tryz.func210 rfl (by kernel_rfl) (by kernel_rfl) rfl rfl
def e4Y : CC := (.seq (.reg f7r) .ret)
def e05 : CC := (.cond (tm 17) e4Y .skip)
def e0C : CC := (.seq (.reg a9S) e05)
def e3v : CC := (.drawn d6V [ (4, 0) ])
def c3c : CC := (.drawn d4h [ (4, 0) ])
def d2S : CC := (.cond (tm 20) e3v c3c)
def e1Y : CC := (.seq (.reg a9F) d2S)
def c1Q : CC := (.seq (.reg b1j) .ret)
def e4i : CC := (.seq e1Y c1Q)
def e1B : CC := (.seq (.reg a9I) e4i)
def d8m : CC := (.seq e0C e1B)
def e8n : CC := (.seq (.reg a96) d8m)
theorem e8q : type_of% (qz e4Y.eq_1 (qz e05.eq_1 (qz e0C.eq_1 (qz e3v.eq_1 (qz c3c.eq_1 (qz d2S.eq_1 (qz e1Y.eq_1 (qz c1Q.eq_1 (qz e4i.eq_1 (qz e1B.eq_1 (qz d8m.eq_1 (qy e8n.eq_1)))))))))))) := ⟨kr,kr,kr,kr,kr,kr,kr,kr,kr,kr,kr,kr⟩
theorem e6R : FnAt Tryz.prog tb b2f e8n 42 [.tmp 6, .tmp 7] := i9 i8 Tryz.func211 rfl (by kernel_rfl) (by kernel_rfl) rfl rfl
def d8V : CC := (.seq (.reg f87) .ret)
def d8J : CC := (.cond (tm 14) d8V .skip)
def e4J : CC := (.seq (.reg b0B) d8J)
def e1Q : CC := (.seq (.reg b1i) .ret)
def e4y : CC := (.seq e4J e1Q)
def e8d : CC := (.seq (.reg a99) e4y)
theorem e7y : type_of% (qz d8V.eq_1 (qz d8J.eq_1 (qz e4J.eq_1 (qz e1Q.eq_1 (qz e4y.eq_1 (qy e8d.eq_1)))))) := ⟨kr,kr,kr,kr,kr,kr⟩
theorem g0C : FnAt Tryz.prog tb b1U e8d 25 [.tmp 4, .tmp 5] := i9 i8 Tryz.func212 rfl (by kernel_rfl) (by kernel_rfl) rfl rfl
def e4W : CC := (.seq (.reg d4o) .ret)
def e7G : CC := (.seq (.reg e1i) e4W)
theorem g2h : type_of% (qz e4W.eq_1 (qy e7G.eq_1)) := ⟨kr,kr⟩
theorem g0G : FnAt Tryz.prog tb b1F e7G 21 [.tmp 6] := i9 i8 Tryz.func221 rfl (by kernel_rfl) (by kernel_rfl) rfl rfl
end
end Go.Proofs.YtooooiidpaecmaaGreatDoor
