import Derived.Test.YtooooiidpaecmaaGreatGr
import Derived.Test.YtooooiidpaecmaaGreatAmMv
import Derived.Test.YtooooiidpaecmaaGreatGu
import Derived.Test.YtooooiidpaecmaaGreatAmSt
set_option linter.unusedVariables false
set_option linter.unusedSimpArgs false
/- Lists that have memory of their own: skerryref01's IntsApart. -/
namespace Go.Proofs.YtooooiidpaecmaaGreat
open Go Go.Am
structure Lz where
 x : AV
 len : Nat
 o : Option Nat
def Lz.S (zs : List Lz) (i : Nat) : Nat := ((zs.take i).map (·.len)).sum
def Lz.F (zs : List Lz) (b : Nat) : Prop := ∃ (j : Nat) (z : Lz), zs[j]? = some z ∧ z.o = some b
noncomputable def finI (zs : List Lz) (j len : Nat) : List AV := (List.range len).map fun t => ivn (Lz.S zs j + t)
noncomputable def extI (zs : List Lz) (i k j : Nat) : List AV := if j < i then (List.range 6).map fun u => ivn (Lz.S zs zs.length + 6 * j + u) else if j = i then (List.range k).map fun u => ivn (Lz.S zs zs.length + 6 * j + u) else []
section
variable {m : M}
structure W2I (m0 : M) (B : Nat) (zs : List Lz) (i k : Nat) (gs : Nat → AV) (own : Nat → List Nat) (gv : AV) (go : Option Nat) (m : M) : Prop where
 out : At m B ty_sint true (zs.map (·.x))
 ea : ∀ j z, zs[j]? = some z → GrAt m ty_int z.x (finI zs j z.len) (gs j) (finI zs j z.len ++ extI zs i k j) (own j)
 dis : ∀ j j' b, j ≠ j' → j < zs.length → j' < zs.length → b ∈ own j → b ∉ own j'
 ob : ∀ j b, j < zs.length → b ∈ own j → b ≠ B ∧ go ≠ some b
 old : ∀ j b, j < zs.length → b ∈ own j → (∃ z, zs[j]? = some z ∧ z.o = some b) ∨ m0.next ≤ b
 gr : SlAt m ty_sint 1 gv i ((List.range i).map gs) go
 gn : ∀ b, go = some b → m0.next ≤ b ∧ b ≠ B
 un : ∀ j z, zs[j]? = some z → i ≤ j → (k = 0 ∨ i < j) → gs j = z.x
 kp : Keep m0 m (Lz.F zs)
end
noncomputable def mkv (n : Nat) : AV := ofI .u8 (IntKind.u8.wrap (((n * 7 + n / 36 + 3 : Nat)) : Int))
theorem o_convI (k : IntKind) (x : RO) (fr : Go.Am.Fr) (m : M) : run (.convI k x) fr m = rConvI k (.cst (ev x fr)) .leaf m := rfl
theorem v_convI (k : IntKind) (i : Int) (m : M) : rConvI k (.cst (iv i)) .leaf m = some (ofI k (k.wrap i), m) := by
 show (ob (toI (iv i)) fun q => some (ofI k (k.wrap q.2), m)) = _
 rw [toI_iv]; rfl
theorem b_mulI (t : TypeId) {a b : Int} (h1 : -9223372036854775808 ≤ a * b) (h2 : a * b ≤ 9223372036854775807) : binS Tryz.prog .mul t (iv a) (iv b) = some (iv (a * b)) := by
 rw [binS_iv]
 show some (iv (IntKind.i64.wrap (a * b))) = _
 rw [IntWalk.i64_in _ ⟨h1, h2⟩]
theorem wrap_u8 (i : Int) : ∃ k : Nat, k < 256 ∧ ofI .u8 (IntKind.u8.wrap i) = .y k := by
 have h : 0 ≤ IntKind.u8.wrap i ∧ IntKind.u8.wrap i < 256 := by
  have h1 := Int.emod_nonneg i (show (256 : Int) ≠ 0 by decide)
  have h2 := Int.emod_lt_of_pos i (show (0 : Int) < 256 by decide)
  have e : IntKind.u8.wrap i = i % 256 := by
   unfold IntKind.wrap
   simp [IntKind.signed, IntKind.bits]
  rw [e]; exact ⟨h1, h2⟩
 refine ⟨(IntKind.u8.wrap i).toNat, by omega, ?_⟩
 generalize IntKind.u8.wrap i = j at h
 obtain ⟨k, rfl⟩ : ∃ k : Nat, j = k := ⟨j.toNat, by omega⟩
 rfl
noncomputable def finY (zs : List Lz) (j len : Nat) : List AV := (List.range len).map fun t => mkv (Lz.S zs j + t)
noncomputable def extY (zs : List Lz) (i k j : Nat) : List AV := if j < i then (List.range 6).map fun u => mkv (Lz.S zs zs.length + 6 * j + u) else if j = i then (List.range k).map fun u => mkv (Lz.S zs zs.length + 6 * j + u) else []
section
variable {m : M}
structure W2Y (m0 : M) (B : Nat) (zs : List Lz) (i k : Nat) (gs : Nat → AV) (own : Nat → List Nat) (gv : AV) (go : Option Nat) (m : M) : Prop where
 out : At m B ty_suint8 true (zs.map (·.x))
 ea : ∀ j z, zs[j]? = some z → GrAt m ty_uint8 z.x (finY zs j z.len) (gs j) (finY zs j z.len ++ extY zs i k j) (own j)
 dis : ∀ j j' b, j ≠ j' → j < zs.length → j' < zs.length → b ∈ own j → b ∉ own j'
 ob : ∀ j b, j < zs.length → b ∈ own j → b ≠ B ∧ go ≠ some b
 old : ∀ j b, j < zs.length → b ∈ own j → (∃ z, zs[j]? = some z ∧ z.o = some b) ∨ m0.next ≤ b
 gr : SlAt m ty_suint8 1 gv i ((List.range i).map gs) go
 gn : ∀ b, go = some b → m0.next ≤ b ∧ b ≠ B
 un : ∀ j z, zs[j]? = some z → i ≤ j → (k = 0 ∨ i < j) → gs j = z.x
 kp : Keep m0 m (Lz.F zs)
end
structure Vn (m : M) (x : AV) (l : List Nat) : Prop where
 len : lenK false x = some l.length
 el : ∀ (k z : Nat), l[k]? = some z → ∃ b cap, x = .slice b 0 l.length cap false ∧ m.rd b k = some (ivn z)
theorem _root_.Go.Am.RsAt.kp {m m' : M} {x : AV} {l : List AV} {o : Option Nat} {S : List Nat} (h : RsAt m x l o) (hw : Wf m) (k : KeepK m m' [] S) : RsAt m' x l o := by
 refine h.keep hw k fun b hb => ?_
 rintro (⟨j, h1, _⟩ | ⟨_, h2⟩)
 ·cases h1
 ·cases h with
  | nil => cases hb
  | empty => cases hb
  | row h =>
   cases hb
   obtain ⟨c, e, _⟩ := h.row
   unfold kd at h2
   rw [e] at h2
   dsimp only at h2
   cases hr : c.ro with
   | true => rw [hr] at h2; exact absurd h2 (show ¬ 0 = roK by decide)
   | false => rw [hr] at h2; exact absurd h2 (Nat.succ_ne_zero _).symm
theorem data_len (S : PS) (x : Ino) : (dataL S x).length ≤ 1064 := by
 unfold dataL
 rw [List.length_map, List.length_range]
 have := lst_lt (Nf S x) 1064
 omega
section
variable {m : M} {A : Ad} {S : PS} {own : Nat → Prop} {tt aa : Nat}
end
structure Ks (m : M) (x : AV) (zs : List Int) (o : Option Nat) (A : Ad) (S : PS) (own : Nat → Prop) (X : Nat → Ino) (tt aa : Nat) : Prop where
 wf : Wf m
 g : GAt m A S own
 t : TAt m tt aa A.g
 i : Inv S I2 X
 x : RsAt m x (zs.map iv) o
section
variable {m m' : M} {x : AV} {zs : List Int} {o : Option Nat} {A : Ad} {S : PS} {own : Nat → Prop} {X : Nat → Ino} {tt aa : Nat}
end
end Go.Proofs.YtooooiidpaecmaaGreat
