import Derived.Test.YtooooiidpaecmaaGreatGr
import Derived.Test.YtooooiidpaecmaaGreatAmMv
import Derived.Test.YtooooiidpaecmaaGreatGu
import Derived.Test.YtooooiidpaecmaaGreatAmSt
set_option linter.unusedVariables false
set_option linter.unusedSimpArgs false
/- Lists that have memory of their own: skerryref01's IntsApart. -/
namespace Go.Proofs.YtooooiidpaecmaaGreat
open Go Go.Am
structure Lz where
  x : AV
  len : Nat
  o : Option Nat
def Lz.S (zs : List Lz) (i : Nat) : Nat := ((zs.take i).map (·.len)).sum
def Lz.F (zs : List Lz) (b : Nat) : Prop := ∃ (j : Nat) (z : Lz), zs[j]? = some z ∧ z.o = some b
noncomputable def finI (zs : List Lz) (j len : Nat) : List AV := (List.range len).map fun t => ivn (Lz.S zs j + t)
noncomputable def extI (zs : List Lz) (i k j : Nat) : List AV := if j < i then (List.range 6).map fun u => ivn (Lz.S zs zs.length + 6 * j + u) else if j = i then (List.range k).map fun u => ivn (Lz.S zs zs.length + 6 * j + u) else []
section
variable {m : M}
structure W2I (m0 : M) (B : Nat) (zs : List Lz) (i k : Nat) (gs : Nat → AV) (own : Nat → List Nat) (gv : AV) (go : Option Nat) (m : M) : Prop where
  out : At m B ty_sint true (zs.map (·.x))
  ea : ∀ j z, zs[j]? = some z → GrAt m ty_int z.x (finI zs j z.len) (gs j) (finI zs j z.len ++ extI zs i k j) (own j)
  dis : ∀ j j' b, j ≠ j' → j < zs.length → j' < zs.length → b ∈ own j → b ∉ own j'
  ob : ∀ j b, j < zs.length → b ∈ own j → b ≠ B ∧ go ≠ some b
  old : ∀ j b, j < zs.length → b ∈ own j → (∃ z, zs[j]? = some z ∧ z.o = some b) ∨ m0.next ≤ b
  gr : SlAt m ty_sint 1 gv i ((List.range i).map gs) go
  gn : ∀ b, go = some b → m0.next ≤ b ∧ b ≠ B
  un : ∀ j z, zs[j]? = some z → i ≤ j → (k = 0 ∨ i < j) → gs j = z.x
  kp : Keep m0 m (Lz.F zs)
end
structure Vn (m : M) (x : AV) (l : List Nat) : Prop where
  len : lenK false x = some l.length
  el : ∀ (k z : Nat), l[k]? = some z → ∃ b cap, x = .slice b 0 l.length cap false ∧ m.rd b k = some (ivn z)
theorem vn_sle {m : M} {x : AV} {l : List Nat} {o : Option Nat} (h : SlE m ty_int x l.length (l.map ivn) o) : Vn m x l := by
  refine ⟨h.len, fun k z hz => ?_⟩
  rcases h with h | ⟨b, _, h0, _⟩
  · obtain ⟨b, cap, h1, _, h2⟩ := elem1 h (List.getElem?_eq_some_iff.1 hz).1
    exact ⟨b, cap, h1, by rw [h2, List.getElem?_map, hz]; rfl⟩
  · rw [List.length_eq_zero_iff.1 h0] at hz; cases hz
theorem _root_.Go.Am.RsAt.kp {m m' : M} {x : AV} {l : List AV} {o : Option Nat} {S : List Nat} (h : RsAt m x l o) (hw : Wf m) (k : KeepK m m' [] S) : RsAt m' x l o := by
  refine h.keep hw k fun b hb => ?_
  rintro (⟨j, h1, _⟩ | ⟨_, h2⟩)
  · cases h1
  · cases h with
    | nil => cases hb
    | empty => cases hb
    | row h =>
      cases hb
      obtain ⟨c, e, _⟩ := h.row
      unfold kd at h2
      rw [e] at h2
      dsimp only at h2
      cases hr : c.ro with
      | true => rw [hr] at h2; exact absurd h2 (show ¬ 0 = roK by decide)
      | false => rw [hr] at h2; exact absurd h2 (Nat.succ_ne_zero _).symm
theorem data_len (S : PS) (x : Ino) : (dataL S x).length ≤ 1064 := by
  unfold dataL
  rw [List.length_map, List.length_range]
  have := lst_lt (Nf S x) 1064
  omega
theorem deepL_len (S : PS) (x : Ino) : (deepL S x).length ≤ 34 := by
  unfold deepL
  rw [List.length_append, List.length_append]
  have h1 := one_len S x (.r 8)
  have h2 := one_len S x (.r 9)
  have h3 := deep_len S x 32
  omega
section
variable {m : M} {A : Ad} {S : PS} {own : Nat → Prop} {tt aa : Nat}
theorem Make_out (hw : Wf m) (h : GAt m A S own) (ht : TAt m tt aa A.g) {i k : Int} (hk : k < 0 ∨ 1063 < k) : ∃ m', Keep m m' (fun _ => False) ∧ Ran Tryz.prog tb fn_d3 [.ptr tt 0, .ptr A.o 0, iv i, iv k] m (.tuple [iv 0, .b false, iv 2]) m' := by
  obtain ⟨m1, k1, r1⟩ := Steps_out hw hk
  have hp : m.rdN tt 1 12 = some planL := ht.t.rdN (by show 1 + 12 ≤ 14; omega)
  refine ⟨m1, k1, ?_⟩
  refine WpF.go at_d3 ?_
  simp -implicitDefEqProofs only [o_d3, r_d3_0, r_d3_1, r_d3_3, r_d3_4, r_d3_5, b_np26, hp, r1.eq, show ((2 : Int) = 0) = False from eq_false (by omega), ↓reduceIte, Nat.reduceEqDiff, Nat.reduceAdd, List.getElem?_cons_succ, List.getElem?_cons_zero, wA, wB, wC, wD]
end
section
variable {m : M} {A : Ad} {S : PS} {own : Nat → Prop} {X : Nat → Ino} {tt aa i : Nat}
structure FindInv (m : M) (A : Ad) (tt : Nat) (S : PS) (X : Nat → Ino) (i : Nat) (p : Pa) (r sl : Nat) (n blk : Nat) (mk : M) : Prop where
  z : n = 0 → blk = 0
  s : ∀ j w, n = j + 1 → p.way[j]? = some w → nd S (X i) w = blk ∧ blk ≠ 0
  sl : ∃ x, At mk sl ty_inode_slot true [iv i, iv blk, x]
  r : At mk r ty_int true ((p.way.map Pa.at).map ivn)
  kp : Keep m mk fun _ => False
theorem Find_ran (hw : Wf m) (h : GAt m A S own) (ht : TAt m tt aa A.g) (hI : Inv S I2 X) (hi : i ∈ I2) {k : Nat} (hk : k ≤ 1063) :
    ∃ m', Keep m m' (fun _ => False) ∧ Ran Tryz.prog tb fn_d1 [.ptr tt 0, .ptr A.o 0, iv i, iv k] m (.tuple [iv (nd S (X i) (leafOf k)), iv 0]) m' := by
  obtain ⟨hpok, hpin⟩ := leafOf_ok hk
  obtain ⟨m1, r, a1, k1, n1, r1⟩ := Steps_ran hw hk
  obtain ⟨hL1, hL3⟩ := way_len (leafOf k)
  generalize leafOf k = p at *
  obtain ⟨m2, e2, a2, k2, n2⟩ := addZ_at k1.wf ty_inode_slot 3 [iv 0, iv 0, iv 0]
  obtain ⟨m3, e3, a3, k3, n3⟩ := a2.st k2.wf 0 [iv i, iv 0, iv 0]
  have k02 := k1.tf k2
  have hn1 := k1.next
  have k03 : Keep m m3 fun _ => False := k02.trans k3 fun b hb e => by omega
  have hp : m.rdN tt 1 12 = some planL := ht.t.rdN (by show 1 + 12 ≤ 14; omega)
  have hrp : repl 3 [iv 0] = [iv 0, iv 0, iv 0] := rfl
  have hr1 := a1.lt k1.wf
  have a13 := (a1.keep k1.wf k2 id).keep k2.wf k3 (by omega)
  have key : WpF Tryz.prog tb fn_d1 [.ptr tt 0, .ptr A.o 0, iv i, iv k] m fun v m' => v = .tuple [iv (nd S (X i) p), iv 0] ∧ Keep m m' fun _ => False := by
    refine WpF.go at_d1 ?_
    simp -implicitDefEqProofs only [o_d1, r_d1_0, r_d1_1, r_d1_3, r_d1_4, r_d1_6, r_d1_7, r_d1_8, b_np26, hp, r1.eq, e2, e3, ↓reduceIte, Nat.reduceEqDiff, Nat.reduceAdd, Nat.reduceLeDiff, List.getElem?_cons_succ, List.getElem?_cons_zero, wA, wB, wC, wD]
    refine GX_loop (fun j fr mk => ∃ n blk, n ≤ p.way.length ∧ j = p.way.length - n ∧ (ev (tm 0) fr = .ptr tt 0 ∧ ev (tm 1) fr = .ptr A.o 0 ∧ ev (tm 12) fr = .ptr m1.next 0 ∧ ev (tm 13) fr = iv (blk : Nat) ∧ ev (tm 30) fr = .slice r 0 p.way.length p.way.length false ∧ ev (tm 31) fr = iv (p.way.length : Nat) ∧ ev (tm 32) fr = iv (n : Nat)) ∧ FindInv m A tt S X i p r m1.next n blk mk) (k := p.way.length)
      ⟨0, 0, Nat.zero_le _, rfl, by simp -implicitDefEqProofs only [nc0, ev_tm, ↓reduceIte, Nat.reduceEqDiff, nc0, and_self], ⟨fun _ => rfl, fun j w e => by omega, ⟨_, a3⟩, a13, k03⟩⟩ ?_
    rintro j fr mk ⟨n, blk, hn, rfl, ⟨f0, f1, f12, f13, f30, f31, f32⟩, hF⟩
    have hwk := hF.kp.wf
    by_cases hlt : n < p.way.length
    · have hq0 : p.way[n]? = some p.way[n] := List.getElem?_eq_getElem hlt
      generalize p.way[n] = q at hq0
      have hqok := way_ok hpok hq0
      have hsr : mk.rd r n = some (iv q.at) := by
        rw [hF.r.rd, List.getElem?_map, List.getElem?_map, hq0]; rfl
      have hia := v_iaS (m := mk) 1 r 0 p.way.length p.way.length false hlt
      rw [Nat.zero_add, Nat.mul_one] at hia
      obtain ⟨x, aS⟩ := hF.sl
      obtain ⟨mA, eA, aA, kA, nA⟩ := aS.st hwk 2 [iv q.at]
      have k0A : Keep m mA fun _ => False := hF.kp.trans kA fun b hb e => by omega
      have hc : (∃ k, q = .r k ∧ blk = 0) ∨ ∃ w, q.up = some w ∧ nd S (X i) w = blk ∧ blk ≠ 0 := by
        cases n with
        | zero =>
          obtain ⟨k', rfl⟩ := way_0 hq0
          exact .inl ⟨k', rfl, hF.z rfl⟩
        | succ n =>
          have hw0 : p.way[n]? = some p.way[n] := List.getElem?_eq_getElem (by omega)
          obtain ⟨w1, w2⟩ := hF.s n _ rfl hw0
          exact .inr ⟨_, way_up hw0 hq0, w1, w2⟩
      obtain ⟨mB, kB, rB⟩ := load_nd kA.wf (h.k0 hw k0A) (ht.k0 hw k0A) hI hi hqok hc
      have hl : mA.rdN m1.next 0 3 = some [iv i, iv blk, iv q.at] := aA.rdN (by show 0 + 3 ≤ 3; omega)
      have aRA := hF.r.keep hwk kA (by omega)
      have aB := aA.keep kA.wf kB id
      by_cases h0 : nd S (X i) q = 0
      · rw [h0, nc0] at rB
        have hp0 := below0 hpok hq0 h0
        simp -implicitDefEqProofs only [o_d1, r_d1_9, r_d1_10, r_d1_11, r_d1_12, r_d1_14, r_d1_17, f0, f1, f12, f30, f31, f32, show ((n : Int) < (p.way.length : Int)) = True from eq_true (by omega), hia, hsr, eA, hl, rB.eq, ↓reduceIte, Nat.reduceEqDiff, List.getElem?_cons_succ, List.getElem?_cons_zero, wA, wB, wC, wD]
        exact ⟨by rw [hp0]; rfl, k0A.tf kB⟩
      · obtain ⟨mC, eC, aC, kC, nC⟩ := aB.st kB.wf 1 [iv (nd S (X i) q)]
        simp -implicitDefEqProofs only [o_d1, r_d1_9, r_d1_10, r_d1_11, r_d1_12, r_d1_14, r_d1_15, r_d1_16, f0, f1, f12, f30, f31, f32, show ((n : Int) < (p.way.length : Int)) = True from eq_true (by omega), hia, hsr, eA, hl, rB.eq, show ((nd S (X i) q : Int) = 0) = False from eq_false (by omega), eC, b_add ty_int (show -9223372036854775808 ≤ (n : Int) + 1 by omega) (show (n : Int) + 1 ≤ 9223372036854775807 by omega), ↓reduceIte, Nat.reduceEqDiff, List.getElem?_cons_succ, List.getElem?_cons_zero, wA, wB, wC, wD]
        have k0C : Keep m mC fun _ => False := (k0A.tf kB).trans kC fun b hb e => by omega
        refine LK_n (k' := p.way.length - (n + 1)) (by omega) ⟨n + 1, nd S (X i) q, by omega, rfl, by simp -implicitDefEqProofs only [f0, f1, f12, f30, f31, show (n : Int) + 1 = ((n + 1 : Nat) : Int) from rfl, ev_tm, ↓reduceIte, Nat.reduceEqDiff, and_self], ⟨fun e => by omega, fun j w e hj => ?_, ⟨_, aC⟩, ((aRA.keep kA.wf kB id).keep kB.wf kC (by omega)), k0C⟩⟩
        obtain rfl : j = n := by omega
        rw [hq0] at hj
        cases hj
        exact ⟨rfl, h0⟩
    · have hnl : n = p.way.length := by omega
      subst hnl
      obtain ⟨j, hj⟩ : ∃ j, p.way.length = j + 1 := ⟨p.way.length - 1, by omega⟩
      have hw0 : p.way[j]? = some p.way[j] := List.getElem?_eq_getElem (by omega)
      obtain ⟨w1, w2⟩ := hF.s j _ hj hw0
      have hpq := way_last hw0 hj.symm
      rw [hpq] at w1
      simp -implicitDefEqProofs only [o_d1, r_d1_9, r_d1_17, f13, f31, f32, show ((p.way.length : Int) < (p.way.length : Int)) = False from eq_false (by omega), ↓reduceIte, Nat.reduceEqDiff, wA, wB, wC, wD]
      exact ⟨by rw [w1], hF.kp⟩
  obtain ⟨v, m', ⟨rfl, h1⟩, r⟩ := key.ran
  exact ⟨m', h1, r⟩
theorem Find_out (hw : Wf m) (h : GAt m A S own) (ht : TAt m tt aa A.g) {k : Int} {j : Int} (hk : k < 0 ∨ 1063 < k) : ∃ m', Keep m m' (fun _ => False) ∧ Ran Tryz.prog tb fn_d1 [.ptr tt 0, .ptr A.o 0, iv j, iv k] m (.tuple [iv 0, iv 2]) m' := by
  obtain ⟨m1, k1, r1⟩ := Steps_out hw hk
  have hp : m.rdN tt 1 12 = some planL := ht.t.rdN (by show 1 + 12 ≤ 14; omega)
  refine ⟨m1, k1, ?_⟩
  refine WpF.go at_d1 ?_
  simp -implicitDefEqProofs only [o_d1, r_d1_0, r_d1_1, r_d1_3, r_d1_4, r_d1_5, b_np26, hp, r1.eq, show ((2 : Int) = 0) = False from eq_false (by omega), ↓reduceIte, Nat.reduceEqDiff, Nat.reduceAdd, List.getElem?_cons_succ, List.getElem?_cons_zero, wA, wB, wC, wD]
end
end Go.Proofs.YtooooiidpaecmaaGreat
