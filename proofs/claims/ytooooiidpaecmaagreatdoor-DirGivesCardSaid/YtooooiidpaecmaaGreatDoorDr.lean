import Derived.Test.YtooooiidpaecmaaGreatDoorFk
import Derived.Test.YtooooiidpaecmaaGreatDoorDh
import Derived.Test.YtooooiidpaecmaaGreatDoorDd
import Derived.Test.YtooooiidpaecmaaGreatDoorPm
import Derived.Test.YtooooiidpaecmaaGreatDoorAmV
import Derived.Test.YtooooiidpaecmaaGreatDoorRows
import Derived.Shelf.SlIterI.Nil
import Derived.Shelf.SlIterI.Sorted
import Derived.Shelf.SortM.Plain
import Derived.Shelf.SortM.SortNone
import Derived.Ground.GgzProg
import Derived.Ground.SlgmProg
import Derived.Test.YtooooiidpaecmaaGreatDoorIaA
import Derived.Test.YtooooiidpaecmaaGreatDoorAmSc
import Derived.Test.YtooooiidpaecmaaGreatDoorTie
import Derived.Test.YtooooiidpaecmaaGreatDoorCards
import Derived.Lay
import Derived.SevenTiedAt
import Derived.Deep.Slices
import Derived.Deep.Fields
import Derived.ChangeSame
import Derived.ProofKit
import Derived.Shelf.Abstract
set_option linter.unusedVariables false
set_option linter.unusedSimpArgs false
/- alloc.Alloc.FreeBlock. -/
namespace Go.Proofs.YtooooiidpaecmaaGreatDoor
open Go Go.Am
section
variable {m : M} {A : Ad} {S : PS} {own : Nat → Prop} {aa : Nat}
theorem f1a {s : AV} {t : Bk} {r i : Nat} (hs : BsAt m s t r) (h64 : t.length = 64) (hi : i < 512) : Ran Tryz.prog tb b1U [s, iv i] m (.tuple [.b (bt t i), iv 0]) m := by
 have hlen : H0 false s = some 64 := by rw [hs.len, h64]
 have hq8 : d7 Tryz.prog .quo b0 (iv (i : Int)) (iv 8) = some (iv ((i / 8 : Nat) : Int)) := N9 (b := 8) b0 (by omega) (by omega)
 have hr8 : d7 Tryz.prog .rem b0 (iv (i : Int)) (iv 8) = some (iv ((i % 8 : Nat) : Int)) := V6 (b := 8) b0 (by omega) (by omega)
 have hm8 : i % 8 < 8 := Nat.mod_lt _ (by omega)
 have hz : t[i / 8]? = some (t.getD (i / 8) 0) := by
  rw [List.getD_eq_getElem?_getD, List.getElem?_eq_getElem (by omega)]; rfl
 have hbm := e1Z t i
 have c64 : ((64 : Nat) : Int) = 64 := rfl
 cases hs with
 | @row _ off cap lim _ cells hh hl hc =>
  have hyl : (i5 t).length = 64 := by simp [i5, h64]
  have hrd : m.rd r (off + i / 8) = some (.y (t.getD (i / 8) 0).toNat) := by
   rw [hh.rd]
   have e : ((cells.drop off).take t.length)[i / 8]? = (i5 t)[i / 8]? := by rw [hc]
   rw [List.getElem?_take, if_pos (by omega), List.getElem?_drop] at e
   rw [e]
   unfold i5
   rw [List.getElem?_map, hz]; rfl
  have hia := B9 (m := m) 1 r off t.length cap lim (show i / 8 < t.length by omega)
  rw [Nat.mul_one] at hia
  refine WpF.go g0C ?_
  by_cases hb : bt t i = true
  ·rw [hb] at hbm
   have hbm : (t.getD (i / 8) 0).toNat / 2 ^ (i % 8) % 2 = 1 := hbm
   rw [h64] at hia
   simp -implicitDefEqProofs only [e7y, a99, b0B, b1i, show ((i : Int) < 0) = False from eq_false (by omega), h64, hq8, c64, show ((64 : Int) ≤ ((i / 8 : Nat) : Int)) = False from eq_false (by omega), hia, hrd, hr8, G6, a05 j7 hm8, a1e, a07, hbm, a1q, hb, ↓reduceIte, Nat.reduceEqDiff, Nat.reduceAdd, wA, wB, wC, wD]
  ·have hb0 : bt t i = false := by simpa using hb
   rw [hb0] at hbm
   have hbm : (t.getD (i / 8) 0).toNat / 2 ^ (i % 8) % 2 = 0 := hbm
   rw [h64] at hia
   simp -implicitDefEqProofs only [e7y, a99, b0B, b1i, show ((i : Int) < 0) = False from eq_false (by omega), h64, hq8, c64, show ((64 : Int) ≤ ((i / 8 : Nat) : Int)) = False from eq_false (by omega), hia, hrd, hr8, G6, a05 j7 hm8, a1e, a07, hbm, a1q, hb0, show ((0 : Nat) = 1) = False from eq_false (by omega), ↓reduceIte, Nat.reduceEqDiff, Nat.reduceAdd, wA, wB, wC, wD]
theorem f3A (hw : Wf m) (h : GAt m A S own) {t : Bk} (ht : S.rd 33 = some t) {i : Nat} (hi : i < 90) :
  ∃ m', Keep m m' (fun _ => False) ∧ Ran Tryz.prog tb b1A [bmV, .ptr A.o 0, iv i] m (.tuple [.b (bt t i), iv 0]) m' := by
 obtain ⟨m1, e1, a1, k1, n1⟩ := a2r hw
 have h1 := h.k0 hw k1
 obtain ⟨m2, s, r, hb2, hs2, h64, k2, n2, r2⟩ := P7 k1.wf h1 (b := 33) (by omega) ht
 rw [show ((33 : Nat) : Int) = 33 from rfl] at r2
 have a2 := a1.keep k1.wf k2 id
 refine ⟨m2, k1.tf k2, ?_⟩
 refine WpF.go f9O ?_
 simp -implicitDefEqProofs only [g2m, e2J, d71, d0A, e3i, e1, a1.rd, a2.rd, b2p (show i < 512 by omega), s33, r2.eq, e8M (show i < 512 by omega), (f1a hb2.bs h64 (show i < 512 by omega)).eq, ↓reduceIte, Nat.reduceEqDiff, Nat.reduceAdd, List.getElem?_cons_succ, List.getElem?_cons_zero, exists_eq_left', wA, wB, wC, wD]
theorem f1t (hw : Wf m) (h : GAt m A S own) {t : Bk} (ht : S.rd 33 = some t) {i : Nat} (hi : i < 90) (hb : bt t i = true) :
  ∃ m' own', Step m m' A (S.wr 33 (v8 t i false)) own own' ∧ Ran Tryz.prog tb b1v [bmV, .ptr A.o 0, iv i] m (iv 0) m' := by
 obtain ⟨m1, e1, a1, k1, n1⟩ := a2r hw
 obtain ⟨m2, k2, r2⟩ := f3A k1.wf (h.k0 hw k1) ht hi
 have k02 := k1.tf k2
 have a2 := a1.keep k1.wf k2 id
 obtain ⟨m3, own', st, r3⟩ := b7Z k02.wf (h.k0 hw k02) ht hi false
 have l1 : m1.rdN m.next 0 2 = some [iv 33, iv 512] := a1.rdN (by show 0 + 2 ≤ 2; omega)
 have l2 : m2.rdN m.next 0 2 = some [iv 33, iv 512] := a2.rdN (by show 0 + 2 ≤ 2; omega)
 rw [hb] at r2
 refine ⟨m3, own', st.ft k02, ?_⟩
 refine WpF.go g0t ?_
 simp -implicitDefEqProofs only [g2C, e1l, d1T, e3K, d3q, d9F, e1, l1, l2, r2.eq, r3.eq, ↓reduceIte, Nat.reduceEqDiff, Nat.reduceAdd, List.getElem?_cons_succ, List.getElem?_cons_zero, wA, wB, wC, wD]
theorem f0N (hw : Wf m) (h : GAt m A S own) (ha : b2n m aa A.g) {t : Bk} (ht : S.rd 33 = some t) {b : Nat} (h1 : 37 ≤ b) (h2 : b < 90) (hb : bt t b = true) :
  ∃ m' own', Step m m' A ((S.wr 33 (v8 t b false)).fr b) own own' ∧ Ran Tryz.prog tb a50 [.ptr aa 0, .ptr A.o 0, iv b] m (iv 0) m' := by
 obtain ⟨m1, own1, st1, r1⟩ := f1t hw h ht h2 hb
 obtain ⟨m2, st2, r2⟩ := f58 st1.kp.wf st1.at' h1 h2
 have hl : m.rdN aa 13 2 = some [iv 33, iv 512] := At.rdN ha (by show 13 + 2 ≤ 17; omega)
 have d1 : m.rd aa 12 = some (iv 37) := by rw [At.rd ha]; rfl
 have d2 : m.rd aa 2 = some (iv 90) := by rw [At.rd ha]; rfl
 refine ⟨m2, own1, st1.trans st2, ?_⟩
 refine WpF.go f9U ?_
 simp -implicitDefEqProofs only [g2z, d55, d0M, e3Z, d4m, d81, e4k, b0Y, d1, d2, hl, show ((b : Int) < 37) = False from eq_false (by omega), show ((90 : Int) ≤ (b : Int)) = False from eq_false (by omega), r1.eq, r2.eq, ↓reduceIte, Nat.reduceEqDiff, Nat.reduceAdd, wA, wB, wC, wD]
end
theorem Q5 (t : TypeId) {a b : Int} (h1 : -9223372036854775808 ≤ a * b) (h2 : a * b ≤ 9223372036854775807) : d7 Tryz.prog .mul t (iv a) (iv b) = some (iv (a * b)) := by
 rw [G4]
 show some (iv (IntKind.i64.wrap (a * b))) = _
 rw [IntWalk.i64_in _ ⟨h1, h2⟩]
section
variable {m m' : M} {A : Ad} {S T : PS} {own : Nat → Prop} {tt aa : Nat} {X Y : Nat → Ino} {i : Nat} {q : Pa}
theorem f2Z (hw : Wf m) (h : GAt m A T own) (ht : TAt m tt aa A.g) (hI : Inv T I2 X) (hi : i ∈ I2) (hq : q.ok) {c : Nat} (hc : (∃ k, q = .r k ∧ c = 0) ∨ ∃ w, q.up = some w ∧ nd T (X i) w = c ∧ c ≠ 0) :
  ∃ m' own' c' u x', Step m m' A (T.wr c' u) own own' ∧ Ran Tryz.prog tb W6 [.ptr tt 0, .ptr A.o 0, .agg [iv i, iv c, iv q.at], iv 0] m (iv 0) m' ∧
   (∀ k, x'.ps.getD k 0 = if q = .r k then 0 else (X i).ps.getD k 0) ∧ x'.Ok ∧ (x'.kind = (X i).kind ∧ x'.links = (X i).links ∧ x'.size = (X i).size) ∧
   ((∃ k, q = .r k ∧ c' = 35 ∧ InoAt (T.wr c' u) i x' ∧ (∀ j ∈ I2, j ≠ i → InoAt (T.wr c' u) j (X j))) ∨ (∃ w tc, q.up = some w ∧ c' = nd T (X i) w ∧ c' ≠ 0 ∧ T.rd c' = some tc ∧ tc.length = 64 ∧ u = D5 tc q.at 0 ∧ x' = X i)) := by
 rcases hc with ⟨k, rfl, rfl⟩ | ⟨w, hw', rfl, h0⟩
 ·obtain ⟨_, h1, h2⟩ := hI.ino i hi
  have hk : k < 10 := hq
  obtain ⟨u0, g1, g2, g3⟩ := id h1
  rw [K5 hi] at g1
  obtain ⟨m', own', st, r⟩ := b6j hw h ht (L7 hi) h1 h2 (t := u0) g1 (k := k) (v := 0) hk (by omega)
  have hl : ({ X i with ps := (X i).ps.set k 0 } : Ino).ps.length = 10 := by show ((X i).ps.set k 0).length = 10; rw [List.length_set]; exact h2.len
  have hput := InoAt.put (S := T) (i := i) (x := X i) (y := { X i with ps := (X i).ps.set k 0 }) hl (by rw [K5 hi]; exact g1) g2
  rw [K5 hi] at hput
  refine ⟨m', own', 35, _, { X i with ps := (X i).ps.set k 0 }, st, r, fun j => ?_, ⟨h2.k1, h2.k2, h2.ln, h2.sz, hl, fun p hp => ?_⟩, ⟨rfl, rfl, rfl⟩, .inl ⟨k, rfl, rfl, hput.1, fun j hj hji => hput.2 j (X j) hji (hI.ino j hj).2.1⟩⟩
  ·show ((X i).ps.set k 0).getD j 0 = _
   rw [List.getD_eq_getElem?_getD, List.getElem?_set]
   by_cases hj : k = j
   ·subst hj
    rw [if_pos rfl, if_pos rfl, if_pos (by rw [h2.len]; exact hk)]; rfl
   ·rw [if_neg hj, if_neg (fun e => hj (by cases e; rfl)), List.getD_eq_getElem?_getD]
  ·rcases List.mem_or_eq_of_mem_set hp with hp | rfl
   ·exact h2.p p hp
   ·omega
 ·obtain ⟨w1, w2, w3⟩ := v6 hw' hq
  obtain ⟨tc, g1, g2⟩ := hI.blk i hi w w1 w2 h0
  have hr := hI.rng hi w1 h0
  obtain ⟨m', own', st, r⟩ := b7t hw h (i := i) (c := nd T (X i) w) (a := q.at) (v := 0) (t := tc) hr.1 hr.2 g1 w3 (by omega)
  refine ⟨m', own', nd T (X i) w, D5 tc q.at 0, X i, st, r, fun k => ?_, (hI.ino i hi).2.2, ⟨rfl, rfl, rfl⟩, .inr ⟨w, tc, hw', rfl, h0, g1, g2, rfl, rfl⟩⟩
  rw [if_neg]
  rintro rfl
  cases hw'
theorem b6T (hw : Wf m) (h : GAt m A T own) (ht : TAt m tt aa A.g) (hI : Inv T I2 Y) (hi : i ∈ I2) (hq : q.ok) {b c : Nat} (hb : nd T (Y i) q = b) (h0 : b ≠ 0) (hz : ∀ r : Pa, r.ok → r.up = some q → nd T (Y i) r = 0) (hc : (∃ k, q = .r k ∧ c = 0) ∨ ∃ w, q.up = some w ∧ nd T (Y i) w = c ∧ c ≠ 0) :
  ∃ m1 m2 own' V Z, Ran Tryz.prog tb W6 [.ptr tt 0, .ptr A.o 0, .agg [iv i, iv c, iv q.at], iv 0] m (iv 0) m1 ∧ m1.rd tt 0 = some (.ptr aa 0) ∧ Ran Tryz.prog tb a50 [.ptr aa 0, .ptr A.o 0, iv b] m1 (iv 0) m2 ∧ Pr I2 T Y V Z i (fun r => r = q) ∧ Step m m2 A V own own' := by
 obtain ⟨m1, own1, c', u, x', st1, r1, hx, hxo, hxs, hcc⟩ := f2Z hw h ht hI hi hq hc
 obtain ⟨t, g1, g2, g3⟩ := hI.bm
 have hg := g3 i hi q hq (by rw [hb]; exact h0)
 rw [hb] at hg
 have hc33 : c' ≠ 33 := by
  rcases hcc with ⟨_, _, rfl, _⟩ | ⟨w, tc, hw', rfl, hc0, _⟩
  ·omega
  ·have := (hI.rng hi (v6 hw' hq).1 hc0).1; omega
 have ht1 := ht.kp hw st1.kp
 obtain ⟨m2, own2, st2, r2⟩ := f0N st1.kp.wf st1.at' ht1.a (t := t) (by rw [PS.wr_ne _ _ (Ne.symm hc33)]; exact g1) hg.1 hg.2.1 hg.2.2
 exact ⟨m1, m2, own2, _, _, r1, by rw [ht1.t.rd]; rfl, r2, Pr.one hI hi hq hb h0 hz g1 g2 hx hxo hxs hcc, st1.trans st2⟩
theorem f3Q {keep n : Nat} {p : Pa} (hi : i ∈ I2) (hq : q.ok) (hin : q.inn) (hn : n ≤ 32) (h : Pr I2 S X T Y i (PrC q keep n)) (hu : q.up = some p) : nd T (Y i) p = nd S (X i) p := h.on i hi p (v6 hu hq).1 fun ⟨_, a, ha, e, _⟩ => by
 obtain ⟨_, _, _, d, _⟩ := V7 hq hin (show a < 32 by omega)
 have h1 := c6v (v6 hu hq).1 e
 obtain ⟨o1, o2, o3⟩ := v6 hu hq
 obtain ⟨b, hb, e2⟩ := a0X hq hu
 obtain ⟨_, _, _, d2, _⟩ := V7 o1 o2 hb
 rw [← e2] at d2
 omega
theorem f4W : ∀ {q : Pa}, q.ok → q.first ≤ 1063
 | .r k, h => by
  have h : k < 10 := h
  show (if k = 9 then 40 else k) ≤ 1063
  split <;> omega
 | .s k a, h => by
  obtain ⟨h1, h2⟩ := h
  show (if k = 9 then 40 + 32 * a else 8 + a) ≤ 1063
  split <;> omega
 | .t a b, h => by
  obtain ⟨h1, h2⟩ := h
  show 40 + 32 * a + b ≤ 1063
  omega
theorem f89 (q : Pa) : q.dep ≤ 2 := by
 cases q with
 | r k => show (if k = 9 then 2 else if k = 8 then 1 else 0) ≤ 2; split; omega; split <;> omega
 | s k a => show (if k = 9 then 1 else 0) ≤ 2; split <;> omega
 | t a b => show 0 ≤ 2; omega
theorem f99 {k : Nat} (hk : k ≤ 1) : d7 Tryz.prog .mul b0 (iv ((32 ^ k : Nat) : Int)) (iv 32) = some (iv ((32 ^ (k + 1) : Nat) : Int)) := by
 rcases (show k = 0 ∨ k = 1 by omega) with rfl | rfl <;> kernel_rfl
theorem f75 {d : Nat} (h : d ≤ 2) : 32 ^ d ≤ 1024 := by
 rcases (show d = 0 ∨ d = 1 ∨ d = 2 by omega) with rfl | rfl | rfl <;> decide
set_option maxHeartbeats 4000000 in
set_option maxRecDepth 20000 in
theorem a73 {keep : Nat} (hk : keep ≤ 2000) (hi : i ∈ I2) (d : Nat) : ∀ {m : M} {S : PS} {own : Nat → Prop} {X : Nat → Ino} {q : Pa} {c : Nat}, q.dep = d → Wf m → GAt m A S own → TAt m tt aa A.g → Inv S I2 X → q.ok → ((∃ k, q = .r k ∧ c = 0) ∨ ∃ w, q.up = some w ∧ nd S (X i) w = c ∧ c ≠ 0) →
  ∃ m' own' T Y, Pr I2 S X T Y i (PrD q keep) ∧ Step m m' A T own own' ∧ Ran Tryz.prog tb N6 [.ptr tt 0, .ptr A.o 0, .agg [iv i, iv c, iv q.at], iv q.first, iv keep, iv d] m (iv 0) m' := by
 induction d using Nat.strongRecOn with
 | ind d ih =>
 intro m S own X q c hd hw hG hT hI hq hc
 have hdl := f89 q
 rw [hd] at hdl
 have hfl := f4W hq
 obtain ⟨m1, e1, a1, k1, n1⟩ := l8 hw B7 3 [iv i, iv c, iv q.at]
 obtain ⟨m2, k2, r2⟩ := a8Z k1.wf (hG.k0 hw k1) (hT.k0 hw k1) hI hi hq hc
 have l1 : m1.rdN m.next 0 3 = some [iv i, iv c, iv q.at] := a1.rdN (by show 0 + 3 ≤ 3; omega)
 have k02 := k1.tf k2
 have hn2 := k02.next
 have a2 := a1.keep k1.wf k2 id
 have hT2 := hT.k0 hw k02
 have hG2 := hG.k0 hw k02
 have hper : m2.rd tt 13 = some (iv 32) := by rw [hT2.t.rd]; rfl
 by_cases h0 : nd S (X i) q = 0
 ·refine ⟨m2, own, S, X, b6n hI hi hq (.inl h0), (Step.rf hw hG).tf k02, ?_⟩
  rw [h0, nc0] at r2
  refine WpF.go e6d ?_
  simp -implicitDefEqProofs only [R8, a9G, b0s, a9T, d5j, e1, l1, r2.eq, ↓reduceIte, Nat.reduceEqDiff, Nat.reduceAdd, List.getElem?_cons_succ, List.getElem?_cons_zero, wA, wB, wC, wD]
 ·generalize hb : nd S (X i) q = b at *
  have hb0 : ((b : Nat) : Int) ≠ 0 := by omega
  have key : WpF Tryz.prog tb N6 [.ptr tt 0, .ptr A.o 0, .agg [iv i, iv c, iv q.at], iv q.first, iv keep, iv d] m fun v m' => v = iv 0 ∧ ∃ own' T Y, Pr I2 S X T Y i (PrD q keep) ∧ Step m m' A T own own' := by
   refine WpF.go e6d ?_
   simp -implicitDefEqProofs only [R8, a9G, b0s, a9T, d9q, d4C, e1, l1, r2.eq, eq_false hb0, ↓reduceIte, Nat.reduceEqDiff, Nat.reduceAdd, List.getElem?_cons_succ, List.getElem?_cons_zero, wA, wB, wC, wD]
   refine A5 (fun j fr mk => ∃ k, k ≤ d ∧ j = d - k ∧ (ev (tm 0) fr = .ptr tt 0 ∧ ev (tm 1) fr = .ptr A.o 0 ∧ ev (tm 3) fr = iv (q.first : Nat) ∧ ev (tm 4) fr = iv (keep : Nat) ∧ ev (tm 5) fr = iv (d : Nat) ∧ ev (tm 8) fr = .ptr m.next 0 ∧ ev (tm 13) fr = iv (b : Nat) ∧ ev (tm 15) fr = iv ((32 ^ k : Nat) : Int) ∧ ev (tm 33) fr = iv (d : Nat) ∧ ev (tm 34) fr = iv (k : Nat)) ∧ mk = m2) (k := d)
    ⟨0, Nat.zero_le _, rfl, by simp -implicitDefEqProofs only [nc0, show ((32 ^ 0 : Nat) : Int) = 1 from rfl, d6, ↓reduceIte, Nat.reduceEqDiff, nc0, and_self], rfl⟩ ?_
   rintro j fr mk ⟨k, hkd, rfl, ⟨f0, f1, f3, f4, f5, f8, f13, f15, f33, f34⟩, rfl⟩
   by_cases hlt : k < d
   ·simp -implicitDefEqProofs only [R8, a2x, d57, d7G, f0, f15, f33, f34, show ((k : Int) < (d : Int)) = True from eq_true (by omega), hper, f99 (show k ≤ 1 by omega), aD (k : Int) 1, ↓reduceIte, Nat.reduceEqDiff, wA, wB, wC, wD]
    exact A4 (k' := d - (k + 1)) (by omega) ⟨k + 1, by omega, rfl, by simp -implicitDefEqProofs only [f0, f1, f3, f4, f5, f8, f13, f33, show (k : Int) + 1 = ((k + 1 : Nat) : Int) from rfl, d6, ↓reduceIte, Nat.reduceEqDiff, and_self], rfl⟩
   ·obtain rfl : k = d := by omega
    have hpw := f75 hdl
    generalize hsp : 32 ^ k = sp at *
    have hsum : (q.first : Int) + (sp : Int) = ((q.first + sp : Nat) : Int) := rfl
    by_cases hfk : q.first + sp ≤ keep
    ·simp -implicitDefEqProofs only [R8, a2x, a5k, c4N, f3, f4, f15, f33, f34, aD (q.first : Int) (sp : Int), show ((q.first : Int) + (sp : Int) ≤ (keep : Int)) = True from eq_true (by omega), ↓reduceIte, Nat.reduceEqDiff, wA, wB, wC, wD]
     exact ⟨own, S, X, b6n hI hi hq (.inr (by rw [hd, hsp]; exact hfk)), (Step.rf hw hG).tf k02⟩
    ·cases k with
     | zero =>
      have hin : ¬ q.inn := fun e => (c1P hq).1 e hd
      have hsp1 : sp = 1 := hsp.symm
      subst hsp1
      obtain ⟨m3, m4, own', V, Z, r3, ra, r4, hP, st⟩ := b6T k2.wf hG2 hT2 hI hi hq hb (by omega) (fun r hr hu => absurd (v6 hu hr).2.1 hin) hc
      have l2 : mk.rdN m.next 0 3 = some [iv i, iv c, iv q.at] := a2.rdN (by show 0 + 3 ≤ 3; omega)
      simp -implicitDefEqProofs only [R8, a2x, a5k, a9c, a4i, a8J, a87, a9b, f0, f1, f3, f4, f5, f8, f13, f15, f33, f34, aD (q.first : Int) ((1 : Nat) : Int), show ((q.first : Int) + ((1 : Nat) : Int) ≤ (keep : Int)) = False from eq_false (by omega), show ((q.first : Int) < (keep : Int)) = False from eq_false (by omega), l2, r3.eq, ra, r4.eq, ↓reduceIte, Nat.reduceEqDiff, Nat.reduceSub, wA, wB, wC, wD]
      exact ⟨own', V, Z, f2h hi hq hin (by omega) hP, st.ft k02⟩
     | succ d' =>
      have hin : q.inn := (c1P hq).2 (by omega)
      have hd0 : (0 : Int) < ((d' + 1 : Nat) : Int) := by omega
      simp -implicitDefEqProofs only [R8, a2x, a5k, a9c, c39, f0, f3, f4, f5, f15, f33, f34, aD (q.first : Int) (sp : Int), show ((q.first : Int) + (sp : Int) ≤ (keep : Int)) = False from eq_false (by omega), eq_true hd0, hper, ↓reduceIte, Nat.reduceEqDiff, wA, wB, wC, wD]
      refine A5 (fun j fr mk => ∃ n own' T Y, n ≤ 32 ∧ j = 32 - n ∧ (ev (tm 0) fr = .ptr tt 0 ∧ ev (tm 1) fr = .ptr A.o 0 ∧ ev (tm 3) fr = iv (q.first : Nat) ∧ ev (tm 4) fr = iv (keep : Nat) ∧ ev (tm 5) fr = iv ((d' + 1 : Nat) : Int) ∧ ev (tm 8) fr = .ptr m.next 0 ∧ ev (tm 13) fr = iv (b : Nat) ∧ ev (tm 15) fr = iv (sp : Nat) ∧ ev (tm 53) fr = iv 32 ∧ ev (tm 54) fr = iv (n : Nat)) ∧
       Pr I2 S X T Y i (PrC q keep n) ∧ Step m mk A T own own' ∧ At mk m.next B7 true [iv i, iv c, iv q.at]) (k := 32) ⟨0, own, S, X, by omega, rfl, by simp -implicitDefEqProofs only [f0, f1, f3, f4, f5, f8, f13, f15, nc0, d6, ↓reduceIte, Nat.reduceEqDiff, nc0, and_self], f2d hI hi q keep, (Step.rf hw hG).tf k02, a2⟩ ?_
      clear f0 f1 f3 f4 f5 f8 f13 f15 f33 f34 fr hlt
      rintro j fr mm ⟨n, own', T, Y, hn, rfl, ⟨f0, f1, f3, f4, f5, f8, f13, f15, f53, f54⟩, hP, st, aS⟩
      have hwm := st.kp.wf
      have hTm := hT.kp hw st.kp
      have hself := f1V hi hq hin hn hP
      rw [hb] at hself
      by_cases hn32 : n < 32
      ·obtain ⟨c1, c2, c3, c4, c5⟩ := V7 hq hin hn32
       obtain ⟨m3, own3, V, Z, hP3, st3, r3⟩ := ih d' (by omega) (q := q.chd n) (c := b) (by omega) hwm st.at' hTm hP.inv c1 (.inr ⟨q, c2, hself, by omega⟩)
       rw [c3, c5, hd, hsp] at r3
       have hper' : mm.rd tt 13 = some (iv 32) := by rw [hTm.t.rd]; rfl
       have hs0 : mm.rd m.next 0 = some (iv i) := by rw [aS.rd]; rfl
       have hTm3 := hTm.kp hwm st3.kp
       have hper3 : m3.rd tt 13 = some (iv 32) := by rw [hTm3.t.rd]; rfl
       have aS3 := aS.kp hwm st3.kp
       have hs3 : m3.rd m.next 0 = some (iv i) := by rw [aS3.rd]; rfl
       have hml : (n : Int) * (sp : Int) = ((n * sp : Nat) : Int) := rfl
       have hnsp : n * sp ≤ 31 * 1024 := Nat.mul_le_mul (by omega) hpw
       have hmul := Q5 b0 (a := (n : Int)) (b := (sp : Int)) (by rw [hml]; omega) (by rw [hml]; omega)
       rw [hml] at hmul
       have hquo : d7 Tryz.prog .quo b0 (iv ((n * sp : Nat) : Int)) (iv 32) = some (iv ((n * sp / 32 : Nat) : Int)) := N9 (b := 32) b0 (by omega) (by omega)
       have hns : n * sp / 32 ≤ 100000 := by omega
       generalize n * sp / 32 = ns at *
       have hsm : (q.first : Int) + (ns : Int) = ((q.first + ns : Nat) : Int) := rfl
       have hdm : ((d' + 1 : Nat) : Int) - 1 = (d' : Int) := by omega
       simp -implicitDefEqProofs only [R8, a4p, b9p, c2g, c67, c8g, f0, f1, f3, f4, f5, f8, f13, f15, f53, f54, show ((n : Int) < 32) = True from eq_true (by omega), hs0, hmul, hper', hquo, aD (q.first : Int) (ns : Int), hsm, sB ((d' + 1 : Nat) : Int) 1, hdm, r3.eq, aD (n : Int) 1, ↓reduceIte, Nat.reduceEqDiff, Nat.reduceAdd, Nat.reduceLeDiff, List.getElem?_cons_succ, List.getElem?_cons_zero, exists_eq_left', wA, wB, wC, wD]
       exact A4 (k' := 32 - (n + 1)) (by omega) ⟨n + 1, own3, V, Z, by omega, rfl, by simp -implicitDefEqProofs only [f0, f1, f3, f4, f5, f8, f13, f15, f53, show (n : Int) + 1 = ((n + 1 : Nat) : Int) from rfl, d6, ↓reduceIte, Nat.reduceEqDiff, and_self], f1U hi hP hP3, st.trans st3, aS3⟩
      ·obtain rfl : n = 32 := by omega
       by_cases hfk2 : q.first < keep
       ·simp -implicitDefEqProofs only [R8, a4p, a4i, c8d, f3, f4, f53, f54, show (((32 : Nat) : Int) < 32) = False from eq_false (by omega), show ((q.first : Int) < (keep : Int)) = True from eq_true (by omega), ↓reduceIte, Nat.reduceEqDiff, Nat.reduceSub, wA, wB, wC, wD]
        exact ⟨own', T, Y, f1W hi hq hin hfk2 hP, st⟩
       ·have hc' : (∃ k, q = .r k ∧ c = 0) ∨ ∃ w, q.up = some w ∧ nd T (Y i) w = c ∧ c ≠ 0 := by
         rcases hc with h | ⟨w, h1, h2, h3⟩
         ·exact .inl h
         ·exact .inr ⟨w, h1, (f3Q hi hq hin hn hP h1).trans h2, h3⟩
        obtain ⟨m3, m4, own3, V, Z, r3, ra, r4, hP3, st3⟩ := b6T hwm st.at' hTm hP.inv hi hq hself (by omega) (fun r hr hu => f1s hi hq (by omega) hP hr hu) hc'
        have l2 : mm.rdN m.next 0 3 = some [iv i, iv c, iv q.at] := aS.rdN (by show 0 + 3 ≤ 3; omega)
        simp -implicitDefEqProofs only [R8, a4p, a4i, a8J, a87, a9b, f0, f1, f3, f4, f8, f13, f53, f54, show (((32 : Nat) : Int) < 32) = False from eq_false (by omega), show ((q.first : Int) < (keep : Int)) = False from eq_false (by omega), l2, r3.eq, ra, r4.eq, ↓reduceIte, Nat.reduceEqDiff, Nat.reduceSub, wA, wB, wC, wD]
        exact ⟨own3, V, Z, f2N hi hq hin (by omega) hP hP3, st.trans st3⟩
  obtain ⟨v, m', ⟨rfl, own', T, Y, g1, g2⟩, r⟩ := key.ran
  exact ⟨m', own', T, Y, g1, g2, r⟩
end
section
variable {m m' : M} {A : Ad} {S : PS} {own : Nat → Prop} {tt aa : Nat} {X : Nat → Ino} {i : Nat}
theorem f6h {k : Nat} (h : k < 8) : (Pa.r k).dep = 0 ∧ (Pa.r k).first = k := by
 constructor
 ·show (if k = 9 then 2 else if k = 8 then 1 else 0) = 0
  rw [if_neg (by omega), if_neg (by omega)]
 ·show (if k = 9 then 40 else k) = k
  rw [if_neg (by omega)]
set_option maxHeartbeats 4000000 in
set_option maxRecDepth 20000 in
theorem f57 (hw : Wf m) (h : GAt m A S own) (ht : TAt m tt aa A.g) (hI : Inv S I2 X) (hi : i ∈ I2) {s : Nat} (hs : s ≤ 68096) :
  ∃ m' own' T Y V, Pr I2 S X T Y i (PrR ((s + 63) / 64) 10) ∧ Ptd T I2 Y V i { Y i with size := s } ∧ Step m m' A V own own' ∧ Ran Tryz.prog tb a5Z [.ptr tt 0, .ptr A.o 0, iv i, iv s] m (iv 0) m' := by
 have key : WpF Tryz.prog tb a5Z [.ptr tt 0, .ptr A.o 0, iv i, iv s] m fun v m' => v = iv 0 ∧ ∃ own' T Y V, Pr I2 S X T Y i (PrR ((s + 63) / 64) 10) ∧ Ptd T I2 Y V i { Y i with size := s } ∧ Step m m' A V own own' := by
  have hp : m.rdN tt 1 12 = some j8 := ht.t.rdN (by show 1 + 12 ≤ 14; omega)
  have rP := a8b (m := m) (L7 hi)
  have rM : Ran Tryz.prog tb T0 [.agg j8] m (.tuple [iv 68096, iv 0]) m := H3 Tryz.func74 rfl
  have h64 : m.rd tt 1 = some (iv 64) := by rw [ht.t.rd]; rfl
  have hks : (s : Int) + 64 - 1 = ((s + 63 : Nat) : Int) := by omega
  have hq : d7 Tryz.prog .quo b0 (iv ((s + 63 : Nat) : Int)) (iv 64) = some (iv (((s + 63) / 64 : Nat) : Int)) := N9 (b := 64) b0 (by omega) (by omega)
  have hkeep : (s + 63) / 64 ≤ 2000 := by omega
  refine WpF.go g07 ?_
  simp -implicitDefEqProofs only [b2k, d2Y, e0n, d4t, d51, d53, d50, d70, a08, hp, rP.eq, rM.eq, show ((s : Int) < 0) = False from eq_false (by omega), show ((68096 : Int) < (s : Int)) = False from eq_false (by omega), h64, aD (s : Int) 64, sB ((s : Int) + 64) 1, hks, hq, ↓reduceIte, Nat.reduceEqDiff, Nat.reduceAdd, List.getElem?_cons_succ, List.getElem?_cons_zero, exists_eq_left', wA, wB, wC, wD]
  generalize (s + 63) / 64 = keep at *
  refine A5 (fun j fr mk => ∃ n own' T Y, n ≤ 8 ∧ j = 8 - n ∧ (ev (tm 0) fr = .ptr tt 0 ∧ ev (tm 1) fr = .ptr A.o 0 ∧ ev (tm 2) fr = iv i ∧ ev (tm 3) fr = iv s ∧ ev (tm 14) fr = iv (keep : Nat) ∧ ev (tm 69) fr = iv (n : Nat)) ∧ Pr I2 S X T Y i (PrR keep n) ∧ Step m mk A T own own') (k := 8)
   ⟨0, own, S, X, by omega, rfl, by simp -implicitDefEqProofs only [nc0, d6, ↓reduceIte, Nat.reduceEqDiff, nc0, and_self], f4j hI hi keep, .rf hw h⟩ ?_
  rintro j fr mk ⟨n, own1, T, Y, hn, rfl, ⟨f0, f1, f2, f3, f14, f69⟩, hP, st⟩
  have hwk := st.kp.wf
  have hTk := ht.kp hw st.kp
  by_cases hlt : n < 8
  ·obtain ⟨d1, d2⟩ := f6h hlt
   obtain ⟨m1, own2, V, Z, hP1, st1, r1⟩ := a73 hkeep hi 0 (q := .r n) (c := 0) d1 hwk st.at' hTk hP.inv (show n < 10 by omega) (.inl ⟨n, rfl, rfl⟩)
   rw [d2] at r1
   have r1 : Ran Tryz.prog tb N6 [.ptr tt 0, .ptr A.o 0, .agg [iv i, iv 0, iv n], iv n, iv keep, iv 0] mk (iv 0) m1 := r1
   simp -implicitDefEqProofs only [b2k, b0V, b9q, c5c, c4D, c5D, f0, f1, f2, f14, f69, show ((n : Int) < 8) = True from eq_true (by omega), r1.eq, aD (n : Int) 1, ↓reduceIte, Nat.reduceEqDiff, Nat.reduceAdd, Nat.reduceLeDiff, wA, wB, wC, wD]
   exact A4 (k' := 8 - (n + 1)) (by omega) ⟨n + 1, own2, V, Z, by omega, rfl, by simp -implicitDefEqProofs only [f0, f1, f2, f3, f14, show (n : Int) + 1 = ((n + 1 : Nat) : Int) from rfl, d6, ↓reduceIte, Nat.reduceEqDiff, and_self], a8t hi hP hP1, st.trans st1⟩
  ·obtain rfl : n = 8 := by omega
   obtain ⟨m1, own2, V1, Z1, hP1, st1, r1⟩ := a73 hkeep hi 1 (q := .r 8) (c := 0) rfl hwk st.at' hTk hP.inv (show 8 < 10 by omega) (.inl ⟨8, rfl, rfl⟩)
   have r1 : Ran Tryz.prog tb N6 [.ptr tt 0, .ptr A.o 0, .agg [iv i, iv 0, iv 8], iv 8, iv keep, iv 1] mk (iv 0) m1 := r1
   have hw1 := st1.kp.wf
   have hT1 := hTk.kp hwk st1.kp
   have hper : m1.rd tt 13 = some (iv 32) := by rw [hT1.t.rd]; rfl
   obtain ⟨m2, own3, V2, Z2, hP2, st2, r2⟩ := a73 hkeep hi 2 (q := .r 9) (c := 0) rfl hw1 st1.at' hT1 hP1.inv (show 9 < 10 by omega) (.inl ⟨9, rfl, rfl⟩)
   have r2 : Ran Tryz.prog tb N6 [.ptr tt 0, .ptr A.o 0, .agg [iv i, iv 0, iv 9], iv 40, iv keep, iv 2] m1 (iv 0) m2 := r2
   have hw2 := st2.kp.wf
   have hT2 := hT1.kp hw1 st2.kp
   have hPA := a8t hi (a8t hi hP hP1) hP2
   have stA := (st.trans st1).trans st2
   obtain ⟨hi6, hx, ho⟩ := hP2.inv.ino i hi
   obtain ⟨m3, k3, r3⟩ := U2 hw2 st2.at' hT2 (L7 hi) hx ho
   obtain ⟨t, g1, g2, g3⟩ := id hx
   have hox : ({ Z2 i with size := s } : Ino).Ok := ⟨ho.k1, ho.k2, ho.ln, by show s < 4294967296; omega, ho.len, ho.p⟩
   have hpt : Ptd V2 I2 Z2 (V2.wr 35 (spl t (32 * (i % 2)) (enc { Z2 i with size := s }))) i { Z2 i with size := s } := by
    have := Ptd.of hP2.inv hi g1 g2 (x' := { Z2 i with size := s }) hox rfl
    rwa [K5 hi] at this
   rw [K5 hi] at g1
   obtain ⟨m4, e4, a4, k4, n4⟩ := x7 k3.wf s9 13 z13
   have hn3 := k3.next
   have hX : (o0 (Z2 i).kind (Z2 i).links (Z2 i).size (Z2 i).ps).length = 13 := by rw [P5, ho.len]
   generalize hgz : Z2 i = x at *
   obtain ⟨kd, lk, sz, ps⟩ := x
   have h5 := ho.len
   simp only at h5
   obtain ⟨p0, p1, p2, p3, p4, p5, p6, p7, p8, p9, rfl⟩ := ten h5
   have hin : ∀ z, o0 kd lk z [p0, p1, p2, p3, p4, p5, p6, p7, p8, p9] = [ivn kd, ivn lk, ivn z, ivn p0, ivn p1, ivn p2, ivn p3, ivn p4, ivn p5, ivn p6, ivn p7, ivn p8, ivn p9] := fun _ => rfl
   obtain ⟨m5, e5, a5, k5, n5⟩ := a4.st k4.wf 0 [ivn kd, ivn lk, ivn sz, ivn p0, ivn p1, ivn p2, ivn p3, ivn p4, ivn p5, ivn p6, ivn p7, ivn p8, ivn p9]
   have k35 : Keep m3 m5 fun _ => False := k4.trans k5 fun b hb e => by omega
   rw [hin] at r3
   obtain ⟨m6, e6, a6, k6, n6⟩ := a5.st k35.wf 2 [ivn s]
   have k26 : Keep m2 m6 fun _ => False := (k3.tf k35).trans k6 fun b hb e => by omega
   obtain ⟨m7, own4, st7, r7⟩ := a9p k26.wf (st2.at'.k0 hw2 k26) (hT2.k0 hw2 k26) (L7 hi) g1 hox
   rw [hin] at r7
   have hl6 : m6.rdN m3.next 0 13 = some [ivn kd, ivn lk, ivn s, ivn p0, ivn p1, ivn p2, ivn p3, ivn p4, ivn p5, ivn p6, ivn p7, ivn p8, ivn p9] := a6.rdN (by show 0 + 13 ≤ 13; omega)
   simp -implicitDefEqProofs only [b2k, b0V, c3V, c5Y, c1L, b9e, c9J, c36, c9l, c7g, f0, f1, f2, f3, f14, f69, show (((8 : Nat) : Int) < 8) = False from eq_false (by omega), r1.eq, hper, aD (8 : Int) 32, show (8 : Int) + 32 = 40 from rfl, r2.eq, r3.eq, e4, e5, e6, hl6, r7.eq, ↓reduceIte, Nat.reduceEqDiff, Nat.reduceAdd, Nat.reduceSub, Nat.reduceLeDiff, List.getElem?_cons_succ, List.getElem?_cons_zero, wA, wB, wC, wD]
   refine ⟨own4, V2, Z2, _, hPA, ?_, stA.trans (st7.ft k26)⟩
   rw [hgz]
   exact hpt
 obtain ⟨v, m', ⟨rfl, own', T, Y, V, g1, g2, g3⟩, r⟩ := key.ran
 exact ⟨m', own', T, Y, V, g1, g2, g3, r⟩
end
section
variable {m m' : M} {A : Ad} {S : PS} {own : Nat → Prop} {tt aa : Nat} {X : Nat → Ino} {i : Nat}
set_option maxHeartbeats 1000000 in
theorem f00 (hw : Wf m) (h : GAt m A S own) (ht : TAt m tt aa A.g) (hF : FS S I2 X) (hi : i ∈ I2) {s : Nat} (hs : s ≤ 68096) :
  ∃ m' own' T Y, Trt S I2 X T Y i s ∧ Step m m' A T own own' ∧ Ran Tryz.prog tb a55 [.ptr A.o 0, .ptr tt 0, .agg j8, iv i, iv s] m (iv 0) m' := by
 obtain ⟨m1, e1, a1, k1, n1⟩ := l8 hw x6 12 j8
 have l1 : m1.rdN m.next 0 12 = some j8 := a1.rdN (by show 0 + 12 ≤ 12; omega)
 have rM : Ran Tryz.prog tb T0 [.agg j8] m1 (.tuple [iv 68096, iv 0]) m1 := H3 Tryz.func74 rfl
 obtain ⟨m2, c, a2, k2, n2, r2⟩ := a3X k1.wf (h.k0 hw k1) (ht.k0 hw k1) hF.inv hi (iv 64) (iv 90) (iv 6) (iv 30) (iv 2) (iv 32) (iv 1) (iv 33) (iv 1) (iv 34) (iv 3) (iv 37)
 have k02 := k1.tf k2
 obtain ⟨m3, own3, U, Z, R, hP, hPt, st3, r3⟩ := f57 k02.wf (h.k0 hw k02) (ht.k0 hw k02) hF.inv hi hs
 have hC := Ctd.of hi hF.inv hF.dat hP
 have hw3 := st3.kp.wf
 have a3 := a2.kp k02.wf st3.kp
 have hsz := hF.sz i hi
 obtain ⟨m4, own4, T, hT, hnd, st4, r4⟩ := b8k hw3 st3.at' ((ht.k0 hw k02).kp k02.wf st3.kp) hPt.inv (hPt.dat hC.inv hC.dat) hi (s := min s (X i).size) a3 (by omega)
 have hsz3 : m3.rd c 17 = some (ivn (X i).size) := by rw [a3.rd]; rfl
 have hmin : min (s : Int) ((X i).size : Int) = ((min s (X i).size : Nat) : Int) := by omega
 refine ⟨m4, own4, T, _, Trt.of hF hi hs hC hPt hT (fun q hq => hnd i hi q hq), (st3.ft k02).trans st4, ?_⟩
 refine WpF.go g0R ?_
 simp -implicitDefEqProofs only [g2e, e2f, e2D, c9Y, e22, d7M, d1d, d1U, c7X, c5L, e1, l1, rM.eq, show ((s : Int) < 0) = False from eq_false (by omega), show ((68096 : Int) < (s : Int)) = False from eq_false (by omega), r2.eq, r3.eq, hsz3, hmin, r4.eq, ↓reduceIte, Nat.reduceEqDiff, Nat.reduceAdd, List.getElem?_cons_succ, List.getElem?_cons_zero, wA, wB, wC, wD]
end
end Go.Proofs.YtooooiidpaecmaaGreatDoor
set_option linter.unusedVariables false
set_option linter.unusedSimpArgs false
/- What stands in a directory behind a name's writing, and behind a cut, without a machine. -/
namespace Go.Proofs.YtooooiidpaecmaaGreatDoor
open Go Go.Am
section
variable {S T : PS} {X Y : Nat → Ino} {D : List (Nat × Bs)} {e : Nat × Bs} {k : Nat}
theorem b7n {x y : Ino} {a n : Nat} (h : ∀ j, j < n → fby T y (a + j) = fby S x (a + j)) : rdF T y a n = rdF S x a n := by
 unfold rdF
 refine List.map_congr_left fun j hj => h j (List.mem_range.1 hj)
def Lvs (S : PS) (X : Nat → Ino) (n : Nat) : Prop := ∀ k, k ≤ 1063 → (nd S (X 3) (d9 k) = 0 ↔ n ≤ 64 * k)
theorem c3d (hW : Wrt S I2 X T Y 3 (16 * k) (ent e)) (he : EOk e) (hk : k ≤ 1000) {j : Nat} (hj : j ≤ 1000) : rdF T (Y 3) (16 * j) 16 = if j = k then ent e else rdF S (X 3) (16 * j) 16 := by
 have hl := a0R he
 have hb := hW.by'
 rw [hl] at hb
 by_cases h : j = k
 ·subst h
  rw [if_pos rfl]
  have := f6D (S := T) (x := Y 3) (at' := 16 * j) (d := ent e) fun i hi => by
   rw [hl] at hi
   rw [hb _ (by omega), if_pos (by omega), show 16 * j + i - 16 * j = i by omega]
  rwa [hl] at this
 ·rw [if_neg h]
  exact b7n fun i hi => by rw [hb _ (by omega), if_neg (by omega)]
theorem DirAt.set (h : DirAt S X D) (hW : Wrt S I2 X T Y 3 (16 * k) (ent e)) (he : EOk e) (hk : k < D.length) (hl : D.length ≤ 1000) : DirAt T Y (D.set k e) := by
 have hel := a0R he
 refine ⟨(hW.kl 3 (by simp)).1.trans h.kd, (hW.kl 3 (by simp)).2.trans h.lk, ?_, fun x hx => ?_, fun j x hx => ?_⟩
 ·rw [hW.sz, h.sz, hel, List.length_set]; omega
 ·rcases List.mem_or_eq_of_mem_set hx with hx | rfl
  ·exact h.ok x hx
  ·exact he
 ·have hj : j < (D.set k e).length := (List.getElem?_eq_some_iff.1 hx).1
  rw [List.length_set] at hj
  rw [c3d hW he (by omega) (by omega)]
  rw [List.getElem?_set] at hx
  by_cases hjk : j = k
  ·subst hjk
   rw [if_pos rfl, if_pos hj] at hx
   cases hx
   rw [if_pos rfl]
  ·rw [if_neg (Ne.symm hjk)] at hx
   rw [if_neg hjk]
   exact h.by' j x hx
theorem DirAt.add (h : DirAt S X D) (hW : Wrt S I2 X T Y 3 (16 * D.length) (ent e)) (he : EOk e) (hl : D.length ≤ 999) : DirAt T Y (D ++ [e]) := by
 have hel := a0R he
 refine ⟨(hW.kl 3 (by simp)).1.trans h.kd, (hW.kl 3 (by simp)).2.trans h.lk, ?_, fun x hx => ?_, fun j x hx => ?_⟩
 ·rw [hW.sz, h.sz, hel, List.length_append, List.length_singleton]; omega
 ·rw [List.mem_append, List.mem_singleton] at hx
  rcases hx with hx | rfl
  ·exact h.ok x hx
  ·exact he
 ·have hj : j < (D ++ [e]).length := (List.getElem?_eq_some_iff.1 hx).1
  rw [List.length_append, List.length_singleton] at hj
  rw [c3d hW he (by omega) (by omega)]
  by_cases hjk : j = D.length
  ·subst hjk
   rw [List.getElem?_append_right (Nat.le_refl _), Nat.sub_self] at hx
   cases hx
   rw [if_pos rfl]
  ·rw [if_neg hjk]
   rw [List.getElem?_append_left (by omega)] at hx
   exact h.by' j x hx
theorem DirAt.cut {n : Nat} (h : DirAt S X D) (hT : Trt S I2 X T Y 3 (16 * n)) (hn : n ≤ D.length) (hl : D.length ≤ 1000) : DirAt T Y (D.take n) := by
 refine ⟨(hT.kl 3 (by simp)).1.trans h.kd, (hT.kl 3 (by simp)).2.trans h.lk, ?_, fun x hx => h.ok x (List.mem_of_mem_take hx), fun j x hx => ?_⟩
 ·rw [hT.sz, List.length_take]; omega
 ·have hj : j < (D.take n).length := (List.getElem?_eq_some_iff.1 hx).1
  rw [List.length_take] at hj
  rw [List.getElem?_take, if_pos (by omega)] at hx
  rw [← h.by' j x hx]
  exact b7n fun i hi => by rw [hT.by' _ (by omega), if_neg (by omega)]
theorem Lvs.put {n : Nat} (h : Lvs S X n) (hW : Wrt S I2 X T Y 3 (16 * k) (ent e)) (he : EOk e) (hk : 16 * k ≤ n) (hn : n % 16 = 0) : Lvs T Y (max n (16 * k + 16)) := fun j hj => by
 have := hW.zr j hj
 rw [a0R he, h j hj] at this
 rw [this]
 omega
theorem Lvs.cut {n s : Nat} (h : Lvs S X n) (hT : Trt S I2 X T Y 3 s) (hs : s ≤ n) : Lvs T Y s := fun j hj => by
 rw [hT.lf j hj]
 by_cases hc : s ≤ 64 * j
 ·rw [if_pos hc]; exact ⟨fun _ => hc, fun _ => rfl⟩
 ·rw [if_neg hc, h j hj]
  exact ⟨fun h => by omega, fun h => absurd h hc⟩
end
theorem a7Q : ∀ {D : List (Nat × Bs)} {k : Nat} {e : Nat × Bs} (J : List AV), D[k]? = some e → ((E5 D ++ J).drop (k * 2)).take 2 = [ivn e.1, tv e.2]
 | x :: D, 0, e, J, h => by cases h; rfl
 | x :: D, k + 1, e, J, h => by
  have ih := a7Q (D := D) (k := k) J h
  show (([ivn x.1, tv x.2] ++ E5 D ++ J).drop ((k + 1) * 2)).take 2 = _
  rw [show (k + 1) * 2 = k * 2 + 2 by omega]
  exact ih
section
variable {m : M} {x : AV} {ob : Option Nat} {D : List (Nat × Bs)} {e : Nat × Bs} {k : Nat}
theorem d6T (h : SlAt m y6 2 x D.length (E5 D) ob) (hk : D[k]? = some e) : ∃ b cap, x = .slice b 0 D.length cap false ∧ m.rdN b (k * 2) 2 = some [ivn e.1, tv e.2] ∧ m.rd b (k * 2) = some (ivn e.1) := by
 have hlt := (List.getElem?_eq_some_iff.1 hk).1
 have hl := b56 D
 generalize hc : E5 D = cs at h hl
 generalize hn : D.length = n at h hl hlt
 cases h with
 | nil => omega
 | row h h1 h2 h3 h4 =>
  rename_i b cap junk xt
  refine ⟨b, cap, rfl, ?_, ?_⟩
  ·rw [h.rdN (by rw [List.length_append]; omega), ← hc, a7Q junk hk]
  ·have := a7Q junk hk
   rw [h.rd, ← hc]
   have h5 := congrArg (fun l => l[0]?) this
   simpa [List.getElem?_take, List.getElem?_drop] using h5
theorem f2o (hw : Wf m) (e : Nat × Bs) {q : Nat} {s : Bs} (hq : At m q E4 true [tv s]) : ∃ m', Keep m m' (fun _ => False) ∧ Ran Tryz.prog tb a1i [.agg [ivn e.1, tv e.2], .ptr q 0] m (.b (decide (e.2 = s))) m' := by
 obtain ⟨m1, e1, a1, k1, n1⟩ := l8 hw y6 2 [ivn e.1, tv e.2]
 have hq1 := hq.keep hw k1 id
 refine ⟨m1, k1, ?_⟩
 refine WpF.go f95 ?_
 simp -implicitDefEqProofs only [g1W, d5m, e0m, e1, a1.rd, hq1.rd, ↓reduceIte, Nat.reduceEqDiff, Nat.reduceAdd, List.getElem?_cons_succ, List.getElem?_cons_zero, wA, wB, wC, wD]
def ixD (D : List (Nat × Bs)) (s : Bs) : Option Nat := D.findIdx? fun e => decide (e.2 = s)
noncomputable def ixV (r : Option Nat) : AV := match r with
 | some k => iv (k : Nat)
 | none => iv (-1)
theorem f41 (hw : Wf m) (h : SlAt m y6 2 x D.length (E5 D) ob) {q : Nat} {s : Bs} (hq : At m q E4 true [tv s]) (hl : D.length ≤ 10000) :
  ∃ m', Keep m m' (fun _ => False) ∧ Ran Tryz.prog tb a52 [x, .func a1i [.ptr q 0]] m (ixV (ixD D s)) m' := by
 have key : WpF Tryz.prog tb a52 [x, .func a1i [.ptr q 0]] m fun v m' => v = ixV (ixD D s) ∧ Keep m m' fun _ => False := by
  refine WpF.go g1b ?_
  simp -implicitDefEqProofs only [a6v, d33, d6h, h.len, ↓reduceIte, Nat.reduceEqDiff, Nat.reduceAdd, wA, wB, wC, wD]
  refine A5 (fun j fr mk => ∃ k, k ≤ D.length ∧ j = D.length - k ∧ (ev (tm 0) fr = x ∧ ev (tm 1) fr = .func a1i [.ptr q 0] ∧ ev (tm 7) fr = iv (D.length : Nat) ∧ ev (tm 8) fr = iv (k : Nat)) ∧ (∀ j e, j < k → D[j]? = some e → e.2 ≠ s) ∧ Keep m mk fun _ => False) (k := D.length) ⟨0, Nat.zero_le _, rfl, by simp -implicitDefEqProofs only [nc0, d6, ↓reduceIte, Nat.reduceEqDiff, nc0, and_self], fun j e hj => by omega, Keep.refl hw _⟩ ?_
  rintro j fr mk ⟨k, hk, rfl, ⟨f0, f1, f7, f8⟩, hz, kk⟩
  by_cases hlt : k < D.length
  ·have hv : D[k]? = some D[k] := List.getElem?_eq_getElem hlt
   generalize D[k] = e at hv
   obtain ⟨b, cap, rfl, hrd, _⟩ := d6T (h.keep hw kk fun _ _ => id) hv
   have hia := B9 (m := mk) 2 b 0 D.length cap false hlt
   rw [Nat.zero_add] at hia
   have hqk := hq.keep hw kk id
   obtain ⟨m1, k1, r1⟩ := f2o kk.wf e hqk
   by_cases h0 : e.2 = s
   ·rw [decide_eq_true h0] at r1
    simp -implicitDefEqProofs only [a6v, a40, b0k, b1b, d2g, f0, f1, f7, f8, show ((k : Int) < (D.length : Int)) = True from eq_true (by omega), hia, hrd, r1.eq, ↓reduceIte, Nat.reduceEqDiff, wA, wB, wC, wD]
    refine ⟨?_, kk.tf k1⟩
    have : ixD D s = some k := by
     unfold ixD
     rw [List.findIdx?_eq_some_iff_getElem]
     refine ⟨hlt, ?_, fun j hj => ?_⟩
     ·have := (List.getElem?_eq_some_iff.1 hv).2
      rw [this]; exact decide_eq_true h0
     ·have := hz j D[j] hj (List.getElem?_eq_getElem (by omega))
      simpa using this
    rw [this]; rfl
   ·rw [decide_eq_false h0] at r1
    simp -implicitDefEqProofs only [a6v, a40, b0k, b1b, d0t, f0, f1, f7, f8, show ((k : Int) < (D.length : Int)) = True from eq_true (by omega), hia, hrd, r1.eq, aD (k : Int) 1, ↓reduceIte, Nat.reduceEqDiff, wA, wB, wC, wD]
    refine A4 (k' := D.length - (k + 1)) (by omega) ⟨k + 1, by omega, rfl, by simp -implicitDefEqProofs only [f0, f1, f7, show (k : Int) + 1 = ((k + 1 : Nat) : Int) from rfl, d6, ↓reduceIte, Nat.reduceEqDiff, and_self], fun j e' hj he => ?_, kk.tf k1⟩
    by_cases hjk : j = k
    ·subst hjk
     rw [hv] at he
     cases he
     exact h0
    ·exact hz j e' (by omega) he
  ·obtain rfl : k = D.length := by omega
   simp -implicitDefEqProofs only [a6v, a40, d8a, f7, f8, ↓reduceIte, wA, wB, wC, wD]
   refine ⟨?_, kk⟩
   have : ixD D s = none := by
    unfold ixD
    rw [List.findIdx?_eq_none_iff]
    intro e he
    obtain ⟨j, hj, e2⟩ := List.mem_iff_getElem.1 he
    have := hz j e hj (by rw [List.getElem?_eq_getElem hj, e2])
    simpa using this
   rw [this]; rfl
 obtain ⟨v, m', ⟨rfl, k⟩, r⟩ := key.ran
 exact ⟨m', k, r⟩
end
structure DS (S : PS) (X : Nat → Ino) (D : List (Nat × Bs)) : Prop where
 fs : FS S I2 X
 dir : DirAt S X D
 lv : Lvs S X (16 * D.length)
 len : D.length ≤ 31
 z : D = [] → ∀ k, k < 10 → (X 3).ps.getD k 0 = 0
section
variable {m : M} {A : Ad} {S : PS} {own : Nat → Prop} {X : Nat → Ino} {tt aa n : Nat} {D : List (Nat × Bs)} {s : Bs} {e : Nat × Bs} {k : Nat} {x : AV} {ob : Option Nat}
theorem b7d (hw : Wf m) (h : GAt m A S own) (ht : TAt m tt aa A.g) (hD : DS S X D) (hs : Low s) :
  ∃ m' n x ob, Keep m m' (fun _ => False) ∧ m.next ≤ n ∧ At m' n M1 true (nmL A.o tt x) ∧ SlAt m' y6 2 x D.length (E5 D) ob ∧ (∀ b, ob = some b → m.next ≤ b) ∧
   Ran Tryz.prog tb a0s [.ptr A.o 0, .ptr tt 0, .agg j8, iv 3, tv s] m (.tuple [.ptr n 0, ixV (ixD D s), iv 0]) m' := by
 obtain ⟨m1, e1, a1, k1, n1⟩ := l8 hw x6 12 j8
 obtain ⟨m2, e2, a2, k2, n2⟩ := l8 k1.wf E4 1 [tv s]
 obtain ⟨m3, k3, r3⟩ := a8z k2.wf hs
 have k13 := k2.tf k3
 have k03 := k1.tf k13
 obtain ⟨m4, n, x, ob, k4, hn, N4, S4, o4, r4⟩ := f3m k03.wf (h.k0 hw k03) (ht.k0 hw k03) hD.fs hD.dir (by have := hD.len; omega)
 have k04 := k03.tf k4
 obtain ⟨m5, k5, r5⟩ := f41 k04.wf S4 (s := s) ((a2.keep k2.wf k3 id).keep k03.wf k4 id) (by have := hD.len; omega)
 have hn3 := k03.next
 have hP : m3.rdN m.next 0 12 = some j8 := (a1.keep k1.wf k13 id).rdN (by show 0 + 12 ≤ 12; omega)
 have hx : m4.rd n 15 = some x := by rw [N4.rd]; rfl
 refine ⟨m5, n, x, ob, k04.tf k5, by omega, N4.keep k04.wf k5 id, S4.keep k04.wf k5 fun _ _ => id, fun b hb => by have := o4 b hb; omega, ?_⟩
 refine WpF.go g0l ?_
 simp -implicitDefEqProofs only [g2g, d2a, e0w, e4n, e2G, d3Z, e0L, e1, e2, a2.rd, r3.eq, hP, r4.eq, hx, r5.eq, ↓reduceIte, Nat.reduceEqDiff, Nat.reduceAdd, List.getElem?_cons_succ, List.getElem?_cons_zero, wA, wB, wC, wD]
theorem f5G : o8 40 (.agg j8) (.agg j8) = true := by kernel_rfl
theorem g2H : ∀ j, j < 8 → (d9 j).way.length ≤ 1 := by decide
theorem b8g (hw : Wf m) (h : GAt m A S own) (ht : TAt m tt aa A.g) (hF : FS S I2 X) (hn : At m n M1 true (nmL A.o tt x)) (he : EOk e) (hk : k < 32) (hc : o6 S ≤ 51) :
  ∃ m' own' T Y, Wrt S I2 X T Y 3 (16 * k) (ent e) ∧ o6 T ≤ o6 S + 1 ∧ Step m m' A T own own' ∧ Ran Tryz.prog tb a6b [.ptr n 0, iv k, .agg [ivn e.1, tv e.2]] m (iv 0) m' := by
 have hel := a0R he
 obtain ⟨m1, e1, a1, k1, n1⟩ := l8 hw y6 2 [ivn e.1, tv e.2]
 obtain ⟨m2, s2, b2, R2, k2, hb2, r2⟩ := b6f k1.wf he
 have k02 := k1.tf k2
 obtain ⟨cap, rfl, hcap⟩ := R2.shape
 have hnp : npc (16 * k) (ent e).length = 1 := by rw [hel]; unfold npc; rw [if_neg (by omega)]; omega
 have hne : ent e ≠ [] := fun e0 => by rw [e0] at hel; cases hel
 have key : WpF Tryz.prog tb a3H [.ptr A.o 0, .ptr tt 0, .agg j8, ivn 3, ivn (16 * k), .slice b2 0 (ent e).length cap false] m2 fun v m' => ∃ own' T Y, v = iv 0 ∧ Wrt S I2 X T Y 3 (16 * k) (ent e) ∧ o6 T ≤ o6 S + 1 ∧ Step m2 m' A T own own' :=
  f26 (w := 1) k02.wf (h.k0 hw k02) (ht.k0 hw k02) hF (by simp) R2.bs hcap R2.sl.kd (by decide) hne (by omega) (by omega) (fun j _ hj => g2H j (by omega))
   (fun m' own' T Y hW hcn st => ⟨own', T, Y, rfl, hW, by rw [hnp] at hcn; omega, st⟩) (fun h53 => by rw [hnp] at h53; omega)
 obtain ⟨v, m3, ⟨own', T, Y, rfl, hW, hcn, st⟩, r3⟩ := key.ran
 refine ⟨m3, own', T, Y, hW, hcn, Step.ft k02 st, ?_⟩
 have hn2 := hn.keep hw k02 id
 have hn3 := hn2.kp k02.wf st.kp
 have hL : m1.rdN m.next 0 2 = some [ivn e.1, tv e.2] := a1.rdN (by show 0 + 2 ≤ 2; omega)
 have q1 : m2.rd n 0 = some (.ptr A.o 0) := by rw [hn2.rd]; rfl
 have q2 : m2.rd n 1 = some (.ptr tt 0) := by rw [hn2.rd]; rfl
 have q3 : m2.rdN n 2 12 = some j8 := hn2.rdN (by show 2 + 12 ≤ 16; omega)
 have q4 : m2.rd n 14 = some (iv 3) := by rw [hn2.rd]; rfl
 have t1 : m3.rd n 0 = some (.ptr A.o 0) := by rw [hn3.rd]; rfl
 have t2 : m3.rd n 1 = some (.ptr tt 0) := by rw [hn3.rd]; rfl
 have t3 : m3.rdN n 2 12 = some j8 := hn3.rdN (by show 2 + 12 ≤ 16; omega)
 have t4 : m3.rd n 14 = some (iv 3) := by rw [hn3.rd]; rfl
 have hm := Q5 (a := (k : Int)) (b := 16) b0 (by omega) (by omega)
 rw [show (k : Int) * 16 = ((16 * k : Nat) : Int) by omega] at hm
 have r3 : Ran Tryz.prog tb a3H [.ptr A.o 0, .ptr tt 0, .agg j8, iv 3, iv (16 * k : Nat), .slice b2 0 (ent e).length cap false] m2 (iv 0) m3 := r3
 refine WpF.go f9W ?_
 simp -implicitDefEqProofs only [g2k, d41, d0D, d3K, d1S, e1, hL, r2.eq, q1, q2, q3, q4, hm, r3.eq, f5G, ↓reduceIte, Nat.reduceEqDiff, Nat.reduceAdd, List.getElem?_cons_succ, List.getElem?_cons_zero, exists_eq_left', wA, wB, wC, wD]
end
section
variable {m : M} {A : Ad} {S : PS} {own : Nat → Prop} {X : Nat → Ino} {tt aa n : Nat} {D : List (Nat × Bs)} {s : Bs} {e : Nat × Bs} {k : Nat} {x : AV} {ob : Option Nat}
theorem DS.add {T : PS} {Y : Nat → Ino} (h : DS S X D) (hW : Wrt S I2 X T Y 3 (16 * D.length) (ent e)) (he : EOk e) (hl : D.length ≤ 30) : DS T Y (D ++ [e]) :=
 ⟨hW.fs, h.dir.add hW he (by omega), by
  have := h.lv.put hW he (Nat.le_refl _) (by omega)
  rw [List.length_append, List.length_singleton]
  rwa [show max (16 * D.length) (16 * D.length + 16) = 16 * (D.length + 1) by omega] at this, by rw [List.length_append, List.length_singleton]; omega, fun e0 => by have := congrArg List.length e0; rw [List.length_append, List.length_singleton] at this; exact absurd this (by show ¬ _ = 0; omega)⟩
theorem DS.set {T : PS} {Y : Nat → Ino} (h : DS S X D) (hW : Wrt S I2 X T Y 3 (16 * k) (ent e)) (he : EOk e) (hk : k < D.length) : DS T Y (D.set k e) :=
 ⟨hW.fs, h.dir.set hW he hk (by have := h.len; omega), by
  have := h.lv.put hW he (by omega) (by omega)
  rw [List.length_set]
  rwa [show max (16 * D.length) (16 * k + 16) = 16 * D.length by omega] at this, by rw [List.length_set]; exact h.len, fun e0 => by have := congrArg List.length e0; rw [List.length_set] at this; have : D.length = 0 := this; omega⟩
theorem DS.cut {T : PS} {Y : Nat → Ino} {j : Nat} (h : DS S X D) (hT : Trt S I2 X T Y 3 (16 * j)) (hj : j ≤ D.length) : DS T Y (D.take j) :=
 ⟨hT.fs, h.dir.cut hT hj (by have := h.len; omega), by
  have := h.lv.cut hT (by omega)
  rwa [List.length_take, show min j D.length = j by omega], by rw [List.length_take]; have := h.len; omega, fun e0 k hk => by
  have := congrArg List.length e0
  rw [List.length_take] at this
  have : min j D.length = 0 := this
  exact hT.inn (.r k) hk (by omega)⟩
set_option maxRecDepth 20000 in
theorem f42 (hw : Wf m) (h : GAt m A S own) (ht : TAt m tt aa A.g) (hD : DS S X D) (he : EOk e) (fr : Bool) (hc : o6 S ≤ 51) (hr : fr = true ∧ ixD D e.2 = none ∧ k = D.length ∧ D.length ≤ 30 ∨ fr = false ∧ ixD D e.2 = some k ∧ k < D.length) :
  ∃ m' own' T Y, Wrt S I2 X T Y 3 (16 * k) (ent e) ∧ o6 T ≤ o6 S + 1 ∧ Step m m' A T own own' ∧ Ran Tryz.prog tb b1X [.ptr A.o 0, .ptr tt 0, .agg j8, iv 3, tv e.2, ivn e.1, .b fr] m (iv 0) m' := by
 have h1 := he.i1
 have h2 := he.i2
 have hl := hD.len
 obtain ⟨m1, e1, a1, k1, n1⟩ := l8 hw x6 12 j8
 obtain ⟨m2, k2, r2⟩ := a8z k1.wf he.nm
 have k02 := k1.tf k2
 obtain ⟨m3, n, x, ob, k3, hn, N3, S3, o3, r3⟩ := b7d k02.wf (h.k0 hw k02) (ht.k0 hw k02) hD he.nm
 have k03 := k02.tf k3
 have hP : m2.rdN m.next 0 12 = some j8 := (a1.keep k1.wf k2 id).rdN (by show 0 + 12 ≤ 12; omega)
 have hx : m3.rd n 15 = some x := by rw [N3.rd]; rfl
 obtain ⟨m4, own', T, Y, hW, hcn, st, r4⟩ := b8g (k := k) k03.wf (h.k0 hw k03) (ht.k0 hw k03) hD.fs N3 he (by omega) hc
 refine ⟨m4, own', T, Y, hW, hcn, Step.ft k03 st, ?_⟩
 rcases hr with ⟨rfl, hi, rfl, _⟩ | ⟨rfl, hi, hk⟩
 ·rw [hi] at r3
  have r3 : Ran Tryz.prog tb a0s [.ptr A.o 0, .ptr tt 0, .agg j8, iv 3, tv e.2] m2 (.tuple [.ptr n 0, iv (-1), iv 0]) m3 := r3
  refine WpF.go e6C ?_
  simp -implicitDefEqProofs only [e7F, b07, b0g, a9Q, b0J, b1p, b08, a98, a8G, c4V, a8R, e1, r2.eq, show ((e.1 : Int) < 1) = False from eq_false (by omega), show ((65535 : Int) < (e.1 : Int)) = False from eq_false (by omega), hP, r3.eq, show ((0 : Int) ≤ -1) = False from eq_false (by omega), hx, S3.len, r4.eq, ↓reduceIte, Nat.reduceEqDiff, Nat.reduceAdd, Nat.reduceLeDiff, List.getElem?_cons_succ, List.getElem?_cons_zero, wA, wB, wC, wD]
 ·rw [hi] at r3
  have r3 : Ran Tryz.prog tb a0s [.ptr A.o 0, .ptr tt 0, .agg j8, iv 3, tv e.2] m2 (.tuple [.ptr n 0, iv (k : Nat), iv 0]) m3 := r3
  refine WpF.go e6C ?_
  simp -implicitDefEqProofs only [e7F, b07, b0g, a9Q, b0J, b1p, b08, a98, a8G, c8h, a8R, e1, r2.eq, show ((e.1 : Int) < 1) = False from eq_false (by omega), show ((65535 : Int) < (e.1 : Int)) = False from eq_false (by omega), hP, r3.eq, show ((k : Int) < 0) = False from eq_false (by omega), r4.eq, ↓reduceIte, Nat.reduceEqDiff, Nat.reduceAdd, Nat.reduceLeDiff, List.getElem?_cons_succ, List.getElem?_cons_zero, wA, wB, wC, wD]
theorem f6l (hw : Wf m) (h : GAt m A S own) (ht : TAt m tt aa A.g) (hD : DS S X D) (he : EOk e) (hc : o6 S ≤ 51) (hi : ixD D e.2 = none) (hl : D.length ≤ 30) :
  ∃ m' own' T Y, DS T Y (D ++ [e]) ∧ o6 T ≤ o6 S + 1 ∧ Step m m' A T own own' ∧ Ran Tryz.prog tb a21 [.ptr A.o 0, .ptr tt 0, .agg j8, iv 3, tv e.2, ivn e.1] m (iv 0) m' := by
 obtain ⟨m1, e1, a1, k1, n1⟩ := l8 hw x6 12 j8
 have hP : m1.rdN m.next 0 12 = some j8 := a1.rdN (by show 0 + 12 ≤ 12; omega)
 obtain ⟨m2, own', T, Y, hW, hcn, st, r2⟩ := f42 k1.wf (h.k0 hw k1) (ht.k0 hw k1) hD he true hc (.inl ⟨rfl, hi, rfl, hl⟩)
 refine ⟨m2, own', T, Y, hD.add hW he hl, hcn, Step.ft k1 st, ?_⟩
 refine WpF.go g1x ?_
 simp -implicitDefEqProofs only [g1M, d99, e2V, e1, hP, r2.eq, ↓reduceIte, Nat.reduceEqDiff, Nat.reduceAdd, wA, wB, wC, wD]
set_option maxRecDepth 20000 in
theorem f6V (hw : Wf m) (h : GAt m A S own) (ht : TAt m tt aa A.g) (hD : DS S X D) (hs : Low s) (hc : o6 S ≤ 51) (hi : ixD D s = some k) (hk : k < D.length) (hlast : D[D.length - 1]? = some e) :
  ∃ m' own' T Y R Z, DS T Y ((D.set k e).take (D.length - 1)) ∧ Trt R I2 Z T Y 3 (16 * (D.length - 1)) ∧ o6 T ≤ o6 S + 1 ∧ Step m m' A T own own' ∧ Ran Tryz.prog tb a2J [.ptr A.o 0, .ptr tt 0, .agg j8, iv 3, tv s] m (iv 0) m' := by
 have hl := hD.len
 have he := hD.dir.ok e (List.mem_iff_getElem?.2 ⟨_, hlast⟩)
 obtain ⟨m1, e1, a1, k1, n1⟩ := l8 hw x6 12 j8
 obtain ⟨m2, n, x, ob, k2, hn, N2, S2, o2, r2⟩ := b7d k1.wf (h.k0 hw k1) (ht.k0 hw k1) hD hs
 rw [hi] at r2
 have r2 : Ran Tryz.prog tb a0s [.ptr A.o 0, .ptr tt 0, .agg j8, iv 3, tv s] m1 (.tuple [.ptr n 0, iv (k : Nat), iv 0]) m2 := r2
 have k02 := k1.tf k2
 obtain ⟨b, cap, rfl, hrd, hr⟩ := d6T S2 hlast
 obtain ⟨m3, own3, R, Z, hW, hcn, st, r3⟩ := b8g (k := k) k02.wf (h.k0 hw k02) (ht.k0 hw k02) hD.fs N2 he (by omega) hc
 have hD3 := hD.set hW he hk
 obtain ⟨m4, own4, T, Y, hT, st4, r4⟩ := f00 st.kp.wf st.at' ((ht.k0 hw k02).kp k02.wf st.kp) hD3.fs (by simp : (3 : Nat) ∈ I2) (s := 16 * (D.length - 1)) (by omega)
 have hP1 : m1.rdN m.next 0 12 = some j8 := a1.rdN (by show 0 + 12 ≤ 12; omega)
 have hP3 : m3.rdN m.next 0 12 = some j8 := ((a1.keep k1.wf k2 id).kp k02.wf st.kp).rdN (by show 0 + 12 ≤ 12; omega)
 have hx : m2.rd n 15 = some (.slice b 0 D.length cap false) := by rw [N2.rd]; rfl
 have hia := B9 (m := m2) 2 b 0 D.length cap false (show D.length - 1 < D.length by omega)
 rw [Nat.zero_add] at hia
 have hsub : (D.length : Int) - 1 = ((D.length - 1 : Nat) : Int) := by omega
 have hm := Q5 (a := ((D.length - 1 : Nat) : Int)) (b := 16) b0 (by omega) (by omega)
 rw [show ((D.length - 1 : Nat) : Int) * 16 = ((16 * (D.length - 1) : Nat) : Int) by omega] at hm
 have hcut := hD3.cut hT (by rw [List.length_set]; omega)
 have r4 : Ran Tryz.prog tb a55 [.ptr A.o 0, .ptr tt 0, .agg j8, iv 3, iv (16 * (D.length - 1) : Nat)] m3 (iv 0) m4 := r4
 refine ⟨m4, own4, T, Y, R, Z, hcut, hT, by have := hT.cnt; omega, Step.ft k02 (st.trans st4), ?_⟩
 refine WpF.go g1k ?_
 simp -implicitDefEqProofs only [g1Z, d39, e4I, d9l, e2p, e5K, e5w, d6p, b9n, e1, hP1, r2.eq, show ((k : Int) < 0) = False from eq_false (by omega), hx, sB (D.length : Int) 1, hsub, hia, hrd, r3.eq, hP3, hm, r4.eq, ↓reduceIte, Nat.reduceEqDiff, Nat.reduceAdd, List.getElem?_cons_succ, List.getElem?_cons_zero, wA, wB, wC, wD]
end
theorem e0x (f : Nat → Nat) (c : Nat) : ∀ N, (∀ k, k < N → (f k = 0 ↔ c ≤ k)) → (nzs ((List.range N).map f)).length = min N c
 | 0, _ => by rw [Nat.zero_min]; rfl
 | N + 1, h => by
  have ih := e0x f c N fun k hk => h k (by omega)
  have hN := h N (by omega)
  unfold nzs at ih ⊢
  rw [List.range_succ, List.map_append, List.filter_append, List.length_append, ih]
  by_cases h0 : f N = 0
  ·rw [show (List.map f [N]).filter (fun v => decide (v ≠ 0)) = [] by simp [h0]]
   have := hN.1 h0
   show min N c + 0 = _
   omega
  ·rw [show (List.map f [N]).filter (fun v => decide (v ≠ 0)) = [f N] by simp [h0]]
   have : ¬ c ≤ N := fun hc => h0 (hN.2 hc)
   show min N c + 1 = _
   omega
theorem f3v {S : PS} {X : Nat → Ino} {n : Nat} (h : Lvs S X (16 * n)) (hn : n ≤ 1000) : a43 S (X 3) = (n + 3) / 4 := by
 unfold a43 G8
 have hl := a2z (Nf S (X 3)) 1064
 rw [e0x (Nf S (X 3)) ((n + 3) / 4) _ fun k hk => by
  rw [show Nf S (X 3) k = 0 ↔ _ from h k (by omega)]
  omega]
 by_cases h0 : n = 0
 ·subst h0; exact Nat.min_zero _
 ·have h1 : Nf S (X 3) ((n + 3) / 4 - 1) ≠ 0 := fun e => by
   have := (h ((n + 3) / 4 - 1) (by omega)).1 e
   omega
  have := b9E (n := 1064) (show (n + 3) / 4 - 1 < 1064 by omega) h1
  omega
structure Ls (m : M) (D : List (Nat × Bs)) (c : Nat) : Prop where
 wf : Wf m
 pl : At m 1 x6 true j8
 ex : ∃ own S X, GAt m A2 S own ∧ TAt m 181 179 A2.g ∧ DS S X D ∧ o6 S ≤ c
section
variable {m m' : M} {D : List (Nat × Bs)} {c k : Nat} {e : Nat × Bs} {s : Bs}
theorem Ls.keep (h : Ls m D c) (kk : Keep m m' fun _ => False) : Ls m' D c := by
 obtain ⟨own, S, X, h1, h2, h3, h4⟩ := h.ex
 exact ⟨kk.wf, h.pl.keep h.wf kk id, own, S, X, h1.k0 h.wf kk, h2.k0 h.wf kk, h3, h4⟩
theorem Ls.ins (h : Ls m D c) (he : EOk e) (hc : c ≤ 51) (hi : ixD D e.2 = none) (hl : D.length ≤ 30) : ∃ m', Ls m' (D ++ [e]) (c + 1) ∧ A9 m m' [] A2.ms ∧ Ran Tryz.prog tb a21 [.ptr 185 0, .ptr 181 0, .agg j8, iv 3, tv e.2, ivn e.1] m (iv 0) m' := by
 obtain ⟨own, S, X, h1, h2, h3, h4⟩ := h.ex
 obtain ⟨m', own', T, Y, hD, hcn, st, r⟩ := f6l h.wf h1 h2 h3 he (by omega) hi hl
 exact ⟨m', ⟨st.kp.wf, h.pl.kp h.wf st.kp, own', T, Y, st.at', h2.kp h.wf st.kp, hD, by omega⟩, st.kp, r⟩
theorem Ls.rem (h : Ls m D c) (hs : Low s) (hc : c ≤ 51) (hi : ixD D s = some k) (hk : k < D.length) (hlast : D[D.length - 1]? = some e) : ∃ m', Ls m' ((D.set k e).take (D.length - 1)) (c + 1) ∧ A9 m m' [] A2.ms ∧ Ran Tryz.prog tb a2J [.ptr 185 0, .ptr 181 0, .agg j8, iv 3, tv s] m (iv 0) m' := by
 obtain ⟨own, S, X, h1, h2, h3, h4⟩ := h.ex
 obtain ⟨m', own', T, Y, R, Z, hD, _, hcn, st, r⟩ := f6V h.wf h1 h2 h3 hs (by omega) hi hk hlast
 exact ⟨m', ⟨st.kp.wf, h.pl.kp h.wf st.kp, own', T, Y, st.at', h2.kp h.wf st.kp, hD, by omega⟩, st.kp, r⟩
theorem Ls.dirty (h : Ls m D c) : ∃ m' x cs o, SlAt m' b0 1 x ((D.length + 3) / 4) cs o ∧ Keep m m' (fun _ => False) ∧ Ran Tryz.prog tb a2Z [.ptr 185 0, .ptr 181 0, iv 3] m (.tuple [x, iv 0]) m' := by
 obtain ⟨own, S, X, h1, h2, h3, h4⟩ := h.ex
 obtain ⟨m', x, o, L, hL, hs, _, kk, r⟩ := f2K h.wf h1 h2 h3.fs.inv (by simp : (3 : Nat) ∈ I2)
 rw [f3v h3.lv (by have := h3.len; omega)] at hs
 exact ⟨m', x, _, o, hs, kk, r⟩
theorem Ls.get (h : Ls m D c) : ∃ m' ps, ps.length = 10 ∧ (D = [] → ps = List.replicate 10 0) ∧ Keep m m' (fun _ => False) ∧ Ran Tryz.prog tb I9 [.ptr 181 0, .ptr 185 0, iv 3] m (.tuple [.agg (o0 2 1 (16 * D.length) ps), iv 0]) m' := by
 obtain ⟨own, S, X, h1, h2, h3, h4⟩ := h.ex
 obtain ⟨_, hx3, ho3⟩ := h3.fs.inv.ino 3 (by simp)
 obtain ⟨m', kk, r⟩ := U2 h.wf h1 h2 (.inr rfl) hx3 ho3
 rw [h3.dir.kd, h3.dir.lk, h3.dir.sz] at r
 refine ⟨m', (X 3).ps, ho3.len, fun e0 => ?_, kk, r⟩
 have hz := h3.z e0
 refine List.ext_getElem (by rw [ho3.len, List.length_replicate]) fun i h1 h2 => ?_
 rw [List.getElem_replicate]
 have := hz i (by rw [ho3.len] at h1; exact h1)
 rwa [List.getD_eq_getElem?_getD, List.getElem?_eq_getElem h1] at this
end
def E (i : Nat) : Nat × Bs := (i + 1, [UInt8.ofNat (97 + i)])
theorem E_c {i : Nat} (h : i < 26) : (UInt8.ofNat (97 + i)).toNat = 97 + i := by rw [UInt8.toNat_ofNat']; omega
theorem e7Z {i : Nat} (h : i < 26) : EOk (E i) := ⟨by show 1 ≤ i + 1; omega, by show i + 1 ≤ 65535; omega, by show 1 ≤ 1; omega, by show 1 ≤ 13; omega, fun c hc => by
 have : c = UInt8.ofNat (97 + i) := by simpa [E] using hc
 rw [this, E_c h]; omega⟩
theorem e6H {i j : Nat} (hi : i < 26) (hj : j < 26) (h : (E i).2 = (E j).2) : i = j := by
 have h1 : UInt8.ofNat (97 + i) = UInt8.ofNat (97 + j) := by simpa [E] using h
 have h2 := congrArg UInt8.toNat h1
 rw [E_c hi, E_c hj] at h2
 omega
theorem f4n {D : List (Nat × Bs)} {s : Bs} (h : ∀ e ∈ D, e.2 ≠ s) : ixD D s = none := by
 unfold ixD
 rw [List.findIdx?_eq_none_iff]
 intro e he
 simpa using h e he
theorem f5b {D : List (Nat × Bs)} {s : Bs} (h : ∃ e ∈ D, e.2 = s) : ∃ k e, ixD D s = some k ∧ D[k]? = some e ∧ e.2 = s := by
 cases hr : ixD D s with
 | none =>
  obtain ⟨e, he, h2⟩ := h
  unfold ixD at hr
  rw [List.findIdx?_eq_none_iff] at hr
  have := hr e he
  simp [h2] at this
 | some k =>
  unfold ixD at hr
  rw [List.findIdx?_eq_some_iff_getElem] at hr
  obtain ⟨hk, h1, _⟩ := hr
  exact ⟨k, D[k], rfl, List.getElem?_eq_getElem hk, by simpa using h1⟩
section
variable {m : M}
theorem wakesD_ran : Ran Tryz.prog tb b5L [] m (.b true) m := H3 Tryz.func6 rfl
theorem smallD_ran : Ran Tryz.prog tb b5V [] m (.agg j8) m := H3 Tryz.func7 rfl
theorem Ls.take {D : List (Nat × Bs)} {R R' : List Nat} {c k : Nat} (h : Ls m D c) (hp : D.Perm (R.map E)) (hR : R.Perm (k :: R')) (h26 : ∀ x ∈ R, x < 26) (hc : c ≤ 51) :
  ∃ m' D', Ls m' D' (c + 1) ∧ D'.Perm (R'.map E) ∧ Ran Tryz.prog tb a2J [.ptr 185 0, .ptr 181 0, .agg j8, iv 3, tv (E k).2] m (iv 0) m' := by
 have hk26 : k < 26 := h26 k (hR.mem_iff.2 (by simp))
 have hmem : E k ∈ D := hp.mem_iff.2 (List.mem_map.2 ⟨k, hR.mem_iff.2 (by simp), rfl⟩)
 obtain ⟨j, d, hj, hd, hds⟩ := f5b ⟨E k, hmem, rfl⟩
 have hlt := (List.getElem?_eq_some_iff.1 hd).1
 have hdk : d = E k := by
  obtain ⟨k', hk', rfl⟩ := List.mem_map.1 (hp.mem_iff.1 (List.mem_iff_getElem?.2 ⟨j, hd⟩))
  rw [e6H (h26 k' hk') hk26 hds]
 subst hdk
 have hl := List.getElem?_eq_getElem (l := D) (i := D.length - 1) (by omega)
 obtain ⟨m', h', _, r⟩ := h.rem (e7Z hk26).nm hc hj hlt hl
 refine ⟨m', _, h', ?_, r⟩
 have p1 := f4c hlt hl
 have p2 : (E k :: D.eraseIdx j).Perm (E k :: R'.map E) := (f2r hd).symm.trans (hp.trans (hR.map E))
 exact p1.trans (List.Perm.cons_inv p2)
theorem b0E (hw : Wf m) {i : Nat} (h : i < 26) : ∃ m', m.addL j7 1 [.y (97 + i)] = m' ∧ Keep m m' (fun _ => False) ∧ Y6 (.cst (.slice m.next 0 1 1 false)) .leaf m' = some (tv (E i).2, m') := by
 obtain ⟨m1, e1, a1, k1, n1⟩ := l8 hw j7 1 [.y (97 + i)]
 refine ⟨m1, e1, k1, ?_⟩
 have hb : BsAt m1 (.slice m.next 0 [UInt8.ofNat (97 + i)].length 1 false) [UInt8.ofNat (97 + i)] m.next := .row a1.r (by show 0 + 1 ≤ 1; omega) (by
  show [AV.y (97 + i)] = [AV.y (UInt8.ofNat (97 + i)).toNat]
  rw [E_c h])
 exact hb.run_b2s
def Rem (b : Bool) (n i : Nat) : List Nat := match b with
 | true => List.range (n - i)
 | false => (List.range n).drop i
theorem f4s {b : Bool} {n i : Nat} (h : i < n) : (Rem b n i).Perm ((if b = true then n - 1 - i else i) :: Rem b n (i + 1)) := by
 cases b with
 | true =>
  show (List.range (n - i)).Perm ((n - 1 - i) :: List.range (n - (i + 1)))
  obtain ⟨k, hk⟩ : ∃ k, n - i = k + 1 := ⟨n - i - 1, by omega⟩
  rw [hk, List.range_succ, show n - 1 - i = k by omega, show n - (i + 1) = k by omega]
  exact List.perm_append_singleton k _
 | false =>
  show ((List.range n).drop i).Perm (i :: (List.range n).drop (i + 1))
  rw [List.drop_eq_getElem_cons (by simpa using h), List.getElem_range]
theorem f8R {b : Bool} {n i : Nat} : ∀ x ∈ Rem b n i, x < n := fun x hx => by
 cases b with
 | true =>
  have := List.mem_range.1 (show x ∈ List.range (n - i) from hx)
  omega
 | false => exact List.mem_range.1 (List.mem_of_mem_drop (show x ∈ (List.range n).drop i from hx))
end
end Go.Proofs.YtooooiidpaecmaaGreatDoor
set_option linter.unusedVariables false
set_option linter.unusedSimpArgs false
/- The law DirGives, walked. -/
namespace Go.Proofs.YtooooiidpaecmaaGreatDoor
open Go Go.Am
section
theorem f5Z : d7 Tryz.prog .eql s9 (.agg [iv 2, iv 1, iv 0, iv 0, iv 0, iv 0, iv 0, iv 0, iv 0, iv 0, iv 0, iv 0, iv 0]) (.agg [iv 2, iv 1, iv 0, iv 0, iv 0, iv 0, iv 0, iv 0, iv 0, iv 0, iv 0, iv 0, iv 0]) = some (.b true) := by kernel_rfl
theorem f3k (q : Option Blk) : ∃ mz mw m1, (mS q).addZ x6 12 z12 = mz ∧ mz.wr 1 0 j8 = some mw ∧ mw.rdN 1 0 12 = some j8 ∧ Keep (mS q) m1 (fun _ => False) ∧ Ls m1 [] 0 ∧ Ran Tryz.prog tb a7J [.agg j8] mw (.tuple [.ptr 177 0, .ptr 181 0, .ptr 185 0]) m1 := by
 obtain ⟨mz, ez, az, kz, nz⟩ := x7 (g1n q) x6 12 z12
 obtain ⟨mw, ew, aw, kw, nw⟩ := az.st kz.wf 0 j8
 have e1 : (mS q).next = 1 := rfl
 rw [e1] at ew aw
 have hm : mQ q = some mw := by
  unfold mQ
  rw [ez, ew]
 obtain ⟨m1, hw1, k01, hpl, hG, hT, r1⟩ := f4V hm
 exact ⟨mz, mw, m1, ez, ew, aw.rdN (by show 0 + 12 ≤ 12; omega), k01, ⟨hw1, hpl, a6i, S0, X0, hG, hT, ⟨fs0, ⟨rfl, rfl, rfl, nofun, nofun⟩, fun k hk => ⟨fun _ => Nat.zero_le _, fun _ => nd0 _ _ _⟩, Nat.zero_le _, fun _ k hk => ps0 3 k⟩, Nat.le_of_eq g1D⟩, r1⟩
set_option maxHeartbeats 2000000 in
set_option maxRecDepth 20000 in
theorem a70 {q : Option Blk} {n : Nat} {b : Bool} (hn : n ≤ 26) {fr : Go.Am.Fr} (f0 : ev (tm 0) fr = iv n) (f1 : ev (tm 1) fr = .b b) : GX Tryz.prog tb a4C (FK Tryz.prog [.tmp 4] fun v _ => v = .b true) fr (mS q) := by
 obtain ⟨mz, mw, m1, ez, ew, hP, k01, h1, r1⟩ := f3k q
 have e1 : (mS q).next = 1 := rfl
 have hP1 := h1.pl.rdN (show 0 + 12 ≤ 12 by omega)
 have pl : ∀ {mk : M} {D c}, Ls mk D c → mk.rdN 1 0 12 = some j8 := fun h => h.pl.rdN (show 0 + 12 ≤ 12 by omega)
 simp -implicitDefEqProofs only [a1x, d3F, e1V, e0b, smallD_ran.eq, ez, e1, ew, hP, r1.eq, ↓reduceIte, Nat.reduceEqDiff, Nat.reduceAdd, List.getElem?_cons_succ, List.getElem?_cons_zero, wA, wB, wC, wD]
 refine A5 (fun j fr mk => ∃ i, i ≤ n ∧ j = n - i ∧ (ev (tm 0) fr = iv n ∧ ev (tm 1) fr = .b b ∧ ev (tm 5) fr = .ptr 1 0 ∧ ev (tm 7) fr = .ptr 181 0 ∧ ev (tm 8) fr = .ptr 185 0 ∧ ev (tm 9) fr = iv (i : Nat)) ∧ Ls mk ((List.range i).map E) i) (k := n) ⟨0, Nat.zero_le _, rfl, by simp -implicitDefEqProofs only [nc0, f0, f1, d6, ↓reduceIte, Nat.reduceEqDiff, nc0, and_self], h1⟩ ?_
 rintro j fr mk ⟨i, hi, rfl, ⟨f0, f1, f5, f7, f8, f9⟩, hL⟩
 by_cases hlt : i < n
 ·have hi26 : i < 26 := by omega
  obtain ⟨m2, e2, k2, r2⟩ := b0E hL.wf hi26
  have hne : ixD ((List.range i).map E) (E i).2 = none := f4n fun e he h => by
   obtain ⟨k, hk, rfl⟩ := List.mem_map.1 he
   have := List.mem_range.1 hk
   have := e6H (by omega) hi26 h
   omega
  obtain ⟨m3, h3, _, r3⟩ := (hL.keep k2).ins (e7Z hi26) (by omega) hne (by simp; omega)
  rw [← List.map_singleton, ← List.map_append, ← List.range_succ] at h3
  have r3 : Ran Tryz.prog tb a21 [.ptr 185 0, .ptr 181 0, .agg j8, iv 3, tv (E i).2, iv ((i : Int) + 1)] m2 (iv 0) m3 := r3
  have hC : (97 : Int) + (i : Int) = ((97 + i : Nat) : Int) := by omega
  have hmod : (97 + i) % 256 = 97 + i := by omega
  simp -implicitDefEqProofs only [a1x, b0e, c28, b9t, e5l, f0, f5, f7, f8, f9, show ((i : Int) < (n : Int)) = True from eq_true (by omega), pl hL, aD (97 : Int) (i : Int), hC, a0b, a0T, O5, hmod, e2, r2, aD (i : Int) 1, r3.eq, ↓reduceIte, Nat.reduceEqDiff, Nat.reduceLeDiff, wA, wB, wC, wD]
  exact A4 (k' := n - (i + 1)) (by omega) ⟨i + 1, by omega, rfl, by simp -implicitDefEqProofs only [f0, f1, f5, f7, f8, show (i : Int) + 1 = ((i + 1 : Nat) : Int) from rfl, d6, ↓reduceIte, Nat.reduceEqDiff, and_self], h3⟩
 ·obtain rfl : i = n := by omega
  have hlen : ((List.range i).map E).length = i := by simp
  obtain ⟨m2, x2, cs2, o2, s2, k2, r2⟩ := hL.dirty
  rw [hlen] at s2
  have hL2 := hL.keep k2
  have hq := N9 (P := Tryz.prog) (a := i + 3) (b := 4) b0 (by omega) (by omega)
  rw [show ((4 : Nat) : Int) = 4 from rfl] at hq
  have hC : (i : Int) + 3 = ((i + 3 : Nat) : Int) := rfl
  simp -implicitDefEqProofs only [a1x, b0e, c7Y, c4K, c7y, f0, f7, f8, f9, show ((i : Int) < (i : Int)) = False from eq_false (by omega), r2.eq, s2.len, aD (i : Int) 3, hC, hq, ↓reduceIte, Nat.reduceEqDiff, List.getElem?_cons_succ, List.getElem?_cons_zero, wA, wB, wC, wD]
  refine A5 (fun j fr mk => ∃ i', i' ≤ i ∧ j = i - i' ∧ (ev (tm 0) fr = iv i ∧ ev (tm 1) fr = .b b ∧ ev (tm 5) fr = .ptr 1 0 ∧ ev (tm 7) fr = .ptr 181 0 ∧ ev (tm 8) fr = .ptr 185 0 ∧ ev (tm 13) fr = iv (i' : Nat)) ∧ ∃ D, Ls mk D (i + i') ∧ D.Perm ((Rem b i i').map E)) (k := i) ⟨0, Nat.zero_le _, rfl, by simp -implicitDefEqProofs only [nc0, f0, f1, f5, f7, f8, d6, ↓reduceIte, Nat.reduceEqDiff, nc0, and_self], _, hL2, by cases b <;> exact List.Perm.refl _⟩ ?_
  clear f0 f1 f5 f7 f8 f9
  rintro j fr mk ⟨k, hk, rfl, ⟨f0, f1, f5, f7, f8, f13⟩, D, hLD, hp⟩
  by_cases hlt : k < i
  ·have hpr := f4s (b := b) hlt
   have hlr : ∀ x ∈ Rem b i k, x < 26 := fun x hx => by have := f8R x hx; omega
   cases b with
   | true =>
    have hpr : (Rem true i k).Perm ((i - 1 - k) :: Rem true i (k + 1)) := hpr
    obtain ⟨m3, e3, k3, r3⟩ := b0E hLD.wf (i := i - 1 - k) (by omega)
    obtain ⟨m4, D', h4, hp', r4⟩ := (hLD.keep k3).take hp hpr hlr (by omega)
    have hC1 : (i : Int) - 1 - (k : Int) = ((i - 1 - k : Nat) : Int) := by omega
    have hC : (97 : Int) + ((i - 1 - k : Nat) : Int) = ((97 + (i - 1 - k) : Nat) : Int) := by omega
    have hmod : (97 + (i - 1 - k)) % 256 = 97 + (i - 1 - k) := by omega
    simp -implicitDefEqProofs only [a1x, a34, a88, a9e, c3a, a9h, a9j, a9t, f0, f1, f5, f7, f8, f13, show ((k : Int) < (i : Int)) = True from eq_true (by omega), pl hLD, sB (i : Int) 1, sB ((i : Int) - 1) (k : Int), hC1, aD (97 : Int) ((i - 1 - k : Nat) : Int), hC, a0b, a0T, O5, hmod, e3, r3, r4.eq, aD (k : Int) 1, ↓reduceIte, Nat.reduceEqDiff, Nat.reduceLeDiff, wA, wB, wC, wD]
    exact A4 (k' := i - (k + 1)) (by omega) ⟨k + 1, by omega, rfl, by simp -implicitDefEqProofs only [f0, f1, f5, f7, f8, show (k : Int) + 1 = ((k + 1 : Nat) : Int) from rfl, d6, ↓reduceIte, Nat.reduceEqDiff, and_self], D', h4, hp'⟩
   | false =>
    have hpr : (Rem false i k).Perm (k :: Rem false i (k + 1)) := hpr
    obtain ⟨m3, e3, k3, r3⟩ := b0E hLD.wf (i := k) (by omega)
    obtain ⟨m4, D', h4, hp', r4⟩ := (hLD.keep k3).take hp hpr hlr (by omega)
    have hC : (97 : Int) + (k : Int) = ((97 + k : Nat) : Int) := by omega
    have hmod : (97 + k) % 256 = 97 + k := by omega
    simp -implicitDefEqProofs only [a1x, a34, a88, a9e, a9h, a9j, a9t, f0, f1, f5, f7, f8, f13, show ((k : Int) < (i : Int)) = True from eq_true (by omega), pl hLD, aD (97 : Int) (k : Int), hC, a0b, a0T, O5, hmod, e3, r3, r4.eq, aD (k : Int) 1, ↓reduceIte, Nat.reduceEqDiff, Nat.reduceLeDiff, wA, wB, wC, wD]
    exact A4 (k' := i - (k + 1)) (by omega) ⟨k + 1, by omega, rfl, by simp -implicitDefEqProofs only [f0, f1, f5, f7, f8, show (k : Int) + 1 = ((k + 1 : Nat) : Int) from rfl, d6, ↓reduceIte, Nat.reduceEqDiff, and_self], D', h4, hp'⟩
  ·obtain rfl : k = i := by omega
   have hR0 : Rem b k k = [] := by
    cases b with
    | true => show List.range (k - k) = []; rw [Nat.sub_self]; rfl
    | false => exact List.drop_of_length_le (by simp)
   rw [hR0] at hp
   obtain rfl : D = [] := List.Perm.eq_nil hp
   obtain ⟨m3, x3, cs3, o3, s3, k3, r3⟩ := hLD.dirty
   obtain ⟨m4, ps, hps, hz, k4, r4⟩ := (hLD.keep k3).get
   rw [hz rfl] at r4
   have r4 : Ran Tryz.prog tb I9 [.ptr 181 0, .ptr 185 0, iv 3] m3 (.tuple [.agg [iv 2, iv 1, iv 0, iv 0, iv 0, iv 0, iv 0, iv 0, iv 0, iv 0, iv 0, iv 0, iv 0], iv 0]) m4 := r4
   obtain ⟨m5, e5, a5, k5, n5⟩ := x7 k4.wf s9 13 z13
   obtain ⟨m6, e6, a6, k6, n6⟩ := a5.st k5.wf 0 [iv 2, iv 1, iv 0, iv 0, iv 0, iv 0, iv 0, iv 0, iv 0, iv 0, iv 0, iv 0, iv 0]
   have hl0 : H0 false x3 = some 0 := s3.len
   have L6 := a6.rdN (show 0 + 13 ≤ 13 by omega)
   simp -implicitDefEqProofs only [a1x, a34, c0e, c8t, b96, f0, f7, f8, f13, show ((k : Int) < (k : Int)) = False from eq_false (by omega), r3.eq, hl0, r4.eq, e5, e6, L6, f5Z, ↓reduceIte, Nat.reduceEqDiff, Nat.reduceAdd, Nat.reduceLeDiff, List.getElem?_cons_succ, List.getElem?_cons_zero, u6, wA, wB, wC, wD]
end
theorem f1x {q : Option Blk} {n : Int} {b : Bool} : WpF Tryz.prog tb e59 [iv n, .b b] (mS q) fun v _ => v = .b true := by
 obtain ⟨K, hK⟩ : ∃ K, K = a4C := ⟨_, rfl⟩
 have o5 : ∀ Q fr m, GX Tryz.prog tb b2l Q fr m = GX Tryz.prog tb (.seq (.reg a2y) (.seq a0U (.seq a0Z K))) Q fr m := fun _ _ _ => by rw [hK]; rfl
 refine WpF.go g1s ?_
 rw [o5]
 by_cases h1 : n < 0
 ·simp -implicitDefEqProofs only [a0U, a2v, a2F, a0Z, a2j, a2p, a2y, a4O, a4Q, a5t, a5r, wakesD_ran.eq, eq_true h1, ↓reduceIte, Nat.reduceEqDiff, Nat.reduceAdd, wA, wB, wC, wD]
  subst hK
  exact a70 (b := b) (n := 9) (by omega) (by simp -implicitDefEqProofs only [d6, ↓reduceIte]; rfl) (by simp -implicitDefEqProofs only [d6, ↓reduceIte, Nat.reduceEqDiff])
 ·by_cases h2 : 26 < n
  ·simp -implicitDefEqProofs only [a0U, a2v, a2F, a0Z, a2j, a2p, a2y, a4O, a4Q, a5t, a5r, wakesD_ran.eq, eq_false h1, eq_true h2, ↓reduceIte, Nat.reduceEqDiff, Nat.reduceAdd, wA, wB, wC, wD]
   subst hK
   exact a70 (b := b) (n := 9) (by omega) (by simp -implicitDefEqProofs only [d6, ↓reduceIte]; rfl) (by simp -implicitDefEqProofs only [d6, ↓reduceIte, Nat.reduceEqDiff])
  ·obtain ⟨a, rfl⟩ : ∃ a : Nat, n = a := ⟨n.toNat, by omega⟩
   simp -implicitDefEqProofs only [a0U, a2v, a2F, a0Z, a2j, a2p, a2y, a4O, a4Q, a5t, a5r, wakesD_ran.eq, eq_false h1, eq_false h2, ↓reduceIte, Nat.reduceEqDiff, Nat.reduceAdd, wA, wB, wC, wD]
   subst hK
   exact a70 (b := b) (n := a) (by omega) (by simp -implicitDefEqProofs only [d6, ↓reduceIte, Nat.reduceEqDiff]) (by simp -implicitDefEqProofs only [d6, ↓reduceIte, Nat.reduceEqDiff])
end Go.Proofs.YtooooiidpaecmaaGreatDoor
/- The contracts of the library's maps.Keys, slices.Sorted and slices.Sort, laid at this translation. -/
namespace Go.Proofs
open Go.RowKit Go.Maps Go.Sort Go.Shelf
def Tryz.keysW_ren : Go.Shelf.Ren := ⟨fun | 7 => 200 | 10 => 214 | n => n, fun | 23 => 118 | 26 => 3 | 3 => 33 | 28 => 301 | 0 => 0 | 27 => 300 | 33 => 39 | 4 => 4 | n => n, fun | n => n⟩
theorem Tryz.keysW : Go.Proofs.SlLaysZI.n7 Tryz.prog Tryz.keysW_ren := {
 mixed := by kernel_rfl
 f7 := ⟨Tryz.f200.name, by decide, Tryz.func200.trans (congrArg some (by kernel_rfl))⟩
 f10 := ⟨Tryz.f214.name, by decide, Tryz.func214.trans (congrArg some (by kernel_rfl))⟩
 t0 := Tryz.underlying0
 a0 := Tryz.isAgg0
 z0 := Tryz.sizeOf0
 v0 := Tryz.zeroValue0
 t4 := Tryz.underlying4
 a4 := Tryz.isAgg4
 z4 := Tryz.sizeOf4
 v4 := Tryz.zeroValue4
 t23 := Tryz.underlying118
 a23 := Tryz.isAgg118
 z23 := Tryz.sizeOf118
 v23 := Tryz.zeroValue118
 t26 := Tryz.underlying3
 a26 := Tryz.isAgg3
 z26 := Tryz.sizeOf3
 v26 := Tryz.zeroValue3
 t27 := Tryz.underlying300
 a27 := Tryz.isAgg300
 z27 := Tryz.sizeOf300
 v27 := Tryz.zeroValue300
 t28 := Tryz.underlying301
 a28 := Tryz.isAgg301
 z28 := Tryz.sizeOf301
 v28 := Tryz.zeroValue301
 t33 := Tryz.underlying39
 a33 := Tryz.isAgg39
 z33 := Tryz.sizeOf39
 v33 := Tryz.zeroValue39 }
def Tryz.keysC_ren : Go.Shelf.Ren := ⟨fun | 7 => 223 | 10 => 224 | n => n, fun | 23 => 124 | 26 => 3 | 3 => 287 | 28 => 301 | 0 => 0 | 27 => 300 | 33 => 39 | 4 => 4 | n => n, fun | n => n⟩
theorem Tryz.keysC : Go.Proofs.SlLaysZI.n7 Tryz.prog Tryz.keysC_ren := {
 mixed := by kernel_rfl
 f7 := ⟨Tryz.f223.name, by decide, Tryz.func223.trans (congrArg some (by kernel_rfl))⟩
 f10 := ⟨Tryz.f224.name, by decide, Tryz.func224.trans (congrArg some (by kernel_rfl))⟩
 t0 := Tryz.underlying0
 a0 := Tryz.isAgg0
 z0 := Tryz.sizeOf0
 v0 := Tryz.zeroValue0
 t4 := Tryz.underlying4
 a4 := Tryz.isAgg4
 z4 := Tryz.sizeOf4
 v4 := Tryz.zeroValue4
 t23 := Tryz.underlying124
 a23 := Tryz.isAgg124
 z23 := Tryz.sizeOf124
 v23 := Tryz.zeroValue124
 t26 := Tryz.underlying3
 a26 := Tryz.isAgg3
 z26 := Tryz.sizeOf3
 v26 := Tryz.zeroValue3
 t27 := Tryz.underlying300
 a27 := Tryz.isAgg300
 z27 := Tryz.sizeOf300
 v27 := Tryz.zeroValue300
 t28 := Tryz.underlying301
 a28 := Tryz.isAgg301
 z28 := Tryz.sizeOf301
 v28 := Tryz.zeroValue301
 t33 := Tryz.underlying39
 a33 := Tryz.isAgg39
 z33 := Tryz.sizeOf39
 v33 := Tryz.zeroValue39 }
def Tryz.sortedC_ren : Go.Shelf.Ren := ⟨fun | 6 => 199 | 8 => 213 | 9 => 37 | 11 => 222 | 13 => 69 | 12 => 68 | 23 => 124 | 24 => 125 | 14 => 115 | 15 => 116 | 16 => 117 | 17 => 118 | 18 => 119 | 19 => 120 | 20 => 121 | 21 => 122 | 22 => 123 | 25 => 152 | 26 => 153 | 27 => 154 | 28 => 155 | 29 => 156 | 30 => 157 | 31 => 180 | n => n, fun | 26 => 3 | 28 => 301 | 24 => 40 | 0 => 0 | 3 => 3 | 37 => 168 | 48 => 228 | 50 => 230 | 4 => 4 | 40 => 220 | 39 => 219 | 45 => 225 | 5 => 5 | 9 => 9 | 51 => 257 | 55 => 162 | 57 => 279 | 58 => 280 | 33 => 39 | n => n, fun | n => n⟩
theorem Tryz.sortedC : Go.Proofs.SlLaysZI.n6 Tryz.prog Tryz.sortedC_ren := {
 mixed := by kernel_rfl
 f6 := ⟨Tryz.f199.name, by decide, Tryz.func199.trans (congrArg some (by kernel_rfl))⟩
 f8 := ⟨Tryz.f213.name, by decide, Tryz.func213.trans (congrArg some (by kernel_rfl))⟩
 f11 := ⟨Tryz.f222.name, by decide, Tryz.func222.trans (congrArg some (by kernel_rfl))⟩
 t0 := Tryz.underlying0
 a0 := Tryz.isAgg0
 z0 := Tryz.sizeOf0
 v0 := Tryz.zeroValue0
 t24 := Tryz.underlying40
 a24 := Tryz.isAgg40
 z24 := Tryz.sizeOf40
 v24 := Tryz.zeroValue40
 t26 := Tryz.underlying3
 a26 := Tryz.isAgg3
 z26 := Tryz.sizeOf3
 v26 := Tryz.zeroValue3
 t28 := Tryz.underlying301
 a28 := Tryz.isAgg301
 z28 := Tryz.sizeOf301
 v28 := Tryz.zeroValue301
 i26 := by kernel_rfl }
def Tryz.sortC_ren : Go.Shelf.Ren := ⟨fun | 5 => 37 | 8 => 69 | 7 => 68 | 19 => 124 | 20 => 125 | 10 => 115 | 11 => 116 | 12 => 117 | 13 => 118 | 14 => 119 | 15 => 120 | 16 => 121 | 17 => 122 | 18 => 123 | 30 => 152 | 31 => 153 | 32 => 154 | 33 => 155 | 34 => 156 | 35 => 157 | 40 => 180 | n => n, fun | 23 => 40 | 25 => 3 | 3 => 3 | 32 => 168 | 22 => 40 | 0 => 0 | 44 => 228 | 46 => 230 | 4 => 4 | 36 => 220 | 35 => 219 | 41 => 225 | 5 => 5 | 9 => 9 | 53 => 257 | 57 => 162 | 63 => 279 | 64 => 280 | n => n, fun | n => n⟩
theorem Tryz.sortC : Go.Proofs.SlLaysM.n5 Tryz.prog Tryz.sortC_ren := {
 mixed := by kernel_rfl
 f5 := ⟨Tryz.f37.name, by decide, Tryz.func37.trans (congrArg some (by kernel_rfl))⟩
 f7 := ⟨Tryz.f68.name, by decide, Tryz.func68.trans (congrArg some (by kernel_rfl))⟩
 f8 := Tryz.func69.trans (congrArg some (by kernel_rfl))
 f10 := ⟨Tryz.f115.name, by decide, Tryz.func115.trans (congrArg some (by kernel_rfl))⟩
 f11 := ⟨Tryz.f116.name, by decide, Tryz.func116.trans (congrArg some (by kernel_rfl))⟩
 f12 := ⟨Tryz.f117.name, by decide, Tryz.func117.trans (congrArg some (by kernel_rfl))⟩
 f13 := ⟨Tryz.f118.name, by decide, Tryz.func118.trans (congrArg some (by kernel_rfl))⟩
 f14 := ⟨Tryz.f119.name, by decide, Tryz.func119.trans (congrArg some (by kernel_rfl))⟩
 f15 := ⟨Tryz.f120.name, by decide, Tryz.func120.trans (congrArg some (by kernel_rfl))⟩
 f16 := ⟨Tryz.f121.name, by decide, Tryz.func121.trans (congrArg some (by kernel_rfl))⟩
 f17 := ⟨Tryz.f122.name, by decide, Tryz.func122.trans (congrArg some (by kernel_rfl))⟩
 f18 := ⟨Tryz.f123.name, by decide, Tryz.func123.trans (congrArg some (by kernel_rfl))⟩
 f19 := Tryz.func124.trans (congrArg some (by kernel_rfl))
 f20 := Tryz.func125.trans (congrArg some (by kernel_rfl))
 f30 := ⟨Tryz.f152.name, by decide, Tryz.func152.trans (congrArg some (by kernel_rfl))⟩
 f31 := Tryz.func153.trans (congrArg some (by kernel_rfl))
 f32 := Tryz.func154.trans (congrArg some (by kernel_rfl))
 f33 := ⟨Tryz.f155.name, by decide, Tryz.func155.trans (congrArg some (by kernel_rfl))⟩
 f34 := ⟨Tryz.f156.name, by decide, Tryz.func156.trans (congrArg some (by kernel_rfl))⟩
 f35 := ⟨Tryz.f157.name, by decide, Tryz.func157.trans (congrArg some (by kernel_rfl))⟩
 f40 := ⟨Tryz.f180.name, by decide, Tryz.func180.trans (congrArg some (by kernel_rfl))⟩
 t0 := Tryz.underlying0
 a0 := Tryz.isAgg0
 z0 := Tryz.sizeOf0
 v0 := Tryz.zeroValue0
 t3 := Tryz.underlying3
 a3 := Tryz.isAgg3
 z3 := Tryz.sizeOf3
 v3 := Tryz.zeroValue3
 t4 := Tryz.underlying4
 a4 := Tryz.isAgg4
 z4 := Tryz.sizeOf4
 v4 := Tryz.zeroValue4
 t5 := Tryz.underlying5
 a5 := Tryz.isAgg5
 z5 := Tryz.sizeOf5
 v5 := Tryz.zeroValue5
 t9 := Tryz.underlying9
 a9 := Tryz.isAgg9
 z9 := Tryz.sizeOf9
 v9 := Tryz.zeroValue9
 t22 := Tryz.underlying40
 a22 := Tryz.isAgg40
 z22 := Tryz.sizeOf40
 v22 := Tryz.zeroValue40
 t23 := Tryz.underlying40
 a23 := Tryz.isAgg40
 z23 := Tryz.sizeOf40
 v23 := Tryz.zeroValue40
 t25 := Tryz.underlying3
 a25 := Tryz.isAgg3
 z25 := Tryz.sizeOf3
 v25 := Tryz.zeroValue3
 t32 := Tryz.underlying168
 a32 := Tryz.isAgg168
 z32 := Tryz.sizeOf168
 v32 := Tryz.zeroValue168
 t35 := Tryz.underlying219
 a35 := Tryz.isAgg219
 z35 := Tryz.sizeOf219
 v35 := Tryz.zeroValue219
 t36 := Tryz.underlying220
 a36 := Tryz.isAgg220
 z36 := Tryz.sizeOf220
 v36 := Tryz.zeroValue220
 t41 := Tryz.underlying225
 a41 := Tryz.isAgg225
 z41 := Tryz.sizeOf225
 v41 := Tryz.zeroValue225
 t44 := Tryz.underlying228
 a44 := Tryz.isAgg228
 z44 := Tryz.sizeOf228
 v44 := Tryz.zeroValue228
 t46 := Tryz.underlying230
 a46 := Tryz.isAgg230
 z46 := Tryz.sizeOf230
 v46 := Tryz.zeroValue230
 t53 := Tryz.underlying257
 a53 := Tryz.isAgg257
 z53 := Tryz.sizeOf257
 v53 := Tryz.zeroValue257
 t57 := Tryz.underlying162
 a57 := Tryz.isAgg162
 z57 := Tryz.sizeOf162
 v57 := Tryz.zeroValue162
 t63 := Tryz.underlying279
 a63 := Tryz.isAgg279
 z63 := Tryz.sizeOf279
 v63 := Tryz.zeroValue279
 t64 := Tryz.underlying280
 a64 := Tryz.isAgg280
 z64 := Tryz.sizeOf280
 v64 := Tryz.zeroValue280 }
theorem Tryz.sortsC (m : Nat) : AnyZI.SortsIn Tryz.prog Tryz.sortedC_ren Fence.wide m :=
 ⟨fun blk off cap ss W hH hblk hsz => callsIn_wide.2 (AnyM.slices_Sort_int Tryz.sortC blk off cap ss W hH hblk hsz),
  fun p cap W => callsIn_wide.2 (AnyM.slices_Sort_int_none Tryz.sortC p cap W)⟩
end Go.Proofs
namespace Go.Proofs.YtooooiidpaecmaaGreatDoor
open Go.ChangeShapes Go.WideShapes Go.ChangeAt Go.RowKit Go.Maps Go.Sort Go.Shelf
set_option maxHeartbeats 1000000 in
theorem f1T : Am.SortsKeys Tryz.prog 199 214 3 3 := {
 key := by kernel_rfl
 elem := by kernel_rfl
 enters := enters_of Tryz.func199 (by kernel_rfl) rfl
 keys := by
  intro Bm b nn D0 W hBm hcell hown hsize
  refine (callsIn_wide (n := 5)).1 ?_
  have hmax : Maps.size D0 ≤ maxLen := Nat.le_trans hsize (by decide)
  have hbytes : Maps.size D0 * 8 ≤ 140737488355328 := by omega
  have hseq : SeqGives Fence.wide 2 Tryz.prog 214 #[.pointer (some ⟨Bm, 0, none⟩)] encZ (fun ss => ss.Perm (intKeys D0)) (Maps.size D0) W :=
   AnyZI.keys_gives (ρ := Tryz.keysW_ren) { Tryz.keysW with } Fence.wide _ trivial rfl (by omega) Bm b nn D0 W hBm hcell hown
  have cS := AnyZI.sorted_in Tryz.sortedC Fence.wide 5 trivial trivial trivial trivial rfl (by omega) (Tryz.sortsC _) (enters_of Tryz.func37 (by kernel_rfl) rfl) 214 #[.pointer (some ⟨Bm, 0, none⟩)] trivial (enters_of Tryz.func214 (by kernel_rfl) rfl) _ _ hmax hbytes _ hseq
  exact cS.mono fun e w' ⟨v, ss, h1, h2, h3, h4, h5⟩ => ⟨v, ss, h1, h2, h3, h4.2, h5⟩
 none := by
  intro Bm W hBm hcell
  refine (callsIn_wide (n := 5)).1 ?_
  have hseq : SeqGives Fence.wide 2 Tryz.prog 214 #[.pointer (some ⟨Bm, 0, none⟩)] encZ (fun ss : List Int => ss = []) 0 W :=
   AnyZI.keys_gives_nil (ρ := Tryz.keysW_ren) { Tryz.keysW with } Fence.wide _ trivial rfl Bm W hBm hcell
  have cS := AnyZI.sorted_in Tryz.sortedC Fence.wide 5 trivial trivial trivial trivial rfl (by omega) (Tryz.sortsC _) (enters_of Tryz.func37 (by kernel_rfl) rfl) 214 #[.pointer (some ⟨Bm, 0, none⟩)] trivial (enters_of Tryz.func214 (by kernel_rfl) rfl) _ 0 (Nat.zero_le _) (by omega) _ hseq
  refine cS.mono fun e w' ⟨v, ss, h1, h2, h3, h4, h5⟩ => ?_
  subst h2
  obtain rfl : v = .slice none 0 0 := h4.2 rfl
  exact ⟨h1, h5⟩
 }
set_option maxHeartbeats 1000000 in
theorem f1R : Am.SortsKeys Tryz.prog 199 224 3 3 := {
 key := by kernel_rfl
 elem := by kernel_rfl
 enters := enters_of Tryz.func199 (by kernel_rfl) rfl
 keys := by
  intro Bm b nn D0 W hBm hcell hown hsize
  refine (callsIn_wide (n := 5)).1 ?_
  have hmax : Maps.size D0 ≤ maxLen := Nat.le_trans hsize (by decide)
  have hbytes : Maps.size D0 * 8 ≤ 140737488355328 := by omega
  have hseq : SeqGives Fence.wide 2 Tryz.prog 224 #[.pointer (some ⟨Bm, 0, none⟩)] encZ (fun ss => ss.Perm (intKeys D0)) (Maps.size D0) W :=
   AnyZI.keys_gives (ρ := Tryz.keysC_ren) { Tryz.keysC with } Fence.wide _ trivial rfl (by omega) Bm b nn D0 W hBm hcell hown
  have cS := AnyZI.sorted_in Tryz.sortedC Fence.wide 5 trivial trivial trivial trivial rfl (by omega) (Tryz.sortsC _) (enters_of Tryz.func37 (by kernel_rfl) rfl) 224 #[.pointer (some ⟨Bm, 0, none⟩)] trivial (enters_of Tryz.func224 (by kernel_rfl) rfl) _ _ hmax hbytes _ hseq
  exact cS.mono fun e w' ⟨v, ss, h1, h2, h3, h4, h5⟩ => ⟨v, ss, h1, h2, h3, h4.2, h5⟩
 none := by
  intro Bm W hBm hcell
  refine (callsIn_wide (n := 5)).1 ?_
  have hseq : SeqGives Fence.wide 2 Tryz.prog 224 #[.pointer (some ⟨Bm, 0, none⟩)] encZ (fun ss : List Int => ss = []) 0 W :=
   AnyZI.keys_gives_nil (ρ := Tryz.keysC_ren) { Tryz.keysC with } Fence.wide _ trivial rfl Bm W hBm hcell
  have cS := AnyZI.sorted_in Tryz.sortedC Fence.wide 5 trivial trivial trivial trivial rfl (by omega) (Tryz.sortsC _) (enters_of Tryz.func37 (by kernel_rfl) rfl) 224 #[.pointer (some ⟨Bm, 0, none⟩)] trivial (enters_of Tryz.func224 (by kernel_rfl) rfl) _ 0 (Nat.zero_le _) (by omega) _ hseq
  refine cS.mono fun e w' ⟨v, ss, h1, h2, h3, h4, h5⟩ => ?_
  subst h2
  obtain rfl : v = .slice none 0 0 := h4.2 rfl
  exact ⟨h1, h5⟩
 }
noncomputable def tbL : Am.Tb := Am.libTb Tryz.prog 199 3 [214, 224] []
theorem e4a (w0 : World) : Am.TbOk Tryz.prog w0 tbL := Am.libTb_ok (kt := 3) (fun kf h => by
 simp only [List.mem_cons, List.not_mem_nil, or_false] at h
 rcases h with rfl | rfl
 ·exact f1T
 ·exact f1R) (fun c h => by
 cases h)
theorem Tryz.own : ownKnob Tryz.prog.godebug = none := by kernel_rfl
theorem Tryz.good : Am.goodB Tryz.prog = true := by decide +kernel
end Go.Proofs.YtooooiidpaecmaaGreatDoor
/- What is known ahead holds. -/
namespace Go.Proofs.YtooooiidpaecmaaGreatDoor
open Go Go.Am Go.RowKit
theorem f24 : Am.isTrue (Am.arun Tryz.prog tbL 100000 6 [] Am.m0) = true := by decide +kernel
theorem f76 : Am.TrueAt Tryz.prog 6 := ⟨enters_of Tryz.func6 (by kernel_rfl) rfl, fun w => Am.closed_calls (Am.good_of Tryz.good) e4a f24 Tryz.func6 rfl w⟩
theorem f2T : SortsRows Tryz.prog 37 := {
 enters := enters_of Tryz.func37 (by kernel_rfl) rfl
 sort := fun blk off cap ss W hH hblk hsz => Go.Proofs.AnyM.slices_Sort_int Tryz.sortC blk off cap ss W hH hblk hsz
 none := fun p cap W => Go.Proofs.AnyM.slices_Sort_int_none Tryz.sortC p cap W }
noncomputable def tb2 : Tb := a8e (a8v tbL [6]) 37
theorem d2t (w0 : World) : TbOk Tryz.prog w0 tb2 := f1f (Am.withTrue_ok (e4a w0) fun g h => by
 simp only [List.mem_cons, List.not_mem_nil, or_false] at h
 subst h
 exact f76) f2T
def d4N : Value := .agg #[.int .i64 64, .int .i64 90, .int .i64 6, .int .i64 30, .int .i64 2, .int .i64 32, .int .i64 1, .int .i64 33, .int .i64 1, .int .i64 34, .int .i64 3, .int .i64 37]
theorem b8A (ρ : Ren) : d5 ρ V3 = some d4N := rfl
theorem f3j : Am.isVal V3 (Am.arun Tryz.prog tb2 100000 7 [] Am.m0) = true := by decide +kernel
theorem f8f : Am.ValAt Tryz.prog 7 V3 d4N := ⟨enters_of Tryz.func7 (by kernel_rfl) rfl, b8A, fun w => Am.closed_val (Am.good_of Tryz.good) d2t f3j b8A Tryz.func7 rfl w⟩
theorem d42 (w0 : World) : TbOk Tryz.prog w0 tb0 := f1O (d2t w0) f8f
theorem f9e : cls.all (fun c => isVal c.x (arun Tryz.prog tb0 100000 c.g c.args m0)) = true := by decide +kernel
theorem g1S : ∀ c ∈ cls, ClOk Tryz.prog tb0 c := fun c hc => by
 have hr := List.all_eq_true.1 f9e c hc
 unfold cls at hc
 simp only [List.mem_cons, List.not_mem_nil, or_false] at hc
 rcases hc with rfl | rfl | rfl | rfl
 ·exact ⟨⟨fun args w => enters_of Tryz.func53 (by kernel_rfl) rfl args w, _, _, Tryz.func53, rfl⟩, hr, ⟨_, fun ρ => rfl⟩, _, fun ρ => rfl⟩
 ·exact ⟨⟨fun args w => enters_of Tryz.func74 (by kernel_rfl) rfl args w, _, _, Tryz.func74, rfl⟩, hr, ⟨_, fun ρ => rfl⟩, _, fun ρ => rfl⟩
 ·exact ⟨⟨fun args w => enters_of Tryz.func56 (by kernel_rfl) rfl args w, _, _, Tryz.func56, rfl⟩, hr, ⟨_, fun ρ => rfl⟩, _, fun ρ => rfl⟩
 ·exact ⟨⟨fun args w => enters_of Tryz.func56 (by kernel_rfl) rfl args w, _, _, Tryz.func56, rfl⟩, hr, ⟨_, fun ρ => rfl⟩, _, fun ρ => rfl⟩
theorem f9i (w0 : World) : TbOk Tryz.prog w0 tbA := f2R (Am.good_of Tryz.good) d42 g1S
theorem g1j (w0 : World) : TbOk Tryz.prog w0 tb := f2m (Am.good_of Tryz.good) (f9i w0) fun g hg => by
 simp only [List.mem_cons, List.not_mem_nil, or_false] at hg
 subst hg
 exact ⟨fun args w => enters_of Tryz.func8 (by kernel_rfl) rfl args w, _, _, Tryz.func8, rfl⟩
end Go.Proofs.YtooooiidpaecmaaGreatDoor
set_option linter.unusedSimpArgs false
set_option linter.unusedVariables false
/- The law 'skerrylaw15.DirGives' returns true for every number and both answers to its question; the card's listed variables are those of the program's text. Conditions: none beyond those that the statement itself has. -/
namespace Go.Proofs.YtooooiidpaecmaaGreatDoor
open Go Go.Am Go.ChangeShapes Go.WideShapes Go.ChangeAt Go.ChangeMaps Go.RowKit Go.Deep
theorem c7H {ρ : Ren} {x : AV} {v : Value} (h : d5 ρ x = some v) {l : List AV} {vs : List Value} (k : g7 ρ l = some vs) : g7 ρ (x :: l) = some (v :: vs) := l7.2 ⟨v, vs, h, k, rfl⟩
theorem f49 (W : World) : ∃ ρ, Sim Tryz.prog W ρ (mS none) W := by
 obtain ⟨k1, _⟩ := (Sim.start (P := Tryz.prog) W).bump ⟨0, 0, 0⟩
 exact ⟨_, k1.same (fun b => by rw [b0c, M.get_bump, a2o]; split <;> rfl) rfl⟩
set_option maxRecDepth 100000 in
theorem e91 (os : Os) (started : os.Started) (H : Type) (enc : TypeId × Value → H) :
  ReturnsInHanded {} Tryz.checked os 4 .any (fun w args => (Rows.dirGivesSpec.pre enc Tryz.prog Tryz.f4 [] false w args ∧ laidMetH Tryz.prog Rows.dirGivesRow.laid w) ∧ sizedMet enc Tryz.prog Tryz.f4 (OpenSpec.ofChange Rows.dirGivesSpec) false w args)
   (Rows.dirGivesSpec.post enc Tryz.prog Tryz.f4 false true false false) := by
 refine returnsInHanded_of_change_and (C := Tryz.checked) (X := fun w _ => laidMetH Tryz.prog Rows.dirGivesRow.laid w) (fun _ _ _ hh h => h.of_heap hh) Tryz.own started (by kernel_rfl) Tryz.func4
  (ChangeSpec.witness_shaped (enc := enc) (C := Tryz.checked) (os := os) (X := fun w _ => laidMetH Tryz.prog Rows.dirGivesRow.laid w) false (World.laidAll Tryz.prog os Rows.dirGivesRow.laid) #[.int .i64 0, .bool false] 8 (World.laidAll_os _ _ _)
   (World.shaped_of_ZipB (by kernel_rfl) (by kernel_rfl)) (by kernel_rfl) (by kernel_rfl) (by kernel_rfl)
   (by rw [MakeChecks.laidMetH_plain _ _ _ (by kernel_rfl)]; exact laidMet_laidAll _ (by kernel_rfl) (by kernel_rfl))) ?_
 intro W base args ds gs before hval0 hW _ _ hL _
 have hval : ∀ (j : Nat) t v, Tryz.f4.params[j]? = some t → args[j]? = some v → Value.okWide Tryz.prog W .any base t v := hval0
 have hW' := hW
 obtain ⟨p, q, hA0, hV, rfl, hfz, hnd⟩ := hW
 have hA : DataW.TrodAll enc Tryz.prog W 0 (fun _ => true) true Tryz.f4.params.toList args.toList ds p := hA0
 rw [Tryz.params4] at hA hval
 obtain ⟨v0, v1, d0, d1, p0, p1, rfl, rfl, rfl, h0, h1⟩ := trodAll_two hA
 obtain ⟨rfl, rfl⟩ := trodVars_none hV
 obtain ⟨a, rfl, rfl, rfl, wa⟩ := open_int Tryz.underlying3 (hval 0 3 v0 rfl rfl) h0
 obtain ⟨b, rfl, rfl, rfl⟩ := open_bool Tryz.underlying4 (hval 1 4 v1 rfl rfl) h1
 obtain ⟨ρ1, hs1⟩ := f49 W
 refine (f6p (Am.good_of Tryz.good) g1j (f1x (q := none) (n := a) (b := b)) (c7H (v := .int .i64 a) (f5m ρ1 .i64 a) (c7H (v := .bool b) (Am.conc_b b) (l4 ρ1))) hs1 Tryz.func4 rfl).mono fun e W' ⟨he, hb⟩ => ?_
 subst he
 exact ⟨_, rfl, f2x hW' (fun _ _ _ => trodAll_mk1 (shut_bool Tryz.underlying4 true)) (trodAll_mk2 (shut_int Tryz.underlying3 wa) (shut_bool Tryz.underlying4 b)) rfl hb⟩
theorem f0z : Rows.DirGivesSaid :=
 OpenClaim.holds_of_wide 4 Tryz.f4 rfl rfl rfl rfl rfl rfl rfl ⟨rfl, rfl, rfl, rfl, rfl⟩ rfl rfl rfl rfl rfl (by kernel_rfl) Tryz.func4 (by kernel_rfl)
  (of_decide_eq_true (by kernel_rfl)) (by unfold Func.isWrapper; first | (rw [if_pos (by decide +kernel)]; kernel_rfl) | (rw [if_neg (by decide +kernel)]; exact ⟨rfl, rfl⟩))
  (fun os started H enc _ => e91 os started H enc)
end Go.Proofs.YtooooiidpaecmaaGreatDoor
namespace Go.Proofs.YtooooiidpaecmaaGreatDoor
open Go Go.Am Go.ChangeShapes Go.WideShapes Go.ChangeAt Go.ChangeMaps Go.RowKit Go.Deep
theorem dirGives_card : Rows.DirGivesCardSaid :=
 Claim7.holds_tied_plain_at .later [] [.data, .pinned] true (true, "ddef3db846584d53f138c810d6efd84787f5f89495365acd8514a08512c391dd") false f0z (fun _ h => by cases h) (by kernel_rfl) (fun _ h => by cases h) dirGives_row_tie rfl ⟨rfl, rfl⟩ (by kernel_rfl) rfl
  (fun f fn hf hfn => by
   obtain rfl : f = 4 := Option.some.inj ((show Tryz.prog.funcNamed Rows.dirGivesRow.func = some 4 by kernel_rfl).symm.trans hf) |>.symm
   obtain rfl : fn = Tryz.f4 := (Option.some.inj (Tryz.func4.symm.trans hfn)).symm
   exact ⟨by kernel_rfl, fun j t ht => by
    rw [Tryz.params4] at ht
    have hm : t ∈ [3, 4] := by simpa using Array.mem_of_getElem? ht
    have hall : ([3, 4].all fun u => !Tryz.prog.wantsStandIn u) = true := by kernel_rfl
    exact (show Tryz.prog.wantsStandIn t = false by simpa using List.all_eq_true.1 hall t hm)⟩)
  (by kernel_rfl)
#print axioms dirGives_card
end Go.Proofs.YtooooiidpaecmaaGreatDoor
