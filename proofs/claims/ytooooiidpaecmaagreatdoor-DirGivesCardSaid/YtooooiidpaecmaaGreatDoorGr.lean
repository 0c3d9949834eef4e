import Derived.Test.YtooooiidpaecmaaGreatDoorGn
import Derived.Test.YtooooiidpaecmaaGreatDoorJs
set_option linter.unusedVariables false
set_option linter.unusedSimpArgs false
/- A file's block that is made. -/
namespace Go.Proofs.YtooooiidpaecmaaGreatDoor
open Go Go.Am
abbrev I2 : List Nat := [2, 3]
theorem L7 {i : Nat} (h : i ∈ I2) : i = 2 ∨ i = 3 := by simpa using h
theorem K5 {i : Nat} (h : i ∈ I2) : 34 + i / 2 = 35 := by rcases L7 h with rfl | rfl <;> rfl
section
variable {m m' : M} {A : Ad} {S T : PS} {own : Nat → Prop} {tt aa : Nat} {X Y : Nat → Ino} {i : Nat} {q : Pa}
theorem Inv.ps (h : Inv T I2 X) (hi : i ∈ I2) {k : Nat} (hk : k < 10) : (X i).ps[k]? = some (nd T (X i) (.r k)) := by
 have := (h.ino i hi).2.2.len
 show _ = some ((X i).ps.getD k 0)
 rw [List.getD_eq_getElem?_getD, List.getElem?_eq_getElem (by omega)]; rfl
theorem a8Z (hw : Wf m) (h : GAt m A T own) (ht : TAt m tt aa A.g) (hI : Inv T I2 X) (hi : i ∈ I2) (hq : q.ok) {c : Nat} (hc : (∃ k, q = .r k ∧ c = 0) ∨ ∃ w, q.up = some w ∧ nd T (X i) w = c ∧ c ≠ 0) :
  ∃ m', Keep m m' (fun _ => False) ∧ Ran Tryz.prog tb W8 [.ptr tt 0, .ptr A.o 0, .agg [iv i, iv c, iv q.at]] m (.tuple [iv (nd T (X i) q), iv 0]) m' := by
 rcases hc with ⟨k, rfl, rfl⟩ | ⟨w, hw', rfl, h0⟩
 ·obtain ⟨_, h1, h2⟩ := hI.ino i hi
  exact f2G hw h ht (L7 hi) h1 h2 (Inv.ps hI hi hq)
 ·obtain ⟨w1, w2, w3⟩ := v6 hw' hq
  obtain ⟨t, g1, g2⟩ := hI.blk i hi w w1 w2 h0
  have hr := hI.rng hi w1 h0
  have e : nd T (X i) q = p16 t q.at := by
   rw [J3 T (X i) hw']
   unfold ptz
   rw [if_neg h0, g1]
  rw [e]
  exact a8p hw h hr.2 h0 g1 w3
theorem f4u (hw : Wf m) {t : Bk} {b : Nat} (h : GAt m A (T.wr 33 (v8 t b true)) own) (ht : TAt m tt aa A.g) (hI : Inv T I2 X) (hi : i ∈ I2) (hq : q.ok) (hb : b < 90) {c : Nat} (hc : (∃ k, q = .r k ∧ c = 0) ∨ ∃ w, q.up = some w ∧ nd T (X i) w = c ∧ c ≠ 0) :
  ∃ m' own' c' u x', Step m m' A ((T.wr 33 (v8 t b true)).wr c' u) own own' ∧ Ran Tryz.prog tb W6 [.ptr tt 0, .ptr A.o 0, .agg [iv i, iv c, iv q.at], iv b] m (iv 0) m' ∧
   (∀ k, x'.ps.getD k 0 = if q = .r k then b else (X i).ps.getD k 0) ∧ x'.Ok ∧ (x'.kind = (X i).kind ∧ x'.links = (X i).links ∧ x'.size = (X i).size) ∧
   ((∃ k, q = .r k ∧ c' = 35 ∧ InoAt (T.wr c' u) i x' ∧ (∀ j ∈ I2, j ≠ i → InoAt (T.wr c' u) j (X j))) ∨ (∃ w tc, q.up = some w ∧ c' = nd T (X i) w ∧ c' ≠ 0 ∧ T.rd c' = some tc ∧ tc.length = 64 ∧ u = D5 tc q.at b ∧ x' = X i)) := by
 rcases hc with ⟨k, rfl, rfl⟩ | ⟨w, hw', rfl, h0⟩
 ·obtain ⟨_, h1, h2⟩ := hI.ino i hi
  have hk : k < 10 := hq
  obtain ⟨u0, g1, g2, g3⟩ := id h1
  rw [K5 hi] at g1
  have h1' : InoAt (T.wr 33 (v8 t b true)) i (X i) := h1.ne (by rw [K5 hi]; exact PS.wr_ne _ _ (by omega))
  obtain ⟨m', own', st, r⟩ := b6j hw h ht (L7 hi) h1' h2 (t := u0) (by rw [PS.wr_ne _ _ (by omega)]; exact g1) (k := k) (v := b) hk (by omega)
  have hl : ({ X i with ps := (X i).ps.set k b } : Ino).ps.length = 10 := by show ((X i).ps.set k b).length = 10; rw [List.length_set]; exact h2.len
  have hput := InoAt.put (S := T) (i := i) (x := X i) (y := { X i with ps := (X i).ps.set k b }) hl (by rw [K5 hi]; exact g1) g2
  rw [K5 hi] at hput
  refine ⟨m', own', 35, _, { X i with ps := (X i).ps.set k b }, st, r, fun j => ?_, ⟨h2.k1, h2.k2, h2.ln, h2.sz, hl, fun p hp => ?_⟩, ⟨rfl, rfl, rfl⟩, .inl ⟨k, rfl, rfl, hput.1, fun j hj hji => hput.2 j (X j) hji (hI.ino j hj).2.1⟩⟩
  ·show ((X i).ps.set k b).getD j 0 = _
   rw [List.getD_eq_getElem?_getD, List.getElem?_set]
   by_cases hj : k = j
   ·subst hj
    rw [if_pos rfl, if_pos rfl, if_pos (by rw [h2.len]; exact hk)]; rfl
   ·rw [if_neg hj, if_neg (fun e => hj (by cases e; rfl)), List.getD_eq_getElem?_getD]
  ·rcases List.mem_or_eq_of_mem_set hp with hp | rfl
   ·exact h2.p p hp
   ·omega
 ·obtain ⟨w1, w2, w3⟩ := v6 hw' hq
  obtain ⟨tc, g1, g2⟩ := hI.blk i hi w w1 w2 h0
  have hr := hI.rng hi w1 h0
  obtain ⟨m', own', st, r⟩ := b7t hw h (i := i) (c := nd T (X i) w) (a := q.at) (v := b) (t := tc) hr.1 hr.2 (by rw [PS.wr_ne _ _ (by omega)]; exact g1) w3 (by omega)
  refine ⟨m', own', nd T (X i) w, D5 tc q.at b, X i, st, r, fun k => ?_, (hI.ino i hi).2.2, ⟨rfl, rfl, rfl⟩, .inr ⟨w, tc, hw', rfl, h0, g1, g2, rfl, rfl⟩⟩
  rw [if_neg]
  rintro rfl
  cases hw'
theorem f6v {T : PS} {t : Bk} (ht : T.rd 33 = some t) (h : ∀ b, 37 ≤ b → b < 90 → bt t b = true ∨ T.kp b = true) : a3m T := fun b h1 h2 => by
 unfold tkn
 rw [ht, Bool.or_eq_true]
 exact h b h1 h2
theorem f3l {p : Pa} {mB : M} {sl : Nat} {R : Am.X → Fr → M → Prop} {fr : Fr} {blk : Nat} (hwB : Wf mB) (h : GAt mB A T own) (ht : TAt mB tt aa A.g) (hM : Mk I2 S X T Y i p) (hi : i ∈ I2) (hq : q.ok) (hp : p.ok) (hqp : q = p ∨ q.inn)
  (aS : At mB sl B7 true [iv i, iv blk, iv q.at]) (hc : (∃ k, q = .r k ∧ blk = 0) ∨ ∃ w, q.up = some w ∧ nd T (Y i) w = blk ∧ blk ≠ 0)
  (f0 : ev (tm 0) fr = .ptr tt 0) (f1 : ev (tm 1) fr = .ptr A.o 0) (f12 : ev (tm 12) fr = .ptr sl 0)
  (hret : nd T (Y i) q = 0 → a3m T → ∀ fr' m', Keep mB m' (fun _ => False) → ev (tm 8) fr' = iv 0 → ev (tm 9) fr' = .b false → ev (tm 10) fr' = iv 10 → R .ret fr' m')
  (hold : nd T (Y i) q ≠ 0 → ∀ fr' m', Keep mB m' (fun x => x = sl) → At m' sl B7 true [iv i, iv (nd T (Y i) q), iv q.at] → ev (tm 8) fr' = iv (nd T (Y i) q) → ev (tm 9) fr' = .b false → (∀ t ∈ [0, 1, 12, 31, 32, 33], ev (tm t) fr' = ev (tm t) fr) → R .normal fr' m')
  (hnew : nd T (Y i) q = 0 → ∀ fr' m' own' Sn V Y' (b : Nat), o6 V ≤ o6 T + 1 → GAt m' A Sn own' → (∀ x, own' x → own x ∨ mB.next ≤ x) → Keep mB m' (fun x => x = sl ∨ x ∈ A.ms) → At m' sl B7 true [iv i, iv b, iv q.at] → Mk I2 S X V Y' i p → nd V (Y' i) q = b → 37 ≤ b → b < 90 → (q.inn → V = Sn.wr b z64) → (¬ q.inn → V = Sn) → (q ≠ p → nd V (Y' i) p = nd T (Y i) p) →
   ev (tm 8) fr' = iv b → ev (tm 9) fr' = .b true → (∀ t ∈ [0, 1, 12, 31, 32, 33], ev (tm t) fr' = ev (tm t) fr) → R .normal fr' m') : GX Tryz.prog tb a37 R fr mB := by
 obtain ⟨m1, k1, r1⟩ := a8Z hwB h ht hM.inv hi hq hc
 have hl : mB.rdN sl 0 3 = some [iv i, iv blk, iv q.at] := aS.rdN (by show 0 + 3 ≤ 3; omega)
 have aS1 := aS.keep hwB k1 id
 by_cases h0 : nd T (Y i) q = 0
 ·rw [h0, nc0] at r1
  obtain ⟨t, g1, g2, g3⟩ := hM.inv.bm
  have h1 := h.k0 hwB k1
  have ht1 := ht.k0 hwB k1
  have hra : m1.rd tt (0 + 0) = some (.ptr aa 0) := by rw [ht1.t.rd]; rfl
  have rB : WpF Tryz.prog tb a5J [.ptr aa 0, .ptr A.o 0] m1 fun v m' => (∃ (own' : Nat → Prop) (b : Nat), v = .tuple [iv b, iv 0] ∧ 37 ≤ b ∧ b < 90 ∧ bt t b = false ∧ Step m1 m' A (T.wr 33 (v8 t b true)) own own') ∨ (v = .tuple [iv 0, iv 10] ∧ a3m T ∧ Keep m1 m' (fun _ => False)) :=
   f2A k1.wf h1 ht1.a g1 (fun m' own' b b1 b2 b3 _ st => .inl ⟨own', b, rfl, b1, b2, b3, st⟩) (fun hf m' k => .inr ⟨rfl, f6v g1 hf, k⟩)
  obtain ⟨v, m2, hv, r2⟩ := rB.ran
  rcases hv with ⟨own', b, rfl, b1, b2, b3, st⟩ | ⟨rfl, hfull, k2⟩
  ·have hw2 := st.kp.wf
   obtain ⟨m3, own3, c', u, x', st3, r3, q1, q2, q3, q4⟩ := f4u hw2 st.at' (ht1.kp k1.wf st.kp) hM.inv hi hq b2 hc
   have aS2 := aS1.kp k1.wf st.kp
   have aS3 := aS2.kp hw2 st3.kp
   have hl2 : m2.rdN sl 0 3 = some [iv i, iv blk, iv q.at] := aS2.rdN (by show 0 + 3 ≤ 3; omega)
   obtain ⟨m4, e4, a4, k4, n4⟩ := aS3.st st3.kp.wf 1 [iv b]
   have hb0 : ((b : Nat) : Int) ≠ 0 := by omega
   obtain ⟨V, v1, v2, v3, v4, v5⟩ := hM.inv.made hi hq h0 g1 g2 b1 b2 b3 q1 q2 q4
   have hMV : Mk I2 S X V (upx Y i x') i p := hM.step hi hq hqp h0 (c := c') (by omega) v1 q3 v2 v5 (by
    rcases q4 with ⟨_, _, rfl, _⟩ | ⟨w, tc, hw', rfl, hc0, _⟩
    ·exact .inl (by omega)
    ·exact .inr ⟨w, (v6 hw' hq).1, (v6 hw' hq).2.1, hc0, rfl⟩)
   have hc33 : c' ≠ 33 := by
    rcases q4 with ⟨_, _, rfl, _⟩ | ⟨w, tc, hw', rfl, hc0, _⟩
    ·omega
    ·have := (hM.inv.rng hi (v6 hw' hq).1 hc0).1; omega
   have hcV : o6 V ≤ o6 T + 1 := by
    have e1 := f6N g1 g2 b1 b2
    have e2 := a2D (S := T.wr 33 (v8 t b true)) hc33 u
    by_cases hin : q.inn
    ·rw [← v3 hin]
     have e3 := a2D (S := (T.wr 33 (v8 t b true)).wr c' u) (b := b) (by omega) z64
     omega
    ·rw [← v4 hin]; omega
   simp -implicitDefEqProofs only [S6, a4r, a38, a3Z, a4b, a9q, a8H, c6m, c54, a9v, a7C, f0, f1, f12, hl, r1.eq, hra, r2.eq, hl2, r3.eq, e4, ↓reduceIte, Nat.reduceEqDiff, List.getElem?_cons_succ, List.getElem?_cons_zero, wA, wB, wC, wD]
   have st13 : Step mB m3 A ((T.wr 33 (v8 t b true)).wr c' u) own own3 := Step.ft k1 (st.trans st3)
   have hsl : kd m3 sl (B7 + 1) := aS3.kd
   refine hnew h0 _ m4 own3 _ V (upx Y i x') b hcV (st13.at'.kp st13.kp.wf (E := [B7 + 1]) (k4.k1 hsl)) st13.ow ((st13.kp.mono fun x _ e => ?_).trans k4 fun _ _ e => .inl e) a4 hMV ?_ b1 b2 (fun hin => (v3 hin).symm) (fun hin => (v4 hin).symm) (fun hne => ?_) (by simp -implicitDefEqProofs only [d6, ↓reduceIte, Nat.reduceEqDiff]) (by simp -implicitDefEqProofs only [d6, ↓reduceIte, Nat.reduceEqDiff]) ?_
   ·rcases e with ⟨_, h1, _⟩ | ⟨h1, _⟩
    ·cases h1
    ·exact .inr h1
   ·rw [v2 i hi q hq, if_pos ⟨rfl, rfl⟩]
   ·rw [v2 i hi p hp, if_neg fun e => hne e.2.symm]
   ·intro t' htm
    simp only [List.mem_cons, List.not_mem_nil, or_false] at htm
    rcases htm with rfl | rfl | rfl | rfl | rfl | rfl <;> simp -implicitDefEqProofs only [d6, ↓reduceIte, Nat.reduceEqDiff]
  ·simp -implicitDefEqProofs only [S6, a4r, a38, a3Z, a4b, a9q, a8H, c9k, a7C, f0, f1, f12, hl, r1.eq, hra, r2.eq, show ((10 : Int) = 0) = False from eq_false (by omega), ↓reduceIte, Nat.reduceEqDiff, List.getElem?_cons_succ, List.getElem?_cons_zero, wA, wB, wC, wD]
   exact hret h0 hfull _ m2 (k1.tf k2) (by simp -implicitDefEqProofs only [d6, ↓reduceIte, Nat.reduceEqDiff]) (by simp -implicitDefEqProofs only [d6, ↓reduceIte, Nat.reduceEqDiff]) (by simp -implicitDefEqProofs only [d6, ↓reduceIte])
 ·have hz : ((nd T (Y i) q : Nat) : Int) ≠ 0 := by omega
  obtain ⟨m2, e2, a2, k2, n2⟩ := aS1.st k1.wf 1 [iv (nd T (Y i) q)]
  simp -implicitDefEqProofs only [S6, a4r, a38, a3Z, a4b, a9v, a7C, f0, f1, f12, hl, r1.eq, eq_false hz, e2, ↓reduceIte, Nat.reduceEqDiff, List.getElem?_cons_succ, List.getElem?_cons_zero, wA, wB, wC, wD]
  refine hold h0 _ m2 (k1.ft k2) a2 (by simp -implicitDefEqProofs only [d6, ↓reduceIte, Nat.reduceEqDiff]) (by simp -implicitDefEqProofs only [d6, ↓reduceIte, Nat.reduceEqDiff]) ?_
  intro t htm
  simp only [List.mem_cons, List.not_mem_nil, or_false] at htm
  rcases htm with rfl | rfl | rfl | rfl | rfl | rfl <;> simp -implicitDefEqProofs only [d6, ↓reduceIte, Nat.reduceEqDiff]
theorem d0L {p q : Pa} {n : Nat} {x : Ino} (hp : p.ok) (hq : p.way[n]? = some q) (h0 : nd T x q = 0) : nd T x p = 0 := by
 have key : ∀ d n q, n + d + 1 = p.way.length → p.way[n]? = some q → nd T x q = 0 → nd T x p = 0 := by
  intro d
  induction d with
  | zero => intro n q e h1 h2; rw [← a1Z h1 (by omega)]; exact h2
  | succ d ih =>
   intro n q e h1 h2
   have h3 : p.way[n + 1]? = some p.way[n + 1] := List.getElem?_eq_getElem (by omega)
   refine ih (n + 1) _ (by omega) h3 ?_
   rw [J3 T x (a5f h1 h3), h2]; exact O3 _ _
 have hn := (List.getElem?_eq_some_iff.1 hq).1
 exact key (p.way.length - n - 1) n q (by omega) hq h0
structure Way (S : PS) (X : Nat → Ino) (i : Nat) (p : Pa) (k : Nat) (Sk T : PS) (Y : Nat → Ino) (fr : Bool) (blk : Nat) : Prop where
 w : Mk I2 S X T Y i p
 z : k = 0 → fr = false ∧ blk = 0
 s : ∀ j q, k = j + 1 → p.way[j]? = some q → nd T (Y i) q = blk ∧ blk ≠ 0 ∧ (fr = true → q.inn → T = Sk.wr blk z64 ∧ 37 ≤ blk ∧ blk < 90) ∧ (fr = true → ¬ q.inn → T = Sk)
 f : fr = false → T = Sk
 l : k < p.way.length → nd T (Y i) p = nd S (X i) p
 e : k = p.way.length → fr = decide (nd S (X i) p = 0)
 c : o6 T ≤ o6 S + k
theorem c5Z : (List.replicate 64 [AV.y 0]).flatten = i5 z64 := by
 unfold z64
 rw [a8g, Z0]; rfl
def b1T (m : M) (A : Ad) (tt : Nat) (S : PS) (own : Nat → Prop) (X : Nat → Ino) (i : Nat) (p : Pa) (r sl : Nat) (j : Nat) (fr : Fr) (mk : M) : Prop :=
 ∃ (n : Nat) (Sk : PS) (own' : Nat → Prop) (T : PS) (Y : Nat → Ino) (f : Bool) (blk : Nat) (lst : AV), n ≤ p.way.length ∧ j = p.way.length - n ∧ (ev (tm 0) fr = .ptr tt 0 ∧ ev (tm 1) fr = .ptr A.o 0 ∧ ev (tm 12) fr = .ptr sl 0 ∧ ev (tm 31) fr = .slice r 0 p.way.length p.way.length false ∧ ev (tm 32) fr = iv p.way.length ∧ ev (tm 33) fr = iv n ∧ ev (tm 9) fr = .b f ∧ (n ≠ 0 → ev (tm 8) fr = iv blk)) ∧
  Way S X i p n Sk T Y f blk ∧ Step m mk A Sk own own' ∧ At mk sl B7 true [iv i, iv blk, lst] ∧ At mk r b0 true ((p.way.map Pa.at).map ivn)
set_option maxHeartbeats 1000000 in
theorem f4Z (hw : Wf m) (h : GAt m A S own) (ht : TAt m tt aa A.g) (hI : Inv S I2 X) (hi : i ∈ I2) {k : Nat} (hk : k ≤ 1063) {Q : AV → M → Prop}
  (hQ1 : ∀ m' own' T Y b, o6 T ≤ o6 S + (d9 k).way.length → Mk I2 S X T Y i (d9 k) → nd T (Y i) (d9 k) = b → b ≠ 0 → Step m m' A T own own' → Q (.tuple [iv b, .b (decide (nd S (X i) (d9 k) = 0)), iv 0]) m')
  (hQ2 : ∀ m' own' T Y, a3m T → o6 T ≤ o6 S + (d9 k).way.length → Mk I2 S X T Y i (d9 k) → nd S (X i) (d9 k) = 0 → nd T (Y i) (d9 k) = 0 → Step m m' A T own own' → Q (.tuple [iv 0, .b false, iv 10]) m') :
  WpF Tryz.prog tb b17 [.ptr tt 0, .ptr A.o 0, iv i, iv k] m Q := by
 obtain ⟨hpok, hpin⟩ := C7 hk
 obtain ⟨m1, r, a1, k1, n1, r1⟩ := b7l hw hk
 obtain ⟨hL1, hL3⟩ := c0f (d9 k)
 generalize d9 k = p at *
 obtain ⟨m2, e2, a2, k2, n2⟩ := x7 k1.wf B7 3 [iv 0, iv 0, iv 0]
 obtain ⟨m3, e3, a3, k3, n3⟩ := a2.st k2.wf 0 [iv i, iv 0, iv 0]
 have k02 := k1.tf k2
 have hn1 := k1.next
 have k03 : Keep m m3 fun _ => False := k02.trans k3 fun b hb e => by omega
 have hp : m.rdN tt 1 12 = some j8 := ht.t.rdN (by show 1 + 12 ≤ 14; omega)
 have hrp : y4 3 [iv 0] = [iv 0, iv 0, iv 0] := rfl
 have hr1 := a1.lt k1.wf
 have a13 := (a1.keep k1.wf k2 id).keep k2.wf k3 (by omega)
 have h3 := h.k0 hw k03
 refine WpF.go g09 ?_
 simp -implicitDefEqProofs only [S6, d5G, d3y, d09, d6B, d3Q, d7o, a08, hp, r1.eq, e2, e3, ↓reduceIte, Nat.reduceEqDiff, Nat.reduceAdd, Nat.reduceLeDiff, List.getElem?_cons_succ, List.getElem?_cons_zero, wA, wB, wC, wD]
 refine A5 (b1T m A tt S own X i p r m1.next) (k := p.way.length)
  ⟨0, S, own, S, X, false, 0, iv 0, Nat.zero_le _, rfl, by simp -implicitDefEqProofs only [nc0, d6, ↓reduceIte, Nat.reduceEqDiff, nc0, true_and]; exact fun h => absurd rfl h, ⟨.refl hI, fun _ => ⟨rfl, rfl⟩, fun j q e => by omega, fun _ => rfl, fun _ => rfl, fun e => by omega, Nat.le_refl _⟩, ⟨h3, fun _ => .inl, k03.k0⟩, a3, a13⟩ ?_
 rintro j fr mk ⟨n, Sk, own', T, Y, f, blk, lst, hn, rfl, ⟨f0, f1, f12, f31, f32, f33, f9, f8⟩, hW, st, aS, aR⟩
 have hwk := st.kp.wf
 by_cases hlt : n < p.way.length
 ·have hq0 : p.way[n]? = some p.way[n] := List.getElem?_eq_getElem hlt
  generalize p.way[n] = q at hq0
  have hqok := b1c hpok hq0
  have hqp : q = p ∨ q.inn := by
   by_cases e : n + 1 = p.way.length
   ·exact .inl (a1Z hq0 e)
   ·exact .inr (a8Y hpok hq0 (by omega))
  have hsr : mk.rd r n = some (iv q.at) := by
   rw [aR.rd, List.getElem?_map, List.getElem?_map, hq0]; rfl
  have hia := B9 (m := mk) 1 r 0 p.way.length p.way.length false hlt
  rw [Nat.zero_add, Nat.mul_one] at hia
  obtain ⟨mA, eA, aA, kA, nA⟩ := aS.st hwk 2 [iv q.at]
  have stA : Step m mA A Sk own own' := st.row kA (by omega) aS.kd (by decide)
  have aRA := aR.keep hwk kA (fun e => absurd (aR.kd.inj (e ▸ aS.kd)) (by decide))
  have hc : (∃ k, q = .r k ∧ blk = 0) ∨ ∃ w, q.up = some w ∧ nd T (Y i) w = blk ∧ blk ≠ 0 := by
   cases n with
   | zero =>
    obtain ⟨k', rfl⟩ := e6y hq0
    exact .inl ⟨k', rfl, (hW.z rfl).2⟩
   | succ n =>
    have hw0 : p.way[n]? = some p.way[n] := List.getElem?_eq_getElem (by omega)
    obtain ⟨w1, w2, _⟩ := hW.s n _ rfl hw0
    exact .inr ⟨_, a5f hw0 hq0, w1, w2⟩
  have hnl : p.way.length - (n + 1) < p.way.length - n := by omega
  -- what comes behind a round
  have E : ∀ (fr' : Fr) (m' : M) (Sn T' : PS) (own3 : Nat → Prop) (Y' : Nat → Ino) (f' : Bool) (b : Nat), Way S X i p (n + 1) Sn T' Y' f' b → Step m m' A Sn own own3 → At m' m1.next B7 true [iv i, iv b, iv q.at] → At m' r b0 true ((p.way.map Pa.at).map ivn) → ev (tm 8) fr' = iv b → ev (tm 9) fr' = .b f' → (∀ t ∈ [0, 1, 12, 31, 32, 33], ev (tm t) fr' = ev (tm t) fr) →
    b1T m A tt S own X i p r m1.next (p.way.length - (n + 1)) (B6 33 (iv ((n + 1 : Nat) : Int)) (B6 93 (iv ((n + 1 : Nat) : Int)) fr')) m' := by
   intro fr' m' Sn T' own3 Y' f' b w1 w2 w3 w4 g8 g9 gt
   have g0 := (gt 0 (by simp)).trans f0
   have g1 := (gt 1 (by simp)).trans f1
   have g12 := (gt 12 (by simp)).trans f12
   have g31 := (gt 31 (by simp)).trans f31
   have g32 := (gt 32 (by simp)).trans f32
   exact ⟨n + 1, Sn, own3, T', Y', f', b, _, hlt, rfl, by simp -implicitDefEqProofs only [g0, g1, g12, g31, g32, g9, g8, d6, ↓reduceIte, Nat.reduceEqDiff, true_and]; exact fun _ => trivial, w1, w2, w3, w4⟩
  have hwq : ∀ j' q', n + 1 = j' + 1 → p.way[j']? = some q' → q' = q := fun j' q' e1 e2 => by
   have : j' = n := by omega
   subst this
   rw [hq0] at e2
   cases e2; rfl
  have h0z : ∀ x, x ∈ A.ms → kd m x 0 := fun x hx => h.kdm x (by
   simp only [List.mem_cons, List.not_mem_nil, or_false] at hx ⊢
   rcases hx with rfl | rfl | rfl <;> simp)
  have last0 : n + 1 = p.way.length → q = p := fun e => a1Z hq0 e
  -- the rest of the round, whatever comes behind it
  have fin : ∀ (R : Am.X → Fr → M → Prop) (mB : M) (own2 : Nat → Prop) (fr1 : Fr), Step m mB A T own own2 → At mB m1.next B7 true [iv i, iv blk, iv q.at] → At mB r b0 true ((p.way.map Pa.at).map ivn) → (∀ t ∈ [0, 1, 12, 31, 32, 33], ev (tm t) fr1 = ev (tm t) fr) →
    (∀ fr' m', ev (tm 8) fr' = iv 0 → ev (tm 9) fr' = .b false → ev (tm 10) fr' = iv 10 → Q (.tuple [iv 0, .b false, iv 10]) m' → R .ret fr' m') →
    (∀ fr' m', ev (tm 33) fr' = iv n → b1T m A tt S own X i p r m1.next (p.way.length - (n + 1)) (B6 33 (iv ((n + 1 : Nat) : Int)) (B6 93 (iv ((n + 1 : Nat) : Int)) fr')) m' → R .normal fr' m') → GX Tryz.prog tb a37 R fr1 mB := by
   intro R mB own2 fr1 stB aSB aRB gt hR1 hR2
   have hwB := stB.kp.wf
   have htB := ht.kp hw stB.kp
   have hrs : r ≠ m1.next := by omega
   refine f3l hwB stB.at' htB hW.w hi hqok hpok hqp aSB hc ((gt 0 (by simp)).trans f0) ((gt 1 (by simp)).trans f1) ((gt 12 (by simp)).trans f12) (fun h0 hfull fr' m' k' g8 g9 g10 => ?_) (fun h0 fr' m' k' a' g8 g9 gt' => ?_) (fun h0 fr' m' own3 Sn V Y' b hcV hg how hk' a' hM' hb b1 b2 hin hni hpp g8 g9 gt' => ?_)
   ·have hp0 : nd T (Y i) p = 0 := by
     rcases hqp with rfl | _
     ·exact h0
     ·exact d0L hpok hq0 h0
    exact hR1 fr' m' g8 g9 g10 (hQ2 m' own2 T Y hfull (by have := hW.c; omega) hW.w ((hW.l hlt).symm.trans hp0) hp0 (stB.tf k'))
   ·have hn0 : nd S (X i) p ≠ 0 ∨ q ≠ p := by
     by_cases e : q = p
     ·exact .inl (by rw [← hW.l hlt, ← e]; exact h0)
     ·exact .inr e
    refine hR2 fr' m' ((gt' 33 (by simp)).trans ((gt 33 (by simp)).trans f33)) (E fr' m' T T own2 Y false _ ⟨hW.w, fun e => by omega, fun j' q' e1 e2 => ?_, fun _ => rfl, fun e => hW.l hlt, fun e => ?_, by have := hW.c; omega⟩ (stB.row k' (by omega) aSB.kd (by decide)) a' (aRB.keep hwB k' hrs) g8 g9 fun t' ht' => (gt' t' ht').trans (gt t' ht'))
    ·rw [hwq j' q' e1 e2]
     exact ⟨rfl, h0, nofun, nofun⟩
    ·have := last0 e
     subst this
     rw [decide_eq_false]
     rcases hn0 with h1 | h1
     ·exact h1
     ·exact absurd rfl h1
   ·have st3 : Step m m' A Sn own own3 := ⟨hg, fun x hx => by
      have := stB.kp.next
      rcases how x hx with h1 | h1
      ·exact stB.ow x h1
      ·exact .inr (by omega), (stB.kp.trans hk' fun x hx e => by
       rcases e with rfl | e
       ·omega
       ·exact .inr ⟨e, h0z x e⟩)⟩
    have hrm : ¬ (r = m1.next ∨ r ∈ A.ms) := fun e => by
     rcases e with e | e
     ·exact hrs e
     ·have := (h0z r e).lt hw
      omega
    refine hR2 fr' m' ((gt' 33 (by simp)).trans ((gt 33 (by simp)).trans f33)) (E fr' m' Sn V own3 Y' true b ⟨hM', fun e => by omega, fun j' q' e1 e2 => ?_, nofun, fun e => ?_, fun e => ?_, by have := hW.c; omega⟩ st3 a' (aRB.keep hwB hk' hrm) g8 g9 fun t' ht' => (gt' t' ht').trans (gt t' ht'))
    ·rw [hwq j' q' e1 e2]
     exact ⟨hb, by omega, fun _ hin' => ⟨hin hin', b1, b2⟩, fun _ hni' => hni hni'⟩
    ·have hqp' : q ≠ p := fun e2 => by
      have := a8Y hpok hq0 e
      rw [e2] at this
      exact hpin this
     rw [hpp hqp']
     exact hW.l hlt
    ·have := last0 e
     subst this
     rw [decide_eq_true]
     rw [← hW.l hlt]; exact h0
  have hF : (n : Int) + 1 = ((n + 1 : Nat) : Int) := rfl
  cases f with
  | false =>
   have hT := hW.f rfl
   subst hT
   simp -implicitDefEqProofs only [S6, a5j, b0P, a86, a9l, f12, f31, f32, f33, f9, show ((n : Int) < (p.way.length : Int)) = True from eq_true (by omega), hia, hsr, eA, ↓reduceIte, Nat.reduceEqDiff, wA, wB, wC, wD]
   refine fin _ mA own' _ stA aA aRA (fun t' ht' => ?_) (fun fr' m' g8 g9 g10 hq' => ?_) (fun fr' m' g33 hI' => ?_)
   ·simp only [List.mem_cons, List.not_mem_nil, or_false] at ht'
    rcases ht' with rfl | rfl | rfl | rfl | rfl | rfl <;> simp -implicitDefEqProofs only [d6, ↓reduceIte, Nat.reduceEqDiff]
   ·simp -implicitDefEqProofs only [g8, g9, g10, a4W, a4D, a5e, a4s]
    exact hq'
   ·simp -implicitDefEqProofs only [S6, a8P, g33, aD (n : Int) 1, hF, ↓reduceIte, wA, wB, wC, wD]
    exact A4 (k' := p.way.length - (n + 1)) hnl hI'
  | true =>
   have hn0 : n ≠ 0 := fun e => by have := (hW.z e).1; cases this
   obtain ⟨n', rfl⟩ : ∃ n', n = n' + 1 := ⟨n - 1, by omega⟩
   have hw0 : p.way[n']? = some p.way[n'] := List.getElem?_eq_getElem (by omega)
   obtain ⟨w1, w2, w3, w4⟩ := hW.s n' _ rfl hw0
   obtain ⟨w5, w6, w7⟩ := w3 rfl (a8Y hpok hw0 hlt)
   have hza := At.addZr (m := mA) (e := j7) (k := 64 * 1) (z := [.y 0]) 64 rfl
   have hzk : Keep mA (mA.addZ j7 (64 * 1) [.y 0]) fun _ => False := Keep.addZ kA.wf
   have emk := e51 (m := mA) (e := j7) (z := .y 0) (n := 64) (by omega)
   rw [c5Z] at hza
   generalize mA.addZ j7 (64 * 1) [.y 0] = mZ at hza hzk emk
   have hbz : BtU mZ (.slice mA.next 0 64 64 false) z64 mA.next := ⟨by
    have := BsAt.row (m := mZ) (b := mA.next) (off := 0) (cap := 64) (lim := false) (l := z64) hza.r (by decide) rfl
    exact this, hza.kd⟩
   obtain ⟨mB, own2, stB, rB⟩ := a1O hzk.wf (stA.at'.k0 kA.wf hzk) (b := blk) hbz rfl (by omega) w7
   rw [← w5] at stB
   have hg0 : mA.rd tt 1 = some (iv 64) := by rw [(ht.kp hw stA.kp).t.rd]; rfl
   have c64 : ((64 : Nat) : Int) = 64 := rfl
   rw [c64] at emk
   have hslB := aA.rd
   have hslZ := (aA.keep kA.wf hzk id).rd
   simp -implicitDefEqProofs only [S6, a5j, b0P, a86, a9l, c7V, c6U, f0, f1, f12, f31, f32, f33, f9, show (((n' + 1 : Nat) : Int) < (p.way.length : Int)) = True from eq_true (by omega), hia, hsr, eA, show ((0 : Int) < ((n' + 1 : Nat) : Int)) = True from eq_true (by omega), hslB, hslZ, hg0, emk, rB.eq, ↓reduceIte, Nat.reduceEqDiff, Nat.reduceAdd, List.getElem?_cons_succ, List.getElem?_cons_zero, exists_eq_left', u6, wA, wB, wC, wD]
   have aB := aA.kp kA.wf (Step.ft hzk stB).kp
   have aRB := aRA.kp kA.wf (Step.ft hzk stB).kp
   refine fin _ mB own2 _ (stA.trans (Step.ft hzk stB)) aB aRB (fun t' ht' => ?_) (fun fr' m' g8 g9 g10 hq' => ?_) (fun fr' m' g33 hI' => ?_)
   ·simp only [List.mem_cons, List.not_mem_nil, or_false] at ht'
    rcases ht' with rfl | rfl | rfl | rfl | rfl | rfl <;> simp -implicitDefEqProofs only [d6, ↓reduceIte, Nat.reduceEqDiff]
   ·simp -implicitDefEqProofs only [g8, g9, g10, a4W, a4D, a5e, a4s]
    exact hq'
   ·simp -implicitDefEqProofs only [S6, a8P, g33, aD ((n' + 1 : Nat) : Int) 1, hF, ↓reduceIte, wA, wB, wC, wD]
    exact A4 (k' := p.way.length - (n' + 1 + 1)) hnl hI'
 ·have hne : n = p.way.length := by omega
  subst hne
  obtain ⟨j, hj⟩ : ∃ j, p.way.length = j + 1 := ⟨p.way.length - 1, by omega⟩
  have hw0 : p.way[j]? = some p.way[j] := List.getElem?_eq_getElem (by omega)
  have hl := a1Z hw0 hj.symm
  rw [hl] at hw0
  obtain ⟨w1, w2, _, w4⟩ := hW.s j p hj hw0
  have hT : T = Sk := by
   cases f with
   | false => exact hW.f rfl
   | true => exact w4 rfl hpin
  have f8 := f8 (by omega)
  have hf := hW.e rfl
  simp -implicitDefEqProofs only [S6, a5j, c4j, f32, f33, f9, f8, show ((p.way.length : Int) < (p.way.length : Int)) = False from eq_false (by omega), ↓reduceIte, Nat.reduceEqDiff, wA, wB, wC, wD]
  subst hT
  rw [hf]
  exact hQ1 mk own' T Y blk (by have := hW.c; omega) hW.w w1 w2 st
end
end Go.Proofs.YtooooiidpaecmaaGreatDoor
/- A file's blocks, told: one pointer, and what lies below. -/
namespace Go.Am
def lst (N : Nat → Nat) : Nat → Int
 | 0 => -1
 | n + 1 => if N n = 0 then lst N n else n
theorem a2z (N : Nat → Nat) : ∀ n, -1 ≤ lst N n ∧ lst N n < n
 | 0 => by show (-1 : Int) ≤ -1 ∧ (-1 : Int) < 0; omega
 | n + 1 => by
  have := a2z N n
  unfold lst
  split
  ·omega
  ·omega
theorem b9E {N : Nat → Nat} : ∀ {n k : Nat}, k < n → N k ≠ 0 → (k : Int) ≤ lst N n
 | 0, k, h, _ => by omega
 | n + 1, k, h, h0 => by
  unfold lst
  by_cases hk : k = n
  ·subst hk; rw [if_neg h0]; omega
  ·have := b9E (N := N) (n := n) (k := k) (by omega) h0
   split <;> omega
end Go.Am
namespace Go.Proofs.YtooooiidpaecmaaGreatDoor
open Go Go.Am
def NmAt (m : M) (mb : Nat) (f : Nat → Nat) : Prop := ∃ L : Al, MpAt m mb L ∧ Nk L ∧ ∀ k, lkp L k = if f k = 0 then none else some (iv (f k))
section
variable {m m' : M} {mb : Nat} {f : Nat → Nat}
theorem NmAt.kd0 (h : NmAt m mb f) : kd m mb 0 := by
 obtain ⟨L, h, _⟩ := h
 exact h.kd
theorem NmAt.keep (h : NmAt m mb f) (hw : Wf m) {F : Nat → Prop} (k : Keep m m' F) (hb : ¬ F mb) : NmAt m' mb f := by
 obtain ⟨L, h1, h2⟩ := h
 exact ⟨L, h1.keep hw k hb, h2⟩
theorem NmAt.look (h : NmAt m mb f) (k : Nat) : H7 (some .i64) (iv 0) false (.cst (.map mb)) (.cst (iv (k : Int))) .leaf m = some (iv (f k), m) := by
 obtain ⟨L, h1, _, h2⟩ := h
 rw [h1.look, h2]
 by_cases h0 : f k = 0
 ·rw [if_pos h0, h0]; rfl
 ·rw [if_neg h0]; rfl
theorem NmAt.put (h : NmAt m mb f) (hw : Wf m) (k : Nat) {v : Nat} (hv : v ≠ 0) :
  ∃ m', O0 (some .i64) (.cst (.map mb)) (.cst (iv (k : Int))) (.cst (iv v)) .leaf m = some (AV.undef, m') ∧ NmAt m' mb (fup f k v) ∧ Keep m m' (fun x => x = mb) ∧ m'.next = m.next := by
 obtain ⟨L, h1, h2, h3⟩ := h
 obtain ⟨m', e, g1, g2, g3⟩ := h1.upd hw k (iv v)
 refine ⟨m', e, ⟨_, g1, h2.put, fun j => ?_⟩, g2, g3⟩
 rw [a2i]
 unfold fup
 by_cases hj : j = k
 ·rw [if_pos hj, if_pos hj, if_neg hv]
 ·rw [if_neg hj, if_neg hj]; exact h3 j
end
structure Bx where
 fb : Nat
 lb : Nat
 db : Nat
 tb : Nat
 ob : Nat
 ib : Nat
 wb : Nat
 mb : Nat
 xr : Nat
 xl : List AV
noncomputable def Bx.fn (x : Bx) : AV := .func K7 [.ptr x.fb 0, .ptr x.lb 0, .ptr x.db 0, .ptr x.tb 0, .ptr x.ob 0, .ptr x.ib 0, .ptr x.wb 0]
structure BS (m0 m : M) (A : Ad) (tt : Nat) (x : Bx) (i : Nat) (N : Nat → Nat) (n : Nat) (D : List Nat) : Prop where
 kp : Keep m0 m fun _ => False
 fb : At m x.fb a6U true [.map x.mb]
 lb : At m x.lb b0 true [iv (lst N n)]
 db : ∃ s o, At m x.db a4k true [s] ∧ SlAt m b0 1 s D.length (D.map ivn) o ∧ ∀ b, o = some b → m0.next ≤ b ∧ b ≠ x.lb ∧ b ≠ x.ib
 tb : At m x.tb C6 true [.ptr tt 0]
 ob : At m x.ob D7 true [.ptr A.o 0]
 ib : At m x.ib b0 true [iv i]
 wb : At m x.wb a6y true [x.fn]
 xr : At m x.xr s9 true x.xl
 mp : NmAt m x.mb fun k => if k < n then N k else 0
 ne : x.lb ≠ x.ib
 ge : m0.next ≤ x.fb ∧ m0.next ≤ x.lb ∧ m0.next ≤ x.db ∧ m0.next ≤ x.mb
section
variable {m0 m m' : M} {A : Ad} {S : PS} {own : Nat → Prop} {tt aa : Nat} {X : Nat → Ino} {i : Nat} {x : Bx} {N : Nat → Nat} {n : Nat} {D : List Nat}
theorem BS.k0 (h : BS m0 m A tt x i N n D) (k : Keep m m' fun _ => False) : BS m0 m' A tt x i N n D := by
 have hw := h.kp.wf
 obtain ⟨s, o, g1, g2, g3⟩ := h.db
 exact ⟨h.kp.tf k, h.fb.keep hw k id, h.lb.keep hw k id, ⟨s, o, g1.keep hw k id, g2.keep hw k fun _ _ => id, g3⟩, h.tb.keep hw k id, h.ob.keep hw k id, h.ib.keep hw k id, h.wb.keep hw k id, h.xr.keep hw k id, h.mp.keep hw k id, h.ne, h.ge⟩
theorem BS.skip (h : BS m0 m A tt x i N n D) (h0 : N n = 0) : BS m0 m A tt x i N (n + 1) D := by
 refine ⟨h.kp, h.fb, ?_, h.db, h.tb, h.ob, h.ib, h.wb, h.xr, ?_, h.ne, h.ge⟩
 ·have : lst N (n + 1) = lst N n := if_pos h0
  rw [this]; exact h.lb
 ·have e : (fun k => if k < n + 1 then N k else 0) = fun k => if k < n then N k else 0 := by
   funext k
   by_cases hk : k = n
   ·subst hk; rw [if_pos (by omega), if_neg (by omega), h0]
   ·by_cases h1 : k < n
    ·rw [if_pos h1, if_pos (by omega)]
    ·rw [if_neg h1, if_neg (by omega)]
  rw [e]; exact h.mp
theorem BS.skips (h : BS m0 m A tt x i N n D) : ∀ d, (∀ k, n ≤ k → k < n + d → N k = 0) → BS m0 m A tt x i N (n + d) D
 | 0, _ => h
 | d + 1, hz => (h.skips d fun k h1 h2 => hz k h1 (by omega)).skip (hz (n + d) (by omega) (by omega))
noncomputable def E7 (x : Bx) (b n d : Nat) : List AV := [iv b, iv n, iv d, .ptr x.fb 0, .ptr x.lb 0, .ptr x.db 0, .ptr x.tb 0, .ptr x.ob 0, .ptr x.ib 0, .ptr x.wb 0]
theorem e53 (h : BS m0 m A tt x i N n D) (hn : n < 2000) : ∃ m', BS m0 m' A tt x i N (n + 1) D ∧ Ran Tryz.prog tb K7 (E7 x (N n) n 0) m (iv 0) m' := by
 have hw := h.kp.wf
 by_cases h0 : N n = 0
 ·refine ⟨m, h.skip h0, ?_⟩
  unfold E7
  rw [h0]
  refine WpF.go a1r ?_
  simp -implicitDefEqProofs only [O6, a0l, a0p, a4F, ↓reduceIte, Nat.reduceEqDiff, Nat.reduceAdd, wA, wB, wC, wD]
 ·obtain ⟨m1, e1, a1, k1, n1⟩ := h.mp.put hw n h0
  have hl1 := h.lb.keep hw k1 (h.lb.kd.ne h.mp.kd0)
  have hll := a2z N n
  obtain ⟨m2, e2, a2, k2, n2⟩ := hl1.st k1.wf 0 [iv n]
  have hmx : max (lst N n) (n : Int) = n := by omega
  have k02 : Keep m m2 fun b => b = x.mb ∨ b = x.lb := (k1.mono fun _ _ e => .inl e).trans k2 fun _ _ e => .inr e
  have hk2 : ∀ {b k}, kd m b k → k ≠ 0 → b ≠ x.lb → ¬ (b = x.mb ∨ b = x.lb) := fun hb hk hl e => by
   rcases e with e | e
   ·exact hk (hb.inj (e ▸ h.mp.kd0))
   ·exact hl e
  obtain ⟨s, o, g1, g2, g3⟩ := h.db
  have hs1 : lst N (n + 1) = n := if_neg h0
  refine ⟨m2, ⟨h.kp.trans k02 fun b hb e => by have := h.ge; rcases e with rfl | rfl <;> omega, h.fb.keep hw k02 (hk2 h.fb.kd (by decide) (h.fb.kd.ne h.lb.kd)), by rw [hs1]; exact a2, ⟨s, o, g1.keep hw k02 (hk2 g1.kd (by decide) (g1.kd.ne h.lb.kd)), g2.keep hw k02 fun b hb => ?_, g3⟩, h.tb.keep hw k02 (hk2 h.tb.kd (by decide) (h.tb.kd.ne h.lb.kd)), h.ob.keep hw k02 (hk2 h.ob.kd (by decide) (h.ob.kd.ne h.lb.kd)), h.ib.keep hw k02 (hk2 h.ib.kd (by decide) (Ne.symm h.ne)), h.wb.keep hw k02 (hk2 h.wb.kd (by decide) (h.wb.kd.ne h.lb.kd)), h.xr.keep hw k02 (hk2 h.xr.kd (by decide) (h.xr.kd.ne h.lb.kd)), ?_, h.ne, h.ge⟩, ?_⟩
  ·subst hb
   exact hk2 g2.kd (by decide) (g3 b rfl).2.1
  ·have e : (fun k => if k < n + 1 then N k else 0) = fup (fun k => if k < n then N k else 0) n (N n) := by
    funext k
    unfold fup
    by_cases hk : k = n
    ·subst hk; rw [if_pos (by omega), if_pos rfl]
    ·rw [if_neg hk]
     show _ = if k < n then N k else 0
     by_cases h1 : k < n
     ·rw [if_pos h1, if_pos (by omega)]
     ·rw [if_neg h1, if_neg (by omega)]
   rw [e]
   exact a1.keep k1.wf k2 (fun e => absurd (a1.kd0.inj (e ▸ hl1.kd)) (by decide))
  ·have hz : ((N n : Nat) : Int) ≠ 0 := by omega
   unfold E7
   refine WpF.go a1r ?_
   simp -implicitDefEqProofs only [O6, a0l, a0p, a4V, e3T, d5l, d0g, eq_false hz, h.fb.rd, e1, hl1.rd, hmx, e2, ↓reduceIte, Nat.reduceEqDiff, Nat.reduceAdd, List.getElem?_cons_zero, wA, wB, wC, wD]
theorem BS.deep (h : BS m0 m A tt x i N n D) (hD : D.length ≤ 1000) (b : Nat) : ∃ m1 m2 s s' m3, m.rd x.db 0 = some s ∧ m.addL b0 1 [iv b] = m1 ∧ X9 b0 1 8 [iv 0] (.cst s) (.cst (.slice m.next 0 1 1 false)) .leaf m1 = some (s', m2) ∧ A3 s' = some [s'] ∧ m2.wr x.db 0 [s'] = some m3 ∧ BS m0 m3 A tt x i N n (D ++ [b]) := by
 have hw := h.kp.wf
 obtain ⟨s, o, g1, g2, g3⟩ := h.db
 obtain ⟨m1, e1, a1, k1, n1⟩ := l8 hw b0 1 [iv b]
 have hw1 := k1.wf
 have hy : Rds m1 (.slice m.next 0 1 1 false) 1 1 [iv b] := (SlAt.row (junk := []) a1 rfl rfl (Nat.le_refl _) (by decide) : SlAt m1 b0 1 (.slice m.next 0 1 1 false) 1 [iv b] (some m.next)).src
 obtain ⟨s', m2, o', ea, hs', k2, ho⟩ := (g2.keep hw k1 fun _ _ => id).append (bytes := 8) (z := [iv 0]) hw1 hy (a0c (by omega) (by omega))
 have hn1 := k1.next
 have hko : ∀ b', o = some b' → kd m b' (b0 + 1) := fun b' hb => by subst hb; exact g2.kd
 have hF : ∀ {b' k}, kd m b' k → (k ≠ b0 + 1 ∨ b' = x.lb ∨ b' = x.ib) → ¬ o = some b' := fun hb hk e => by
  rcases hk with hk | rfl | rfl
  ·exact hk (hb.inj (hko _ e))
  ·exact (g3 _ e).2.1 rfl
  ·exact (g3 _ e).2.2 rfl
 have k02 : Keep m m2 fun b => o = some b := k1.ft k2
 have gd2 := g1.keep hw k02 (hF g1.kd (.inl (by decide)))
 obtain ⟨m3, e3, a3, k3, n3⟩ := gd2.st k2.wf 0 [s']
 have k03 : Keep m m3 fun b => o = some b ∨ b = x.db := (k02.mono fun _ _ e => .inl e).trans k3 fun _ _ e => .inr e
 have hF3 : ∀ {b' k}, kd m b' k → (k ≠ b0 + 1 ∨ b' = x.lb ∨ b' = x.ib) → k ≠ a4k + 1 → ¬ (o = some b' ∨ b' = x.db) := fun hb hk hk2 e => by
  rcases e with e | e
  ·exact hF hb hk e
  ·exact hk2 (hb.inj (e ▸ g1.kd))
 refine ⟨m1, m2, s, s', m3, by rw [g1.rd]; rfl, e1, ea, hs'.cl, e3, ?_⟩
 refine ⟨h.kp.trans k03 fun b' hb e => ?_, h.fb.keep hw k03 (hF3 h.fb.kd (.inl (by decide)) (by decide)), h.lb.keep hw k03 (hF3 h.lb.kd (.inr (.inl rfl)) (by decide)), ⟨s', o', a3, ?_, fun b' hb => ?_⟩, h.tb.keep hw k03 (hF3 h.tb.kd (.inl (by decide)) (by decide)), h.ob.keep hw k03 (hF3 h.ob.kd (.inl (by decide)) (by decide)), h.ib.keep hw k03 (hF3 h.ib.kd (.inr (.inr rfl)) (by decide)), h.wb.keep hw k03 (hF3 h.wb.kd (.inl (by decide)) (by decide)), h.xr.keep hw k03 (hF3 h.xr.kd (.inl (by decide)) (by decide)), h.mp.keep hw k03 (hF3 h.mp.kd0 (.inl (by decide)) (by decide)), h.ne, h.ge⟩
 ·have := h.ge
  rcases e with e | rfl
  ·have := (g3 _ e).1; omega
  ·omega
 ·have h4 := hs'.keep k2.wf k3 fun b' hb e => by
   subst e
   subst hb
   exact absurd (hs'.kd.inj gd2.kd) (by decide)
  have e : (D ++ [b]).map ivn = D.map ivn ++ [iv b] := by rw [List.map_append]; rfl
  rw [e, List.length_append]
  exact h4
 ·have hlb := h.lb.lt hw
  have hib := h.ib.lt hw
  have hkp := h.kp.next
  rcases ho with rfl | ⟨b2, h5, h6, h7⟩
  ·exact g3 b' hb
  ·rw [h5] at hb
   cases hb
   exact ⟨by omega, by omega, by omega⟩
theorem e6v (hw0 : Wf m0) (hG : GAt m0 A S own) (hT : TAt m0 tt aa A.g) (hI : Inv S I2 X) (hi : i ∈ I2) (h : BS m0 m A tt x i N n D) (hD : D.length ≤ 1000) (hn : n < 1900) {q : Pa} (hq : q.ok) (hin : q.inn)
  (hc : ∀ a, a < 32 → N (n + a) = ptz S (nd S (X i) q) a) :
  ∃ m', BS m0 m' A tt x i N (n + 32) (D ++ if nd S (X i) q = 0 then [] else [nd S (X i) q]) ∧ Ran Tryz.prog tb K7 (E7 x (nd S (X i) q) n 1) m (iv 0) m' := by
 by_cases h0 : nd S (X i) q = 0
 ·rw [if_pos h0, List.append_nil, h0]
  refine ⟨m, h.skips 32 fun k h1 h2 => ?_, ?_⟩
  ·have := hc (k - n) (by omega)
   rw [show n + (k - n) = k by omega, h0] at this
   rw [this]; exact O3 _ _
  ·unfold E7
   refine WpF.go a1r ?_
   simp -implicitDefEqProofs only [O6, a0l, a0p, a4F, ↓reduceIte, Nat.reduceEqDiff, Nat.reduceAdd, wA, wB, wC, wD]
 ·rw [if_neg h0]
  obtain ⟨m1, m2, s, s', m3, g1, g2, g3, g3', g4, h3⟩ := h.deep hD (nd S (X i) q)
  have hz : ((nd S (X i) q : Nat) : Int) ≠ 0 := by omega
  have hdb : m.rd x.db (0 + 0) = some s := g1
  have hr := hI.rng hi hq h0
  obtain ⟨t, t1, t2⟩ := hI.blk i hi q hq hin h0
  have htr := (hT.k0 hw0 h3.kp).t.rd
  have hrp : y4 1 [iv 0] = [iv 0] := rfl
  have key : WpF Tryz.prog tb K7 (E7 x (nd S (X i) q) n 1) m fun v m' => v = iv 0 ∧ BS m0 m' A tt x i N (n + 32) (D ++ [nd S (X i) q]) := by
   unfold E7
   refine WpF.go a1r ?_
   simp -implicitDefEqProofs only [O6, a0l, a0p, a4V, a9Y, b1f, show ((1 : Nat) : Int) = 1 from rfl, eq_false hz, show ((1 : Int) = 0) = False from eq_false (by omega), g1, hrp, g2, g3, g3', g4, h3.tb.rd, htr, ↓reduceIte, Nat.reduceEqDiff, Nat.reduceAdd, Nat.reduceLeDiff, List.getElem?_cons_succ, List.getElem?_cons_zero, wA, wB, wC, wD]
   refine A5 (fun j fr mk => ∃ k, k ≤ 32 ∧ j = 32 - k ∧ (ev (tm 0) fr = iv (nd S (X i) q) ∧ ev (tm 1) fr = iv n ∧ ev (tm 2) fr = iv 1 ∧ ev (tm 6) fr = .ptr x.tb 0 ∧ ev (tm 7) fr = .ptr x.ob 0 ∧ ev (tm 8) fr = .ptr x.ib 0 ∧ ev (tm 9) fr = .ptr x.wb 0 ∧ ev (tm 36) fr = iv 32 ∧ ev (tm 37) fr = iv k) ∧ BS m0 mk A tt x i N (n + k) (D ++ [nd S (X i) q])) (k := 32) ⟨0, Nat.zero_le _, rfl, by simp -implicitDefEqProofs only [nc0, d6, ↓reduceIte, Nat.reduceEqDiff, nc0, and_self], h3⟩ ?_
   rintro j fr mk ⟨k, hk, rfl, ⟨f0, f1, f2, f6, f7, f8, f9, f36, f37⟩, hB⟩
   by_cases hlt : k < 32
   ·obtain ⟨n1, k1, r1⟩ := a8p (tt := tt) (i := i) hB.kp.wf (hG.k0 hw0 hB.kp) hr.2 h0 t1 hlt
    have hp : p16 t k = N (n + k) := by
     rw [hc k hlt]
     unfold ptz
     rw [if_neg h0, t1]
    rw [hp] at r1
    have hB1 := hB.k0 k1
    obtain ⟨n2, hB2, r2⟩ := e53 hB1 (by omega)
    unfold E7 at r2
    rw [nc0] at r2
    have hA : (n : Int) + (k : Int) = ((n + k : Nat) : Int) := rfl
    have p11 : d7 Tryz.prog .sub b0 (iv 1) (iv 1) = some (iv 0) := by kernel_rfl
    simp -implicitDefEqProofs only [O6, a2w, a9f, a8O, a8W, a80, a8I, a84, a8S, a8D, f0, f1, f2, f6, f7, f8, f9, f36, f37, show ((k : Int) < 32) = True from eq_true (by omega), hB.tb.rd, hB.ob.rd, hB.ib.rd, r1.eq, aD (n : Int) (k : Int), hA, show ((1 : Int) = 2) = False from eq_false (by omega), hB1.wb.rd, Bx.fn, p11, r2.eq, aD (k : Int) 1, ↓reduceIte, Nat.reduceEqDiff, Nat.reduceAdd, Nat.reduceLeDiff, List.getElem?_cons_succ, List.getElem?_cons_zero, wA, wB, wC, wD]
    exact A4 (k' := 32 - (k + 1)) (by omega) ⟨k + 1, by omega, rfl, by simp -implicitDefEqProofs only [f0, f1, f2, f6, f7, f8, f9, f36, show (k : Int) + 1 = ((k + 1 : Nat) : Int) from rfl, d6, ↓reduceIte, Nat.reduceEqDiff, and_self], hB2⟩
   ·obtain rfl : k = 32 := by omega
    simp -implicitDefEqProofs only [O6, a2w, a9x, f36, f37, show ((32 : Nat) : Int) = 32 from rfl, ↓reduceIte, Nat.reduceSub, wA, wB, wC, wD]
    exact hB
  obtain ⟨v, m', ⟨rfl, hb⟩, r⟩ := key.ran
  exact ⟨m', hb, r⟩
end
def Nf (S : PS) (x : Ino) (k : Nat) : Nat := nd S x (d9 k)
def one (S : PS) (x : Ino) (q : Pa) : List Nat := if nd S x q = 0 then [] else [nd S x q]
def W7 (S : PS) (x : Ino) : List Nat := one S x (.r 8) ++ (one S x (.r 9) ++ (List.range 32).flatMap fun a => one S x (.s 9 a))
theorem c0i (S : PS) (x : Ino) (q : Pa) : (one S x q).length ≤ 1 := by
 unfold one
 split <;> simp
theorem f4F (S : PS) (x : Ino) (n : Nat) : ((List.range n).flatMap fun a => one S x (.s 9 a)).length ≤ n := by
 induction n with
 | zero => simp
 | succ n ih =>
  rw [List.range_succ, List.flatMap_append, List.length_append]
  have := c0i S x (.s 9 n)
  simp only [List.flatMap_cons, List.flatMap_nil, List.append_nil]
  omega
theorem g1Y {S : PS} {x : Ino} {k : Nat} (h : k < 8) : Nf S x k = nd S x (.r k) := by unfold Nf d9; rw [if_pos h]
theorem g2u {S : PS} {x : Ino} {a : Nat} (h : a < 32) : Nf S x (8 + a) = nd S x (.s 8 a) := by
 unfold Nf d9
 rw [if_neg (by omega), if_pos (by omega), show 8 + a - 8 = a by omega]
theorem e80 {S : PS} {x : Ino} {a b : Nat} (h : b < 32) : Nf S x (40 + 32 * a + b) = nd S x (.t a b) := by
 unfold Nf d9
 rw [if_neg (by omega), if_neg (by omega), show (40 + 32 * a + b - 40) / 32 = a by omega, show (40 + 32 * a + b - 40) % 32 = b by omega]
section
variable {m0 m m' : M} {A : Ad} {S : PS} {own : Nat → Prop} {tt aa : Nat} {X : Nat → Ino} {i : Nat} {x : Bx} {D : List Nat}
theorem g1d (hw0 : Wf m0) (hG : GAt m0 A S own) (hT : TAt m0 tt aa A.g) (hI : Inv S I2 X) (hi : i ∈ I2) (h : BS m0 m A tt x i (Nf S (X i)) 40 D) (hD : D.length ≤ 100) :
  ∃ m', BS m0 m' A tt x i (Nf S (X i)) 1064 (D ++ (one S (X i) (.r 9) ++ (List.range 32).flatMap fun a => one S (X i) (.s 9 a))) ∧ Ran Tryz.prog tb K7 (E7 x (nd S (X i) (.r 9)) 40 2) m (iv 0) m' := by
 have hq9 : (Pa.r 9).ok := by show 9 < 10; omega
 by_cases h0 : nd S (X i) (.r 9) = 0
 ·have hs : ∀ a, nd S (X i) (.s 9 a) = 0 := fun a => by
   rw [J3 S (X i) (q := .r 9) rfl, h0]; exact O3 _ _
  have e0 : one S (X i) (.r 9) = [] := if_pos h0
  have e1 : ((List.range 32).flatMap fun a => one S (X i) (.s 9 a)) = [] := by
   rw [List.flatMap_eq_nil_iff]
   intro a _
   exact if_pos (hs a)
  rw [e0, e1, List.append_nil, List.append_nil]
  refine ⟨m, h.skips 1024 fun k h1 h2 => ?_, ?_⟩
  ·obtain ⟨a, b, hb, rfl⟩ : ∃ a b, b < 32 ∧ k = 40 + 32 * a + b := ⟨(k - 40) / 32, (k - 40) % 32, by omega, by omega⟩
   rw [e80 hb, J3 S (X i) (q := .s 9 a) rfl, hs a]; exact O3 _ _
  ·unfold E7
   rw [h0]
   refine WpF.go a1r ?_
   simp -implicitDefEqProofs only [O6, a0l, a0p, a4F, ↓reduceIte, Nat.reduceEqDiff, Nat.reduceAdd, wA, wB, wC, wD]
 ·have e0 : one S (X i) (.r 9) = [nd S (X i) (.r 9)] := if_neg h0
  rw [e0, ← List.append_assoc]
  obtain ⟨m1, m2, s, s', m3, g1, g2, g3, g3', g4, h3⟩ := h.deep (by omega) (nd S (X i) (.r 9))
  have hz : ((nd S (X i) (.r 9) : Nat) : Int) ≠ 0 := by omega
  have hr := hI.rng hi hq9 h0
  obtain ⟨t, t1, t2⟩ := hI.blk i hi (.r 9) hq9 (.inr rfl) h0
  have htr := (hT.k0 hw0 h3.kp).t.rd
  have hrp : y4 1 [iv 0] = [iv 0] := rfl
  have key : WpF Tryz.prog tb K7 (E7 x (nd S (X i) (.r 9)) 40 2) m fun v m' => v = iv 0 ∧ BS m0 m' A tt x i (Nf S (X i)) 1064 (D ++ [nd S (X i) (.r 9)] ++ (List.range 32).flatMap fun a => one S (X i) (.s 9 a)) := by
   unfold E7
   refine WpF.go a1r ?_
   simp -implicitDefEqProofs only [O6, a0l, a0p, a4V, a9Y, b1f, show ((2 : Nat) : Int) = 2 from rfl, eq_false hz, show ((2 : Int) = 0) = False from eq_false (by omega), g1, hrp, g2, g3, g3', g4, h3.tb.rd, htr, ↓reduceIte, Nat.reduceEqDiff, Nat.reduceAdd, Nat.reduceLeDiff, List.getElem?_cons_succ, List.getElem?_cons_zero, wA, wB, wC, wD]
   refine A5 (fun j fr mk => ∃ k, k ≤ 32 ∧ j = 32 - k ∧ (ev (tm 0) fr = iv (nd S (X i) (.r 9)) ∧ ev (tm 1) fr = iv 40 ∧ ev (tm 2) fr = iv 2 ∧ ev (tm 6) fr = .ptr x.tb 0 ∧ ev (tm 7) fr = .ptr x.ob 0 ∧ ev (tm 8) fr = .ptr x.ib 0 ∧ ev (tm 9) fr = .ptr x.wb 0 ∧ ev (tm 36) fr = iv 32 ∧ ev (tm 37) fr = iv k) ∧ BS m0 mk A tt x i (Nf S (X i)) (40 + 32 * k) (D ++ [nd S (X i) (.r 9)] ++ (List.range k).flatMap fun a => one S (X i) (.s 9 a))) (k := 32) ⟨0, Nat.zero_le _, rfl, by simp -implicitDefEqProofs only [nc0, show ((40 : Nat) : Int) = 40 from rfl, d6, ↓reduceIte, Nat.reduceEqDiff, nc0, and_self], by simpa using h3⟩ ?_
   rintro j fr mk ⟨k, hk, rfl, ⟨f0, f1, f2, f6, f7, f8, f9, f36, f37⟩, hB⟩
   by_cases hlt : k < 32
   ·obtain ⟨n1, k1, r1⟩ := a8p (tt := tt) (i := i) hB.kp.wf (hG.k0 hw0 hB.kp) hr.2 h0 t1 hlt
    have hp : p16 t k = nd S (X i) (.s 9 k) := by
     rw [J3 S (X i) (q := .r 9) rfl]
     show _ = ptz S (nd S (X i) (.r 9)) k
     unfold ptz
     rw [if_neg h0, t1]
    rw [hp] at r1
    have hB1 := hB.k0 k1
    have hDl : (D ++ [nd S (X i) (.r 9)] ++ (List.range k).flatMap fun a => one S (X i) (.s 9 a)).length ≤ 1000 := by
     have := f4F S (X i) k
     rw [List.length_append, List.length_append]
     simp only [List.length_cons, List.length_nil]
     omega
    obtain ⟨n2, hB2, r2⟩ := e6v hw0 hG hT hI hi hB1 hDl (by omega) (q := .s 9 k) ⟨.inr rfl, hlt⟩ rfl (fun a ha => e80 ha)
    have hDe : (D ++ [nd S (X i) (.r 9)] ++ (List.range k).flatMap fun a => one S (X i) (.s 9 a)) ++ (if nd S (X i) (.s 9 k) = 0 then [] else [nd S (X i) (.s 9 k)]) = D ++ [nd S (X i) (.r 9)] ++ (List.range (k + 1)).flatMap fun a => one S (X i) (.s 9 a) := by
     rw [List.range_succ, List.flatMap_append]
     simp [one]
    rw [hDe] at hB2
    unfold E7 at r2
    rw [show ((1 : Nat) : Int) = 1 from rfl] at r2
    have hA : (40 : Int) + ((32 * k : Nat) : Int) = ((40 + 32 * k : Nat) : Int) := rfl
    have hM : d7 Tryz.prog .mul b0 (iv (k : Int)) (iv 32) = some (iv ((32 * k : Nat) : Int)) := by
     rw [Q5 b0 (by omega) (by omega)]
     congr 2; omega
    have p21 : d7 Tryz.prog .sub b0 (iv 2) (iv 1) = some (iv 1) := by kernel_rfl
    have htk := (hT.k0 hw0 hB1.kp).t.rd
    simp -implicitDefEqProofs only [O6, a2w, a9f, a8O, a8W, a80, a8I, c0A, a84, a8S, a8D, f0, f1, f2, f6, f7, f8, f9, f36, f37, show ((k : Int) < 32) = True from eq_true (by omega), hB.tb.rd, hB.ob.rd, hB.ib.rd, r1.eq, aD (40 : Int) (k : Int), hB1.tb.rd, htk, hM, aD (40 : Int) ((32 * k : Nat) : Int), hA, hB1.wb.rd, Bx.fn, p21, r2.eq, aD (k : Int) 1, ↓reduceIte, Nat.reduceEqDiff, Nat.reduceAdd, Nat.reduceLeDiff, List.getElem?_cons_succ, List.getElem?_cons_zero, wA, wB, wC, wD]
    exact A4 (k' := 32 - (k + 1)) (by omega) ⟨k + 1, by omega, rfl, by simp -implicitDefEqProofs only [f0, f1, f2, f6, f7, f8, f9, f36, show (k : Int) + 1 = ((k + 1 : Nat) : Int) from rfl, d6, ↓reduceIte, Nat.reduceEqDiff, and_self], hB2⟩
   ·obtain rfl : k = 32 := by omega
    simp -implicitDefEqProofs only [O6, a2w, a9x, f36, f37, show ((32 : Nat) : Int) = 32 from rfl, ↓reduceIte, Nat.reduceSub, wA, wB, wC, wD]
    exact hB
  obtain ⟨v, m', ⟨rfl, hb⟩, r⟩ := key.ran
  exact ⟨m', hb, r⟩
theorem a9R (x : Bx) : o8 40 (.func K7 [.ptr x.fb 0, .ptr x.lb 0, .ptr x.db 0, .ptr x.tb 0, .ptr x.ob 0, .ptr x.ib 0, .ptr x.wb 0]) (.func K7 [.ptr x.fb 0, .ptr x.lb 0, .ptr x.db 0, .ptr x.tb 0, .ptr x.ob 0, .ptr x.ib 0, .ptr x.wb 0]) = true := by
 simp [o8, W5, Nat.beq_refl]
def nnK (k : Nat) : Nat := if k ≤ 8 then k else if k = 9 then 40 else 1064
def ddK (S : PS) (x : Ino) (k : Nat) : List Nat := if k ≤ 8 then [] else if k = 9 then one S x (.r 8) else W7 S x
def G8 (S : PS) (x : Ino) : List Nat := (List.range (lst (Nf S x) 1064 + 1).toNat).map (Nf S x)
set_option maxHeartbeats 1000000 in
theorem f1y (hw : Wf m) (hG : GAt m A S own) (hT : TAt m tt aa A.g) (hI : Inv S I2 X) (hi : i ∈ I2) :
  ∃ m' sd od sp op, SlAt m' b0 1 sd (G8 S (X i)).length ((G8 S (X i)).map ivn) od ∧ SlAt m' b0 1 sp (W7 S (X i)).length ((W7 S (X i)).map ivn) op ∧ (∀ b, od = some b → m.next ≤ b) ∧ (∀ b, op = some b → m.next ≤ b ∧ od ≠ some b) ∧
   Keep m m' (fun _ => False) ∧ Ran Tryz.prog tb a5P [.ptr tt 0, .ptr A.o 0, iv i] m (.tuple [sd, sp, iv 0]) m' := by
 obtain ⟨hi6, hx, ho⟩ := hI.ino i hi
 have hX : (o0 (X i).kind (X i).links (X i).size (X i).ps).length = 13 := by rw [P5, ho.len]
 obtain ⟨m1, e1, a1, k1, n1⟩ := l8 hw C6 1 [.ptr tt 0]
 obtain ⟨m2, e2, a2, k2, n2⟩ := l8 k1.wf D7 1 [.ptr A.o 0]
 obtain ⟨m3, e3, a3, k3, n3⟩ := l8 k2.wf b0 1 [iv i]
 have k03 := (k1.tf k2).tf k3
 obtain ⟨m4, k4, r4⟩ := U2 k03.wf (hG.k0 hw k03) (hT.k0 hw k03) (L7 hi) hx ho
 have k04 := k03.tf k4
 obtain ⟨m5, e5, a5, k5, n5⟩ := x7 k04.wf s9 13 z13
 obtain ⟨m6, e6, a6, k6, n6⟩ := a5.st k5.wf 0 (o0 (X i).kind (X i).links (X i).size (X i).ps) (l' := o0 (X i).kind (X i).links (X i).size (X i).ps) (by unfold u6; rw [List.take_zero, List.nil_append, List.drop_of_length_le (by rw [hX]; exact Nat.le_refl _), List.append_nil]) (by rw [hX]; exact Nat.le_refl _)
 have hm4 := k4.next
 have k46 : Keep m4 m6 fun _ => False := k5.trans k6 fun b hb e => by omega
 have k06 := k04.tf k46
 obtain ⟨h7, k7⟩ := MpAt.new0 k06.wf
 have n7 : (m6.new (.obj (.map [] (some ([], 0))))).next = m6.next + 1 := M.next_new _ _
 have e7 : m6.new (.obj (.map [] (some ([], 0)))) = m6.new (.obj (.map [] (some ([], 0)))) := rfl
 generalize hm7 : m6.new (.obj (.map [] (some ([], 0)))) = m7 at h7 k7 n7
 obtain ⟨m8, e8, a8, k8, n8⟩ := x7 k7.wf a6U 1 [a3h]
 obtain ⟨m9, e9, a9, k9, n9⟩ := a8.st k8.wf 0 [.map m6.next]
 have k79 : Keep m7 m9 fun _ => False := k8.trans k9 fun b hb e => by omega
 obtain ⟨m10, e10, a10, k10, n10⟩ := x7 k79.wf b0 1 [iv 0]
 obtain ⟨m11, e11, a11, k11, n11⟩ := a10.st k10.wf 0 [iv (-1)]
 have k911 : Keep m9 m11 fun _ => False := k10.trans k11 fun b hb e => by omega
 obtain ⟨m12, e12, a12, k12, n12⟩ := x7 k911.wf a4k 1 [i7]
 obtain ⟨m13, e13, a13, k13, n13⟩ := x7 k12.wf a6y 1 [a3g]
 obtain ⟨m14, e14, a14, k14, n14⟩ := a13.st k13.wf 0 [.func K7 [.ptr m7.next 0, .ptr m9.next 0, .ptr m11.next 0, .ptr m.next 0, .ptr m1.next 0, .ptr m2.next 0, .ptr m12.next 0]]
 have k1114 : Keep m11 m14 fun _ => False := (k12.tf k13).trans k14 fun b hb e => by omega
 have k12' : Keep m12 m14 fun _ => False := k13.trans k14 fun b hb e => by omega
 have k914 := k911.tf k1114
 have k714 := k79.tf k914
 have k614 := k7.tf k714
 have k014 := k06.tf k614
 have k114 := (((k2.tf k3).tf k4).tf k46).tf k614
 have k214 := ((k3.tf k4).tf k46).tf k614
 have k314 := (k4.tf k46).tf k614
 obtain ⟨bx, hbx⟩ : ∃ b : Bx, b = ⟨m7.next, m9.next, m11.next, m.next, m1.next, m2.next, m12.next, m6.next, m4.next, o0 (X i).kind (X i).links (X i).size (X i).ps⟩ := ⟨_, rfl⟩
 have hB0 : BS m m14 A tt bx i (Nf S (X i)) 0 [] := by
  rw [hbx]
  exact ⟨k014, a9.keep k79.wf k914 id, a11.keep k911.wf k1114 id, ⟨i7, none, a12.keep k12.wf k12' id, .nil, fun b hb => by cases hb⟩, a1.keep k1.wf k114 id, a2.keep k2.wf k214 id, a3.keep k3.wf k314 id, a14, a6.keep k46.wf k614 id, ⟨[], h7.keep k7.wf k714 id, List.Pairwise.nil, fun k => by simp [lkp]⟩, by show m9.next ≠ m2.next; have := k4.next; omega, by show m.next ≤ m7.next ∧ m.next ≤ m9.next ∧ m.next ≤ m11.next ∧ m.next ≤ m6.next; omega⟩
 have key : WpF Tryz.prog tb a5P [.ptr tt 0, .ptr A.o 0, iv i] m fun v m' => ∃ sd od sp op, v = .tuple [sd, sp, iv 0] ∧ SlAt m' b0 1 sd (G8 S (X i)).length ((G8 S (X i)).map ivn) od ∧ SlAt m' b0 1 sp (W7 S (X i)).length ((W7 S (X i)).map ivn) op ∧ (∀ b, od = some b → m.next ≤ b) ∧ (∀ b, op = some b → m.next ≤ b ∧ od ≠ some b) ∧ Keep m m' (fun _ => False) := by
  refine WpF.go g08 ?_
  have hc7 : A3 (.map m6.next) = some [.map m6.next] := rfl
  simp -implicitDefEqProofs only [a0B, d4M, d4i, c92, e1d, d82, e3u, d2p, d40, c5x, c65, e1, e2, e3, (a1.keep k1.wf ((k2.tf k3)) id).rd, (a2.keep k2.wf k3 id).rd, a3.rd, a08, r4.eq, hX, e5, e6, hm7, e8, e9, e10, e11, e12, e13, e14, ↓reduceIte, Nat.reduceEqDiff, Nat.reduceAdd, List.getElem?_cons_succ, List.getElem?_cons_zero, wA, wB, wC, wD]
  refine A5 (fun j fr mk => ∃ k, k ≤ 10 ∧ j = 10 - k ∧ (ev (tm 3) fr = .ptr bx.tb 0 ∧ ev (tm 6) fr = i7 ∧ ev (tm 9) fr = .ptr bx.xr 0 ∧ ev (tm 10) fr = .ptr bx.fb 0 ∧ ev (tm 11) fr = .ptr bx.lb 0 ∧ ev (tm 12) fr = .ptr bx.db 0 ∧ ev (tm 13) fr = .ptr bx.wb 0 ∧ ev (tm 33) fr = iv k) ∧ BS m mk A tt bx i (Nf S (X i)) (nnK k) (ddK S (X i) k)) (k := 10) ⟨0, Nat.zero_le _, rfl, by simp -implicitDefEqProofs only [nc0, hbx, d6, ↓reduceIte, Nat.reduceEqDiff, nc0, and_self], hB0⟩ ?_
  rintro j fr mk ⟨k, hk, rfl, ⟨f3, f6, f9, f10, f11, f12, f13, f33⟩, hB⟩
  have hxl : bx.xl = o0 (X i).kind (X i).links (X i).size (X i).ps := by rw [hbx]
  have c10 : ((10 : Nat) : Int) = 10 := rfl
  by_cases hlt : k < 10
  ·have hgp := b7G (x := X i) (Inv.ps hI hi hlt)
   rw [← hxl] at hgp
   have hxrd : mk.rd bx.xr (3 + k) = some (ivn (nd S (X i) (.r k))) := by rw [hB.xr.rd]; exact hgp
   have rr := a8f (m := mk) bx.xr hlt
   by_cases h8 : k < 8
   ·have hn : nnK k = k := if_pos (by omega)
    have hd : ddK S (X i) k = [] := if_pos (by omega)
    rw [hn, hd] at hB
    obtain ⟨n1, hB1, r1⟩ := e53 hB (by omega)
    rw [g1Y h8] at r1
    unfold E7 at r1
    rw [nc0] at r1
    have hxrd1 : n1.rd bx.xr (3 + k) = some (ivn (nd S (X i) (.r k))) := by rw [hB1.xr.rd]; exact hgp
    simp -implicitDefEqProofs only [a0B, a2g, a31, a4n, a4w, a4o, a9o, a4j, a4e, a4g, f9, f13, f33, show ((k : Int) < 10) = True from eq_true (by omega), show ((k : Int) = 8) = False from eq_false (by omega), show ((k : Int) = 9) = False from eq_false (by omega), hB.wb.rd, Bx.fn, rr.eq, hxrd, r1.eq, a9R, aD (k : Int) 1, ↓reduceIte, Nat.reduceEqDiff, List.getElem?_cons_succ, List.getElem?_cons_zero, exists_eq_left', wA, wB, wC, wD]
    refine A4 (k' := 10 - (k + 1)) (by omega) ⟨k + 1, by omega, rfl, by simp -implicitDefEqProofs only [f3, f6, f9, f10, f11, f12, f13, show (k : Int) + 1 = ((k + 1 : Nat) : Int) from rfl, d6, ↓reduceIte, Nat.reduceEqDiff, and_self], ?_⟩
    have hn : nnK (k + 1) = k + 1 := if_pos (by omega)
    have hd : ddK S (X i) (k + 1) = [] := if_pos (by omega)
    rw [hn, hd]
    exact hB1
   ·by_cases h9 : k = 8
    ·subst h9
     have hn : nnK 8 = 8 := rfl
     have hd : ddK S (X i) 8 = [] := rfl
     rw [hn, hd] at hB
     obtain ⟨n1, hB1, r1⟩ := e6v hw hG hT hI hi hB (by simp) (by omega) (q := .r 8) (by show 8 < 10; omega) (.inl rfl) (fun a ha => g2u ha)
     unfold E7 at r1
     have c8 : ((8 : Nat) : Int) = 8 := rfl
     rw [c8, show ((1 : Nat) : Int) = 1 from rfl] at r1
     rw [c8] at rr f33
     have hxrd1 : n1.rd bx.xr (3 + 8) = some (ivn (nd S (X i) (.r 8))) := by rw [hB1.xr.rd]; exact hgp
     have p8 : d7 Tryz.prog .add b0 (iv 8) (iv 1) = some (iv 9) := by kernel_rfl
     simp -implicitDefEqProofs only [a0B, a2g, a31, a4n, a4w, a4o, c8u, a4j, a4e, a4g, f9, f13, f33, show ((8 : Int) < 10) = True from eq_true (by omega), hB.wb.rd, Bx.fn, rr.eq, hxrd, r1.eq, a9R, p8, ↓reduceIte, Nat.reduceEqDiff, Nat.reduceAdd, Nat.reduceSub, List.getElem?_cons_succ, List.getElem?_cons_zero, exists_eq_left', wA, wB, wC, wD]
     refine A4 (k' := 10 - (8 + 1)) (by omega) ⟨9, by omega, rfl, by simp -implicitDefEqProofs only [f3, f6, f9, f10, f11, f12, f13, show ((9 : Nat) : Int) = 9 from rfl, d6, ↓reduceIte, Nat.reduceEqDiff, and_self], ?_⟩
     exact hB1
    ·have h9 : k = 9 := by omega
     subst h9
     have hn : nnK 9 = 40 := rfl
     have hd : ddK S (X i) 9 = one S (X i) (.r 8) := rfl
     rw [hn, hd] at hB
     obtain ⟨n1, hB1, r1⟩ := g1d hw hG hT hI hi hB (by have := c0i S (X i) (.r 8); omega)
     unfold E7 at r1
     have c9 : ((9 : Nat) : Int) = 9 := rfl
     rw [show ((40 : Nat) : Int) = 40 from rfl, show ((2 : Nat) : Int) = 2 from rfl] at r1
     rw [c9] at rr f33
     have hxrd1 : n1.rd bx.xr (3 + 9) = some (ivn (nd S (X i) (.r 9))) := by rw [hB1.xr.rd]; exact hgp
     have p9 : d7 Tryz.prog .add b0 (iv 9) (iv 1) = some (iv 10) := by kernel_rfl
     have p40 : d7 Tryz.prog .add b0 (iv 8) (iv 32) = some (iv 40) := by kernel_rfl
     have htr := (hT.k0 hw hB.kp).t.rd
     simp -implicitDefEqProofs only [a0B, a2g, a31, a4n, a4w, a4o, a9o, c0v, a4j, a4e, a4g, f3, f9, f13, f33, show ((9 : Int) < 10) = True from eq_true (by omega), show ((9 : Int) = 8) = False from eq_false (by omega), hB.tb.rd, htr, p40, hB.wb.rd, Bx.fn, rr.eq, hxrd, r1.eq, a9R, p9, ↓reduceIte, Nat.reduceEqDiff, Nat.reduceAdd, Nat.reduceSub, List.getElem?_cons_succ, List.getElem?_cons_zero, exists_eq_left', wA, wB, wC, wD]
     refine A4 (k' := 10 - (9 + 1)) (by omega) ⟨10, by omega, rfl, by simp -implicitDefEqProofs only [f3, f6, f9, f10, f11, f12, f13, show ((10 : Nat) : Int) = 10 from rfl, d6, ↓reduceIte, Nat.reduceEqDiff, and_self], ?_⟩
     exact hB1
  ·have h10 : k = 10 := by omega
   subst h10
   have hB : BS m mk A tt bx i (Nf S (X i)) 1064 (W7 S (X i)) := hB
   have hll := a2z (Nf S (X i)) 1064
   obtain ⟨L, hL⟩ : ∃ L : Nat, lst (Nf S (X i)) 1064 + 1 = (L : Int) := ⟨(lst (Nf S (X i)) 1064 + 1).toNat, by omega⟩
   have hdl : G8 S (X i) = (List.range L).map (Nf S (X i)) := by
    unfold G8
    rw [hL]; rfl
   rw [c10] at f33
   simp -implicitDefEqProofs only [a0B, a2g, c8X, f11, f33, hB.lb.rd, aD (lst (Nf S (X i)) 1064) 1, hL, ↓reduceIte, Nat.reduceEqDiff, Nat.reduceSub, List.getElem?_cons_zero, wA, wB, wC, wD]
   refine A5 (fun j fr mj => ∃ q s o, q ≤ L ∧ j = L - q ∧ (ev (tm 6) fr = s ∧ ev (tm 10) fr = .ptr bx.fb 0 ∧ ev (tm 12) fr = .ptr bx.db 0 ∧ ev (tm 60) fr = iv L ∧ ev (tm 61) fr = iv q) ∧ SlAt mj b0 1 s q (((List.range q).map (Nf S (X i))).map ivn) o ∧ (∀ b, o = some b → mk.next ≤ b) ∧ Keep mk mj (fun _ => False)) (k := L) ⟨0, i7, none, Nat.zero_le _, rfl, by simp -implicitDefEqProofs only [f6, f10, f12, nc0, d6, ↓reduceIte, Nat.reduceEqDiff, nc0, and_self], .nil, (fun b hb => by cases hb), Keep.refl hB.kp.wf _⟩ ?_
   rintro j fr mj ⟨q, s, o, hq, rfl, ⟨g6, g10, g12, g60, g61⟩, hs, hso, kj⟩
   have hBj := hB.k0 kj
   by_cases hlq : q < L
   ·obtain ⟨n1, e1', a1', j1, y1⟩ := l8 kj.wf b0 1 [ivn (Nf S (X i) q)]
    have hy : Rds n1 (.slice mj.next 0 1 1 false) 1 1 [ivn (Nf S (X i) q)] := (SlAt.row (junk := []) a1' rfl rfl (Nat.le_refl _) (by decide) : SlAt n1 b0 1 (.slice mj.next 0 1 1 false) 1 [ivn (Nf S (X i) q)] (some mj.next)).src
    obtain ⟨s', n2, o', ea, hs', j2, ho'⟩ := (hs.keep kj.wf j1 fun _ _ => id).append (bytes := 8) (z := [iv 0]) j1.wf hy (a0c (by omega) (by omega))
    have hlk : H7 (some .i64) (iv 0) false (.cst (.map bx.mb)) (.cst (iv (q : Int))) .leaf mj = some (iv (Nf S (X i) q), mj) := by
     rw [hBj.mp.look, if_pos (by omega)]
    have hrp : y4 1 [iv 0] = [iv 0] := rfl
    have hnj := j1.next
    have hnk := kj.next
    simp -implicitDefEqProofs only [a0B, a8K, b9F, c5N, c73, g6, g10, g60, g61, show ((q : Int) < (L : Int)) = True from eq_true (by omega), hBj.fb.rd, hlk, hrp, e1', ea, aD (q : Int) 1, ↓reduceIte, Nat.reduceEqDiff, Nat.reduceLeDiff, List.getElem?_cons_zero, wA, wB, wC, wD]
    refine A4 (k' := L - (q + 1)) (by omega) ⟨q + 1, s', o', by omega, rfl, by simp -implicitDefEqProofs only [g10, g12, g60, show (q : Int) + 1 = ((q + 1 : Nat) : Int) from rfl, d6, ↓reduceIte, Nat.reduceEqDiff, and_self], ?_, fun b hb => ?_, kj.trans (j1.ft j2) fun b hb e => by have := hso b e; omega⟩
    ·have e : ((List.range (q + 1)).map (Nf S (X i))).map ivn = ((List.range q).map (Nf S (X i))).map ivn ++ [ivn (Nf S (X i) q)] := by
      rw [List.range_succ, List.map_append, List.map_append]; rfl
     rw [e]; exact hs'
    ·rcases ho' with rfl | ⟨b2, h5, h6, h7⟩
     ·exact hso b hb
     ·rw [h5] at hb; cases hb; omega
   ·have hqL : q = L := by omega
    subst hqL
    obtain ⟨sp, op, d1, d2, d3⟩ := hB.db
    have d1' := d1.keep hB.kp.wf kj id
    have hslq : o8 40 sp sp = true := by
     generalize (W7 S (X i)).map ivn = cc at d2
     generalize (W7 S (X i)).length = cl at d2
     cases d2
     ·rfl
     ·exact b2c ..
    simp -implicitDefEqProofs only [a0B, a8K, c1N, g6, g12, g60, g61, show ((q : Int) < (q : Int)) = False from eq_false (by omega), d1'.rd, ↓reduceIte, Nat.reduceEqDiff, List.getElem?_cons_succ, List.getElem?_cons_zero, exists_eq_left', wA, wB, wC, wD]
    rw [hdl]
    refine ⟨hslq, s, o, sp, op, rfl, by rw [List.length_map, List.length_range]; exact hs, d2.keep hB.kp.wf kj fun _ _ => id, fun b hb => ?_, fun b hb => ⟨(d3 b hb).1, fun e => ?_⟩, hB.kp.tf kj⟩
    ·have := hso b hb
     have := hB.kp.next
     omega
    ·have := hso b e
     have := d2.blk_lt hB.kp.wf hb
     omega
 obtain ⟨v, m', ⟨sd, od, sp, op, rfl, h1, h2, h3, h4, h5⟩, r⟩ := key.ran
 exact ⟨m', sd, od, sp, op, h1, h2, h3, h4, h5, r⟩
end
end Go.Proofs.YtooooiidpaecmaaGreatDoor
