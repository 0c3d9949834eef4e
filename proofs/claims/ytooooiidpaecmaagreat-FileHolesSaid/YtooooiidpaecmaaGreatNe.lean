import Derived.Test.YtooooiidpaecmaaGreatFo
set_option linter.unusedVariables false
set_option linter.unusedSimpArgs false
/- alloc.Alloc.FreeBlock. -/
namespace Go.Proofs.YtooooiidpaecmaaGreat
open Go Go.Am
section
variable {m : M} {A : Ad} {S : PS} {own : Nat → Prop} {aa : Nat}
theorem bitsGet_ran {s : AV} {t : Bk} {r i : Nat} (hs : BsAt m s t r) (h64 : t.length = 64) (hi : i < 512) : Ran Tryz.prog tb fn_e8 [s, iv i] m (.tuple [.b (bt t i), iv 0]) m := by
 have hlen : lenK false s = some 64 := by rw [hs.len, h64]
 have hq8 : binS Tryz.prog .quo ty_int (iv (i : Int)) (iv 8) = some (iv ((i / 8 : Nat) : Int)) := b_quo (b := 8) ty_int (by omega) (by omega)
 have hr8 : binS Tryz.prog .rem ty_int (iv (i : Int)) (iv 8) = some (iv ((i % 8 : Nat) : Int)) := b_remN (b := 8) ty_int (by omega) (by omega)
 have hm8 : i % 8 < 8 := Nat.mod_lt _ (by omega)
 have hz : t[i / 8]? = some (t.getD (i / 8) 0) := by
  rw [List.getD_eq_getElem?_getD, List.getElem?_eq_getElem (by omega)]; rfl
 have hbm := bt_mod t i
 have c64 : ((64 : Nat) : Int) = 64 := rfl
 cases hs with
 | @row _ off cap lim _ cells hh hl hc =>
  have hyl : (ycells t).length = 64 := by simp [ycells, h64]
  have hrd : m.rd r (off + i / 8) = some (.y (t.getD (i / 8) 0).toNat) := by
   rw [hh.rd]
   have e : ((cells.drop off).take t.length)[i / 8]? = (ycells t)[i / 8]? := by rw [hc]
   rw [List.getElem?_take, if_pos (by omega), List.getElem?_drop] at e
   rw [e]
   unfold ycells
   rw [List.getElem?_map, hz]; rfl
  have hia := v_iaS (m := m) 1 r off t.length cap lim (show i / 8 < t.length by omega)
  rw [Nat.mul_one] at hia
  refine WpF.go at_e8 ?_
  by_cases hb : bt t i = true
  ·rw [hb] at hbm
   have hbm : (t.getD (i / 8) 0).toNat / 2 ^ (i % 8) % 2 = 1 := hbm
   rw [h64] at hia
   simp -implicitDefEqProofs only [o_e8, r_e8_0, r_e8_1, r_e8_3, show ((i : Int) < 0) = False from eq_false (by omega), h64, hq8, c64, show ((64 : Int) ≤ ((i / 8 : Nat) : Int)) = False from eq_false (by omega), hia, hrd, hr8, o_slow, b_shrY ty_uint8 hm8, o_and', b_and1, hbm, b_eqY, hb, ↓reduceIte, Nat.reduceEqDiff, Nat.reduceAdd, wA, wB, wC, wD]
  ·have hb0 : bt t i = false := by simpa using hb
   rw [hb0] at hbm
   have hbm : (t.getD (i / 8) 0).toNat / 2 ^ (i % 8) % 2 = 0 := hbm
   rw [h64] at hia
   simp -implicitDefEqProofs only [o_e8, r_e8_0, r_e8_1, r_e8_3, show ((i : Int) < 0) = False from eq_false (by omega), h64, hq8, c64, show ((64 : Int) ≤ ((i / 8 : Nat) : Int)) = False from eq_false (by omega), hia, hrd, hr8, o_slow, b_shrY ty_uint8 hm8, o_and', b_and1, hbm, b_eqY, hb0, show ((0 : Nat) = 1) = False from eq_false (by omega), ↓reduceIte, Nat.reduceEqDiff, Nat.reduceAdd, wA, wB, wC, wD]
theorem bmGet_ran (hw : Wf m) (h : GAt m A S own) {t : Bk} (ht : S.rd 33 = some t) {i : Nat} (hi : i < 90) :
  ∃ m', Keep m m' (fun _ => False) ∧ Ran Tryz.prog tb fn_a4 [bmV, .ptr A.o 0, iv i] m (.tuple [.b (bt t i), iv 0]) m' := by
 obtain ⟨m1, e1, a1, k1, n1⟩ := box_bm hw
 have h1 := h.k0 hw k1
 obtain ⟨m2, s, r, hb2, hs2, h64, k2, n2, r2⟩ := op_read k1.wf h1 (b := 33) (by omega) ht
 rw [show ((33 : Nat) : Int) = 33 from rfl] at r2
 have a2 := a1.keep k1.wf k2 id
 refine ⟨m2, k1.tf k2, ?_⟩
 refine WpF.go at_a4 ?_
 simp -implicitDefEqProofs only [o_a4, r_a4_0, r_a4_1, r_a4_2, r_a4_4, e1, a1.rd, a2.rd, q512 (show i < 512 by omega), s33, r2.eq, r512 (show i < 512 by omega), (bitsGet_ran hb2.bs h64 (show i < 512 by omega)).eq, ↓reduceIte, Nat.reduceEqDiff, Nat.reduceAdd, List.getElem?_cons_succ, List.getElem?_cons_zero, exists_eq_left', wA, wB, wC, wD]
theorem release_ran (hw : Wf m) (h : GAt m A S own) {t : Bk} (ht : S.rd 33 = some t) {i : Nat} (hi : i < 90) (hb : bt t i = true) :
  ∃ m' own', Step m m' A (S.wr 33 (setb t i false)) own own' ∧ Ran Tryz.prog tb fn_a6 [bmV, .ptr A.o 0, iv i] m (iv 0) m' := by
 obtain ⟨m1, e1, a1, k1, n1⟩ := box_bm hw
 obtain ⟨m2, k2, r2⟩ := bmGet_ran k1.wf (h.k0 hw k1) ht hi
 have k02 := k1.tf k2
 have a2 := a1.keep k1.wf k2 id
 obtain ⟨m3, own', st, r3⟩ := bset_ran k02.wf (h.k0 hw k02) ht hi false
 have l1 : m1.rdN m.next 0 2 = some [iv 33, iv 512] := a1.rdN (by show 0 + 2 ≤ 2; omega)
 have l2 : m2.rdN m.next 0 2 = some [iv 33, iv 512] := a2.rdN (by show 0 + 2 ≤ 2; omega)
 rw [hb] at r2
 refine ⟨m3, own', st.ft k02, ?_⟩
 refine WpF.go at_a6 ?_
 simp -implicitDefEqProofs only [o_a6, r_a6_0, r_a6_1, r_a6_2, r_a6_4, r_a6_6, e1, l1, l2, r2.eq, r3.eq, ↓reduceIte, Nat.reduceEqDiff, Nat.reduceAdd, List.getElem?_cons_succ, List.getElem?_cons_zero, wA, wB, wC, wD]
theorem FreeBlock_ran (hw : Wf m) (h : GAt m A S own) (ha : AlAt m aa A.g) {t : Bk} (ht : S.rd 33 = some t) {b : Nat} (h1 : 37 ≤ b) (h2 : b < 90) (hb : bt t b = true) :
  ∃ m' own', Step m m' A ((S.wr 33 (setb t b false)).fr b) own own' ∧ Ran Tryz.prog tb fn_a1 [.ptr aa 0, .ptr A.o 0, iv b] m (iv 0) m' := by
 obtain ⟨m1, own1, st1, r1⟩ := release_ran hw h ht h2 hb
 obtain ⟨m2, st2, r2⟩ := op_free st1.kp.wf st1.at' h1 h2
 have hl : m.rdN aa 13 2 = some [iv 33, iv 512] := At.rdN ha (by show 13 + 2 ≤ 17; omega)
 have d1 : m.rd aa 12 = some (iv 37) := by rw [At.rd ha]; rfl
 have d2 : m.rd aa 2 = some (iv 90) := by rw [At.rd ha]; rfl
 refine ⟨m2, own1, st1.trans st2, ?_⟩
 refine WpF.go at_a1 ?_
 simp -implicitDefEqProofs only [o_a1, r_a1_0, r_a1_1, r_a1_3, r_a1_5, r_a1_6, r_a1_8, b_np25, d1, d2, hl, show ((b : Int) < 37) = False from eq_false (by omega), show ((90 : Int) ≤ (b : Int)) = False from eq_false (by omega), r1.eq, r2.eq, ↓reduceIte, Nat.reduceEqDiff, Nat.reduceAdd, wA, wB, wC, wD]
end
section
variable {m m' : M} {A : Ad} {S T : PS} {own : Nat → Prop} {tt aa : Nat} {X Y : Nat → Ino} {i : Nat} {q : Pa}
theorem store0_nd (hw : Wf m) (h : GAt m A T own) (ht : TAt m tt aa A.g) (hI : Inv T I2 X) (hi : i ∈ I2) (hq : q.ok) {c : Nat} (hc : (∃ k, q = .r k ∧ c = 0) ∨ ∃ w, q.up = some w ∧ nd T (X i) w = c ∧ c ≠ 0) :
  ∃ m' own' c' u x', Step m m' A (T.wr c' u) own own' ∧ Ran Tryz.prog tb fn_e6 [.ptr tt 0, .ptr A.o 0, .agg [iv i, iv c, iv q.at], iv 0] m (iv 0) m' ∧
   (∀ k, x'.ps.getD k 0 = if q = .r k then 0 else (X i).ps.getD k 0) ∧ x'.Ok ∧ (x'.kind = (X i).kind ∧ x'.links = (X i).links ∧ x'.size = (X i).size) ∧
   ((∃ k, q = .r k ∧ c' = 35 ∧ InoAt (T.wr c' u) i x' ∧ (∀ j ∈ I2, j ≠ i → InoAt (T.wr c' u) j (X j))) ∨ (∃ w tc, q.up = some w ∧ c' = nd T (X i) w ∧ c' ≠ 0 ∧ T.rd c' = some tc ∧ tc.length = 64 ∧ u = put16 tc q.at 0 ∧ x' = X i)) := by
 rcases hc with ⟨k, rfl, rfl⟩ | ⟨w, hw', rfl, h0⟩
 ·obtain ⟨_, h1, h2⟩ := hI.ino i hi
  have hk : k < 10 := hq
  obtain ⟨u0, g1, g2, g3⟩ := id h1
  rw [i2_tbl hi] at g1
  obtain ⟨m', own', st, r⟩ := store_root hw h ht (i2_or hi) h1 h2 (t := u0) g1 (k := k) (v := 0) hk (by omega)
  have hl : ({ X i with ps := (X i).ps.set k 0 } : Ino).ps.length = 10 := by show ((X i).ps.set k 0).length = 10; rw [List.length_set]; exact h2.len
  have hput := InoAt.put (S := T) (i := i) (x := X i) (y := { X i with ps := (X i).ps.set k 0 }) hl (by rw [i2_tbl hi]; exact g1) g2
  rw [i2_tbl hi] at hput
  refine ⟨m', own', 35, _, { X i with ps := (X i).ps.set k 0 }, st, r, fun j => ?_, ⟨h2.k1, h2.k2, h2.ln, h2.sz, hl, fun p hp => ?_⟩, ⟨rfl, rfl, rfl⟩, .inl ⟨k, rfl, rfl, hput.1, fun j hj hji => hput.2 j (X j) hji (hI.ino j hj).2.1⟩⟩
  ·show ((X i).ps.set k 0).getD j 0 = _
   rw [List.getD_eq_getElem?_getD, List.getElem?_set]
   by_cases hj : k = j
   ·subst hj
    rw [if_pos rfl, if_pos rfl, if_pos (by rw [h2.len]; exact hk)]; rfl
   ·rw [if_neg hj, if_neg (fun e => hj (by cases e; rfl)), List.getD_eq_getElem?_getD]
  ·rcases List.mem_or_eq_of_mem_set hp with hp | rfl
   ·exact h2.p p hp
   ·omega
 ·obtain ⟨w1, w2, w3⟩ := up_ok hw' hq
  obtain ⟨tc, g1, g2⟩ := hI.blk i hi w w1 w2 h0
  have hr := hI.rng hi w1 h0
  obtain ⟨m', own', st, r⟩ := store_blk hw h (i := i) (c := nd T (X i) w) (a := q.at) (v := 0) (t := tc) hr.1 hr.2 g1 w3 (by omega)
  refine ⟨m', own', nd T (X i) w, put16 tc q.at 0, X i, st, r, fun k => ?_, (hI.ino i hi).2.2, ⟨rfl, rfl, rfl⟩, .inr ⟨w, tc, hw', rfl, h0, g1, g2, rfl, rfl⟩⟩
  rw [if_neg]
  rintro rfl
  cases hw'
theorem prune_end (hw : Wf m) (h : GAt m A T own) (ht : TAt m tt aa A.g) (hI : Inv T I2 Y) (hi : i ∈ I2) (hq : q.ok) {b c : Nat} (hb : nd T (Y i) q = b) (h0 : b ≠ 0) (hz : ∀ r : Pa, r.ok → r.up = some q → nd T (Y i) r = 0) (hc : (∃ k, q = .r k ∧ c = 0) ∨ ∃ w, q.up = some w ∧ nd T (Y i) w = c ∧ c ≠ 0) :
  ∃ m1 m2 own' V Z, Ran Tryz.prog tb fn_e6 [.ptr tt 0, .ptr A.o 0, .agg [iv i, iv c, iv q.at], iv 0] m (iv 0) m1 ∧ m1.rd tt 0 = some (.ptr aa 0) ∧ Ran Tryz.prog tb fn_a1 [.ptr aa 0, .ptr A.o 0, iv b] m1 (iv 0) m2 ∧ Pr I2 T Y V Z i (fun r => r = q) ∧ Step m m2 A V own own' := by
 obtain ⟨m1, own1, c', u, x', st1, r1, hx, hxo, hxs, hcc⟩ := store0_nd hw h ht hI hi hq hc
 obtain ⟨t, g1, g2, g3⟩ := hI.bm
 have hg := g3 i hi q hq (by rw [hb]; exact h0)
 rw [hb] at hg
 have hc33 : c' ≠ 33 := by
  rcases hcc with ⟨_, _, rfl, _⟩ | ⟨w, tc, hw', rfl, hc0, _⟩
  ·omega
  ·have := (hI.rng hi (up_ok hw' hq).1 hc0).1; omega
 have ht1 := ht.kp hw st1.kp
 obtain ⟨m2, own2, st2, r2⟩ := FreeBlock_ran st1.kp.wf st1.at' ht1.a (t := t) (by rw [PS.wr_ne _ _ (Ne.symm hc33)]; exact g1) hg.1 hg.2.1 hg.2.2
 exact ⟨m1, m2, own2, _, _, r1, by rw [ht1.t.rd]; rfl, r2, Pr.one hI hi hq hb h0 hz g1 g2 hx hxo hxs hcc, st1.trans st2⟩
theorem prune_up {keep n : Nat} {p : Pa} (hi : i ∈ I2) (hq : q.ok) (hin : q.inn) (hn : n ≤ 32) (h : Pr I2 S X T Y i (PrC q keep n)) (hu : q.up = some p) : nd T (Y i) p = nd S (X i) p := h.on i hi p (up_ok hu hq).1 fun ⟨_, a, ha, e, _⟩ => by
 obtain ⟨_, _, _, d, _⟩ := chd_ok hq hin (show a < 32 by omega)
 have h1 := sub_dep (up_ok hu hq).1 e
 obtain ⟨o1, o2, o3⟩ := up_ok hu hq
 obtain ⟨b, hb, e2⟩ := up_chd hq hu
 obtain ⟨_, _, _, d2, _⟩ := chd_ok o1 o2 hb
 rw [← e2] at d2
 omega
theorem first_le : ∀ {q : Pa}, q.ok → q.first ≤ 1063
 | .r k, h => by
  have h : k < 10 := h
  show (if k = 9 then 40 else k) ≤ 1063
  split <;> omega
 | .s k a, h => by
  obtain ⟨h1, h2⟩ := h
  show (if k = 9 then 40 + 32 * a else 8 + a) ≤ 1063
  split <;> omega
 | .t a b, h => by
  obtain ⟨h1, h2⟩ := h
  show 40 + 32 * a + b ≤ 1063
  omega
theorem dep_le (q : Pa) : q.dep ≤ 2 := by
 cases q with
 | r k => show (if k = 9 then 2 else if k = 8 then 1 else 0) ≤ 2; split; omega; split <;> omega
 | s k a => show (if k = 9 then 1 else 0) ≤ 2; split <;> omega
 | t a b => show 0 ≤ 2; omega
theorem mul32 {k : Nat} (hk : k ≤ 1) : binS Tryz.prog .mul ty_int (iv ((32 ^ k : Nat) : Int)) (iv 32) = some (iv ((32 ^ (k + 1) : Nat) : Int)) := by
 rcases (show k = 0 ∨ k = 1 by omega) with rfl | rfl <;> kernel_rfl
theorem pow_le {d : Nat} (h : d ≤ 2) : 32 ^ d ≤ 1024 := by
 rcases (show d = 0 ∨ d = 1 ∨ d = 2 by omega) with rfl | rfl | rfl <;> decide
set_option maxHeartbeats 4000000 in
set_option maxRecDepth 20000 in
theorem prune_ran {keep : Nat} (hk : keep ≤ 2000) (hi : i ∈ I2) (d : Nat) : ∀ {m : M} {S : PS} {own : Nat → Prop} {X : Nat → Ino} {q : Pa} {c : Nat}, q.dep = d → Wf m → GAt m A S own → TAt m tt aa A.g → Inv S I2 X → q.ok → ((∃ k, q = .r k ∧ c = 0) ∨ ∃ w, q.up = some w ∧ nd S (X i) w = c ∧ c ≠ 0) →
  ∃ m' own' T Y, Pr I2 S X T Y i (PrD q keep) ∧ Step m m' A T own own' ∧ Ran Tryz.prog tb fn_e5 [.ptr tt 0, .ptr A.o 0, .agg [iv i, iv c, iv q.at], iv q.first, iv keep, iv d] m (iv 0) m' := by
 induction d using Nat.strongRecOn with
 | ind d ih =>
 intro m S own X q c hd hw hG hT hI hq hc
 have hdl := dep_le q
 rw [hd] at hdl
 have hfl := first_le hq
 obtain ⟨m1, e1, a1, k1, n1⟩ := addL_at hw ty_inode_slot 3 [iv i, iv c, iv q.at]
 obtain ⟨m2, k2, r2⟩ := load_nd k1.wf (hG.k0 hw k1) (hT.k0 hw k1) hI hi hq hc
 have l1 : m1.rdN m.next 0 3 = some [iv i, iv c, iv q.at] := a1.rdN (by show 0 + 3 ≤ 3; omega)
 have k02 := k1.tf k2
 have hn2 := k02.next
 have a2 := a1.keep k1.wf k2 id
 have hT2 := hT.k0 hw k02
 have hG2 := hG.k0 hw k02
 have hper : m2.rd tt 13 = some (iv 32) := by rw [hT2.t.rd]; rfl
 by_cases h0 : nd S (X i) q = 0
 ·refine ⟨m2, own, S, X, prune_none hI hi hq (.inl h0), (Step.rf hw hG).tf k02, ?_⟩
  rw [h0, nc0] at r2
  refine WpF.go at_e5 ?_
  simp -implicitDefEqProofs only [o_e5, r_e5_0, r_e5_1, r_e5_2, r_e5_3, e1, l1, r2.eq, ↓reduceIte, Nat.reduceEqDiff, Nat.reduceAdd, List.getElem?_cons_succ, List.getElem?_cons_zero, wA, wB, wC, wD]
 ·generalize hb : nd S (X i) q = b at *
  have hb0 : ((b : Nat) : Int) ≠ 0 := by omega
  have key : WpF Tryz.prog tb fn_e5 [.ptr tt 0, .ptr A.o 0, .agg [iv i, iv c, iv q.at], iv q.first, iv keep, iv d] m fun v m' => v = iv 0 ∧ ∃ own' T Y, Pr I2 S X T Y i (PrD q keep) ∧ Step m m' A T own own' := by
   refine WpF.go at_e5 ?_
   simp -implicitDefEqProofs only [o_e5, r_e5_0, r_e5_1, r_e5_2, r_e5_4, r_e5_5, e1, l1, r2.eq, eq_false hb0, ↓reduceIte, Nat.reduceEqDiff, Nat.reduceAdd, List.getElem?_cons_succ, List.getElem?_cons_zero, wA, wB, wC, wD]
   refine GX_loop (fun j fr mk => ∃ k, k ≤ d ∧ j = d - k ∧ (ev (tm 0) fr = .ptr tt 0 ∧ ev (tm 1) fr = .ptr A.o 0 ∧ ev (tm 3) fr = iv (q.first : Nat) ∧ ev (tm 4) fr = iv (keep : Nat) ∧ ev (tm 5) fr = iv (d : Nat) ∧ ev (tm 8) fr = .ptr m.next 0 ∧ ev (tm 13) fr = iv (b : Nat) ∧ ev (tm 15) fr = iv ((32 ^ k : Nat) : Int) ∧ ev (tm 33) fr = iv (d : Nat) ∧ ev (tm 34) fr = iv (k : Nat)) ∧ mk = m2) (k := d)
    ⟨0, Nat.zero_le _, rfl, by simp -implicitDefEqProofs only [nc0, show ((32 ^ 0 : Nat) : Int) = 1 from rfl, ev_tm, ↓reduceIte, Nat.reduceEqDiff, nc0, and_self], rfl⟩ ?_
   rintro j fr mk ⟨k, hkd, rfl, ⟨f0, f1, f3, f4, f5, f8, f13, f15, f33, f34⟩, rfl⟩
   by_cases hlt : k < d
   ·simp -implicitDefEqProofs only [o_e5, r_e5_6, r_e5_7, r_e5_8, f0, f15, f33, f34, show ((k : Int) < (d : Int)) = True from eq_true (by omega), hper, mul32 (show k ≤ 1 by omega), aD (k : Int) 1, ↓reduceIte, Nat.reduceEqDiff, wA, wB, wC, wD]
    exact LK_n (k' := d - (k + 1)) (by omega) ⟨k + 1, by omega, rfl, by simp -implicitDefEqProofs only [f0, f1, f3, f4, f5, f8, f13, f33, show (k : Int) + 1 = ((k + 1 : Nat) : Int) from rfl, ev_tm, ↓reduceIte, Nat.reduceEqDiff, and_self], rfl⟩
   ·obtain rfl : k = d := by omega
    have hpw := pow_le hdl
    generalize hsp : 32 ^ k = sp at *
    have hsum : (q.first : Int) + (sp : Int) = ((q.first + sp : Nat) : Int) := rfl
    by_cases hfk : q.first + sp ≤ keep
    ·simp -implicitDefEqProofs only [o_e5, r_e5_6, r_e5_9, r_e5_10, f3, f4, f15, f33, f34, aD (q.first : Int) (sp : Int), show ((q.first : Int) + (sp : Int) ≤ (keep : Int)) = True from eq_true (by omega), ↓reduceIte, Nat.reduceEqDiff, wA, wB, wC, wD]
     exact ⟨own, S, X, prune_none hI hi hq (.inr (by rw [hd, hsp]; exact hfk)), (Step.rf hw hG).tf k02⟩
    ·cases k with
     | zero =>
      have hin : ¬ q.inn := fun e => (dep_inn hq).1 e hd
      have hsp1 : sp = 1 := hsp.symm
      subst hsp1
      obtain ⟨m3, m4, own', V, Z, r3, ra, r4, hP, st⟩ := prune_end k2.wf hG2 hT2 hI hi hq hb (by omega) (fun r hr hu => absurd (up_ok hu hr).2.1 hin) hc
      have l2 : mk.rdN m.next 0 3 = some [iv i, iv c, iv q.at] := a2.rdN (by show 0 + 3 ≤ 3; omega)
      simp -implicitDefEqProofs only [o_e5, r_e5_6, r_e5_9, r_e5_11, r_e5_19, r_e5_21, r_e5_22, r_e5_24, f0, f1, f3, f4, f5, f8, f13, f15, f33, f34, aD (q.first : Int) ((1 : Nat) : Int), show ((q.first : Int) + ((1 : Nat) : Int) ≤ (keep : Int)) = False from eq_false (by omega), show ((q.first : Int) < (keep : Int)) = False from eq_false (by omega), l2, r3.eq, ra, r4.eq, ↓reduceIte, Nat.reduceEqDiff, Nat.reduceSub, wA, wB, wC, wD]
      exact ⟨own', V, Z, prune_leaf hi hq hin (by omega) hP, st.ft k02⟩
     | succ d' =>
      have hin : q.inn := (dep_inn hq).2 (by omega)
      have hd0 : (0 : Int) < ((d' + 1 : Nat) : Int) := by omega
      simp -implicitDefEqProofs only [o_e5, r_e5_6, r_e5_9, r_e5_11, r_e5_12, f0, f3, f4, f5, f15, f33, f34, aD (q.first : Int) (sp : Int), show ((q.first : Int) + (sp : Int) ≤ (keep : Int)) = False from eq_false (by omega), eq_true hd0, hper, ↓reduceIte, Nat.reduceEqDiff, wA, wB, wC, wD]
      refine GX_loop (fun j fr mk => ∃ n own' T Y, n ≤ 32 ∧ j = 32 - n ∧ (ev (tm 0) fr = .ptr tt 0 ∧ ev (tm 1) fr = .ptr A.o 0 ∧ ev (tm 3) fr = iv (q.first : Nat) ∧ ev (tm 4) fr = iv (keep : Nat) ∧ ev (tm 5) fr = iv ((d' + 1 : Nat) : Int) ∧ ev (tm 8) fr = .ptr m.next 0 ∧ ev (tm 13) fr = iv (b : Nat) ∧ ev (tm 15) fr = iv (sp : Nat) ∧ ev (tm 53) fr = iv 32 ∧ ev (tm 54) fr = iv (n : Nat)) ∧
       Pr I2 S X T Y i (PrC q keep n) ∧ Step m mk A T own own' ∧ At mk m.next ty_inode_slot true [iv i, iv c, iv q.at]) (k := 32) ⟨0, own, S, X, by omega, rfl, by simp -implicitDefEqProofs only [f0, f1, f3, f4, f5, f8, f13, f15, nc0, ev_tm, ↓reduceIte, Nat.reduceEqDiff, nc0, and_self], prune_zero hI hi q keep, (Step.rf hw hG).tf k02, a2⟩ ?_
      clear f0 f1 f3 f4 f5 f8 f13 f15 f33 f34 fr hlt
      rintro j fr mm ⟨n, own', T, Y, hn, rfl, ⟨f0, f1, f3, f4, f5, f8, f13, f15, f53, f54⟩, hP, st, aS⟩
      have hwm := st.kp.wf
      have hTm := hT.kp hw st.kp
      have hself := prune_self hi hq hin hn hP
      rw [hb] at hself
      by_cases hn32 : n < 32
      ·obtain ⟨c1, c2, c3, c4, c5⟩ := chd_ok hq hin hn32
       obtain ⟨m3, own3, V, Z, hP3, st3, r3⟩ := ih d' (by omega) (q := q.chd n) (c := b) (by omega) hwm st.at' hTm hP.inv c1 (.inr ⟨q, c2, hself, by omega⟩)
       rw [c3, c5, hd, hsp] at r3
       have hper' : mm.rd tt 13 = some (iv 32) := by rw [hTm.t.rd]; rfl
       have hs0 : mm.rd m.next 0 = some (iv i) := by rw [aS.rd]; rfl
       have hTm3 := hTm.kp hwm st3.kp
       have hper3 : m3.rd tt 13 = some (iv 32) := by rw [hTm3.t.rd]; rfl
       have aS3 := aS.kp hwm st3.kp
       have hs3 : m3.rd m.next 0 = some (iv i) := by rw [aS3.rd]; rfl
       have hml : (n : Int) * (sp : Int) = ((n * sp : Nat) : Int) := rfl
       have hnsp : n * sp ≤ 31 * 1024 := Nat.mul_le_mul (by omega) hpw
       have hmul := b_mulI ty_int (a := (n : Int)) (b := (sp : Int)) (by rw [hml]; omega) (by rw [hml]; omega)
       rw [hml] at hmul
       have hquo : binS Tryz.prog .quo ty_int (iv ((n * sp : Nat) : Int)) (iv 32) = some (iv ((n * sp / 32 : Nat) : Int)) := b_quo (b := 32) ty_int (by omega) (by omega)
       have hns : n * sp / 32 ≤ 100000 := by omega
       generalize n * sp / 32 = ns at *
       have hsm : (q.first : Int) + (ns : Int) = ((q.first + ns : Nat) : Int) := rfl
       have hdm : ((d' + 1 : Nat) : Int) - 1 = (d' : Int) := by omega
       simp -implicitDefEqProofs only [o_e5, r_e5_13, r_e5_14, r_e5_15, r_e5_16, r_e5_18, f0, f1, f3, f4, f5, f8, f13, f15, f53, f54, show ((n : Int) < 32) = True from eq_true (by omega), hs0, hmul, hper', hquo, aD (q.first : Int) (ns : Int), hsm, sB ((d' + 1 : Nat) : Int) 1, hdm, r3.eq, aD (n : Int) 1, ↓reduceIte, Nat.reduceEqDiff, Nat.reduceAdd, Nat.reduceLeDiff, List.getElem?_cons_succ, List.getElem?_cons_zero, exists_eq_left', wA, wB, wC, wD]
       exact LK_n (k' := 32 - (n + 1)) (by omega) ⟨n + 1, own3, V, Z, by omega, rfl, by simp -implicitDefEqProofs only [f0, f1, f3, f4, f5, f8, f13, f15, f53, show (n : Int) + 1 = ((n + 1 : Nat) : Int) from rfl, ev_tm, ↓reduceIte, Nat.reduceEqDiff, and_self], prune_step hi hP hP3, st.trans st3, aS3⟩
      ·obtain rfl : n = 32 := by omega
       by_cases hfk2 : q.first < keep
       ·simp -implicitDefEqProofs only [o_e5, r_e5_13, r_e5_19, r_e5_20, f3, f4, f53, f54, show (((32 : Nat) : Int) < 32) = False from eq_false (by omega), show ((q.first : Int) < (keep : Int)) = True from eq_true (by omega), ↓reduceIte, Nat.reduceEqDiff, Nat.reduceSub, wA, wB, wC, wD]
        exact ⟨own', T, Y, prune_part hi hq hin hfk2 hP, st⟩
       ·have hc' : (∃ k, q = .r k ∧ c = 0) ∨ ∃ w, q.up = some w ∧ nd T (Y i) w = c ∧ c ≠ 0 := by
         rcases hc with h | ⟨w, h1, h2, h3⟩
         ·exact .inl h
         ·exact .inr ⟨w, h1, (prune_up hi hq hin hn hP h1).trans h2, h3⟩
        obtain ⟨m3, m4, own3, V, Z, r3, ra, r4, hP3, st3⟩ := prune_end hwm st.at' hTm hP.inv hi hq hself (by omega) (fun r hr hu => prune_below hi hq (by omega) hP hr hu) hc'
        have l2 : mm.rdN m.next 0 3 = some [iv i, iv c, iv q.at] := aS.rdN (by show 0 + 3 ≤ 3; omega)
        simp -implicitDefEqProofs only [o_e5, r_e5_13, r_e5_19, r_e5_21, r_e5_22, r_e5_24, f0, f1, f3, f4, f8, f13, f53, f54, show (((32 : Nat) : Int) < 32) = False from eq_false (by omega), show ((q.first : Int) < (keep : Int)) = False from eq_false (by omega), l2, r3.eq, ra, r4.eq, ↓reduceIte, Nat.reduceEqDiff, Nat.reduceSub, wA, wB, wC, wD]
        exact ⟨own3, V, Z, prune_all hi hq hin (by omega) hP hP3, st.trans st3⟩
  obtain ⟨v, m', ⟨rfl, own', T, Y, g1, g2⟩, r⟩ := key.ran
  exact ⟨m', own', T, Y, g1, g2, r⟩
end
section
variable {m m' : M} {A : Ad} {S : PS} {own : Nat → Prop} {tt aa : Nat} {X : Nat → Ino} {i : Nat}
theorem r_small {k : Nat} (h : k < 8) : (Pa.r k).dep = 0 ∧ (Pa.r k).first = k := by
 constructor
 ·show (if k = 9 then 2 else if k = 8 then 1 else 0) = 0
  rw [if_neg (by omega), if_neg (by omega)]
 ·show (if k = 9 then 40 else k) = k
  rw [if_neg (by omega)]
set_option maxHeartbeats 4000000 in
set_option maxRecDepth 20000 in
theorem Cut_ran (hw : Wf m) (h : GAt m A S own) (ht : TAt m tt aa A.g) (hI : Inv S I2 X) (hi : i ∈ I2) {s : Nat} (hs : s ≤ 68096) :
  ∃ m' own' T Y V, Pr I2 S X T Y i (PrR ((s + 63) / 64) 10) ∧ Ptd T I2 Y V i { Y i with size := s } ∧ Step m m' A V own own' ∧ Ran Tryz.prog tb fn_d8 [.ptr tt 0, .ptr A.o 0, iv i, iv s] m (iv 0) m' := by
 have key : WpF Tryz.prog tb fn_d8 [.ptr tt 0, .ptr A.o 0, iv i, iv s] m fun v m' => v = iv 0 ∧ ∃ own' T Y V, Pr I2 S X T Y i (PrR ((s + 63) / 64) 10) ∧ Ptd T I2 Y V i { Y i with size := s } ∧ Step m m' A V own own' := by
  have hp : m.rdN tt 1 12 = some planL := ht.t.rdN (by show 1 + 12 ≤ 14; omega)
  have rP := Place_ran (m := m) (i2_or hi)
  have rM : Ran Tryz.prog tb fn_plan_MaxSize [.agg planL] m (.tuple [iv 68096, iv 0]) m := known_ran Tryz.func57 rfl
  have h64 : m.rd tt 1 = some (iv 64) := by rw [ht.t.rd]; rfl
  have hks : (s : Int) + 64 - 1 = ((s + 63 : Nat) : Int) := by omega
  have hq : binS Tryz.prog .quo ty_int (iv ((s + 63 : Nat) : Int)) (iv 64) = some (iv (((s + 63) / 64 : Nat) : Int)) := b_quo (b := 64) ty_int (by omega) (by omega)
  have hkeep : (s + 63) / 64 ≤ 2000 := by omega
  refine WpF.go at_d8 ?_
  simp -implicitDefEqProofs only [o_d8, r_d8_0, r_d8_1, r_d8_3, r_d8_4, r_d8_5, r_d8_7, r_d8_8, b_np26, hp, rP.eq, rM.eq, show ((s : Int) < 0) = False from eq_false (by omega), show ((68096 : Int) < (s : Int)) = False from eq_false (by omega), h64, aD (s : Int) 64, sB ((s : Int) + 64) 1, hks, hq, ↓reduceIte, Nat.reduceEqDiff, Nat.reduceAdd, List.getElem?_cons_succ, List.getElem?_cons_zero, exists_eq_left', wA, wB, wC, wD]
  generalize (s + 63) / 64 = keep at *
  refine GX_loop (fun j fr mk => ∃ n own' T Y, n ≤ 8 ∧ j = 8 - n ∧ (ev (tm 0) fr = .ptr tt 0 ∧ ev (tm 1) fr = .ptr A.o 0 ∧ ev (tm 2) fr = iv i ∧ ev (tm 3) fr = iv s ∧ ev (tm 14) fr = iv (keep : Nat) ∧ ev (tm 69) fr = iv (n : Nat)) ∧ Pr I2 S X T Y i (PrR keep n) ∧ Step m mk A T own own') (k := 8)
   ⟨0, own, S, X, by omega, rfl, by simp -implicitDefEqProofs only [nc0, ev_tm, ↓reduceIte, Nat.reduceEqDiff, nc0, and_self], cut_zero hI hi keep, .rf hw h⟩ ?_
  rintro j fr mk ⟨n, own1, T, Y, hn, rfl, ⟨f0, f1, f2, f3, f14, f69⟩, hP, st⟩
  have hwk := st.kp.wf
  have hTk := ht.kp hw st.kp
  by_cases hlt : n < 8
  ·obtain ⟨d1, d2⟩ := r_small hlt
   obtain ⟨m1, own2, V, Z, hP1, st1, r1⟩ := prune_ran hkeep hi 0 (q := .r n) (c := 0) d1 hwk st.at' hTk hP.inv (show n < 10 by omega) (.inl ⟨n, rfl, rfl⟩)
   rw [d2] at r1
   have r1 : Ran Tryz.prog tb fn_e5 [.ptr tt 0, .ptr A.o 0, .agg [iv i, iv 0, iv n], iv n, iv keep, iv 0] mk (iv 0) m1 := r1
   simp -implicitDefEqProofs only [o_d8, r_d8_9, r_d8_10, r_d8_11, r_d8_12, r_d8_14, f0, f1, f2, f14, f69, show ((n : Int) < 8) = True from eq_true (by omega), r1.eq, aD (n : Int) 1, ↓reduceIte, Nat.reduceEqDiff, Nat.reduceAdd, Nat.reduceLeDiff, wA, wB, wC, wD]
   exact LK_n (k' := 8 - (n + 1)) (by omega) ⟨n + 1, own2, V, Z, by omega, rfl, by simp -implicitDefEqProofs only [f0, f1, f2, f3, f14, show (n : Int) + 1 = ((n + 1 : Nat) : Int) from rfl, ev_tm, ↓reduceIte, Nat.reduceEqDiff, and_self], cut_step hi hP hP1, st.trans st1⟩
  ·obtain rfl : n = 8 := by omega
   obtain ⟨m1, own2, V1, Z1, hP1, st1, r1⟩ := prune_ran hkeep hi 1 (q := .r 8) (c := 0) rfl hwk st.at' hTk hP.inv (show 8 < 10 by omega) (.inl ⟨8, rfl, rfl⟩)
   have r1 : Ran Tryz.prog tb fn_e5 [.ptr tt 0, .ptr A.o 0, .agg [iv i, iv 0, iv 8], iv 8, iv keep, iv 1] mk (iv 0) m1 := r1
   have hw1 := st1.kp.wf
   have hT1 := hTk.kp hwk st1.kp
   have hper : m1.rd tt 13 = some (iv 32) := by rw [hT1.t.rd]; rfl
   obtain ⟨m2, own3, V2, Z2, hP2, st2, r2⟩ := prune_ran hkeep hi 2 (q := .r 9) (c := 0) rfl hw1 st1.at' hT1 hP1.inv (show 9 < 10 by omega) (.inl ⟨9, rfl, rfl⟩)
   have r2 : Ran Tryz.prog tb fn_e5 [.ptr tt 0, .ptr A.o 0, .agg [iv i, iv 0, iv 9], iv 40, iv keep, iv 2] m1 (iv 0) m2 := r2
   have hw2 := st2.kp.wf
   have hT2 := hT1.kp hw1 st2.kp
   have hPA := cut_step hi (cut_step hi hP hP1) hP2
   have stA := (st.trans st1).trans st2
   obtain ⟨hi6, hx, ho⟩ := hP2.inv.ino i hi
   obtain ⟨m3, k3, r3⟩ := Get_ran hw2 st2.at' hT2 (i2_or hi) hx ho
   obtain ⟨t, g1, g2, g3⟩ := id hx
   have hox : ({ Z2 i with size := s } : Ino).Ok := ⟨ho.k1, ho.k2, ho.ln, by show s < 4294967296; omega, ho.len, ho.p⟩
   have hpt : Ptd V2 I2 Z2 (V2.wr 35 (spl t (32 * (i % 2)) (enc { Z2 i with size := s }))) i { Z2 i with size := s } := by
    have := Ptd.of hP2.inv hi g1 g2 (x' := { Z2 i with size := s }) hox rfl
    rwa [i2_tbl hi] at this
   rw [i2_tbl hi] at g1
   obtain ⟨m4, e4, a4, k4, n4⟩ := addZ_at k3.wf ty_api_Inode 13 z13
   have hn3 := k3.next
   have hX : (inoL (Z2 i).kind (Z2 i).links (Z2 i).size (Z2 i).ps).length = 13 := by rw [inoL_len, ho.len]
   generalize hgz : Z2 i = x at *
   obtain ⟨kd, lk, sz, ps⟩ := x
   have h5 := ho.len
   simp only at h5
   obtain ⟨p0, p1, p2, p3, p4, p5, p6, p7, p8, p9, rfl⟩ := ten h5
   have hin : ∀ z, inoL kd lk z [p0, p1, p2, p3, p4, p5, p6, p7, p8, p9] = [ivn kd, ivn lk, ivn z, ivn p0, ivn p1, ivn p2, ivn p3, ivn p4, ivn p5, ivn p6, ivn p7, ivn p8, ivn p9] := fun _ => rfl
   obtain ⟨m5, e5, a5, k5, n5⟩ := a4.st k4.wf 0 [ivn kd, ivn lk, ivn sz, ivn p0, ivn p1, ivn p2, ivn p3, ivn p4, ivn p5, ivn p6, ivn p7, ivn p8, ivn p9]
   have k35 : Keep m3 m5 fun _ => False := k4.trans k5 fun b hb e => by omega
   rw [hin] at r3
   obtain ⟨m6, e6, a6, k6, n6⟩ := a5.st k35.wf 2 [ivn s]
   have k26 : Keep m2 m6 fun _ => False := (k3.tf k35).trans k6 fun b hb e => by omega
   obtain ⟨m7, own4, st7, r7⟩ := Put_ran k26.wf (st2.at'.k0 hw2 k26) (hT2.k0 hw2 k26) (i2_or hi) g1 hox
   rw [hin] at r7
   have hl6 : m6.rdN m3.next 0 13 = some [ivn kd, ivn lk, ivn s, ivn p0, ivn p1, ivn p2, ivn p3, ivn p4, ivn p5, ivn p6, ivn p7, ivn p8, ivn p9] := a6.rdN (by show 0 + 13 ≤ 13; omega)
   simp -implicitDefEqProofs only [o_d8, r_d8_9, r_d8_15, r_d8_16, r_d8_18, r_d8_19, r_d8_21, r_d8_22, r_d8_24, r_d8_25, f0, f1, f2, f3, f14, f69, show (((8 : Nat) : Int) < 8) = False from eq_false (by omega), r1.eq, hper, aD (8 : Int) 32, show (8 : Int) + 32 = 40 from rfl, r2.eq, r3.eq, e4, e5, e6, hl6, r7.eq, ↓reduceIte, Nat.reduceEqDiff, Nat.reduceAdd, Nat.reduceSub, Nat.reduceLeDiff, List.getElem?_cons_succ, List.getElem?_cons_zero, wA, wB, wC, wD]
   refine ⟨own4, V2, Z2, _, hPA, ?_, stA.trans (st7.ft k26)⟩
   rw [hgz]
   exact hpt
 obtain ⟨v, m', ⟨rfl, own', T, Y, V, g1, g2, g3⟩, r⟩ := key.ran
 exact ⟨m', own', T, Y, V, g1, g2, g3, r⟩
end
section
variable {m m' : M} {A : Ad} {S : PS} {own : Nat → Prop} {tt aa : Nat} {X : Nat → Ino} {i : Nat}
set_option maxHeartbeats 1000000 in
theorem Truncate_ran (hw : Wf m) (h : GAt m A S own) (ht : TAt m tt aa A.g) (hF : FS S I2 X) (hi : i ∈ I2) {s : Nat} (hs : s ≤ 68096) :
  ∃ m' own' T Y, Trt S I2 X T Y i s ∧ Step m m' A T own own' ∧ Ran Tryz.prog tb fn_g3 [.ptr A.o 0, .ptr tt 0, .agg planL, iv i, iv s] m (iv 0) m' := by
 obtain ⟨m1, e1, a1, k1, n1⟩ := addL_at hw ty_api_Plan 12 planL
 have l1 : m1.rdN m.next 0 12 = some planL := a1.rdN (by show 0 + 12 ≤ 12; omega)
 have rM : Ran Tryz.prog tb fn_plan_MaxSize [.agg planL] m1 (.tuple [iv 68096, iv 0]) m1 := known_ran Tryz.func57 rfl
 obtain ⟨m2, c, a2, k2, n2, r2⟩ := open_ran k1.wf (h.k0 hw k1) (ht.k0 hw k1) hF.inv hi (iv 64) (iv 90) (iv 6) (iv 30) (iv 2) (iv 32) (iv 1) (iv 33) (iv 1) (iv 34) (iv 3) (iv 37)
 have k02 := k1.tf k2
 obtain ⟨m3, own3, U, Z, R, hP, hPt, st3, r3⟩ := Cut_ran k02.wf (h.k0 hw k02) (ht.k0 hw k02) hF.inv hi hs
 have hC := Ctd.of hi hF.inv hF.dat hP
 have hw3 := st3.kp.wf
 have a3 := a2.kp k02.wf st3.kp
 have hsz := hF.sz i hi
 obtain ⟨m4, own4, T, hT, hnd, st4, r4⟩ := tail_ran hw3 st3.at' ((ht.k0 hw k02).kp k02.wf st3.kp) hPt.inv (hPt.dat hC.inv hC.dat) hi (s := min s (X i).size) a3 (by omega)
 have hsz3 : m3.rd c 17 = some (ivn (X i).size) := by rw [a3.rd]; rfl
 have hmin : min (s : Int) ((X i).size : Int) = ((min s (X i).size : Nat) : Int) := by omega
 refine ⟨m4, own4, T, _, Trt.of hF hi hs hC hPt hT (fun q hq => hnd i hi q hq), (st3.ft k02).trans st4, ?_⟩
 refine WpF.go at_g3 ?_
 simp -implicitDefEqProofs only [o_g3, r_g3_0, r_g3_1, r_g3_3, r_g3_4, r_g3_6, r_g3_7, r_g3_9, r_g3_10, r_g3_12, e1, l1, rM.eq, show ((s : Int) < 0) = False from eq_false (by omega), show ((68096 : Int) < (s : Int)) = False from eq_false (by omega), r2.eq, r3.eq, hsz3, hmin, r4.eq, ↓reduceIte, Nat.reduceEqDiff, Nat.reduceAdd, List.getElem?_cons_succ, List.getElem?_cons_zero, wA, wB, wC, wD]
end
theorem nzs_map (f : Nat → Nat) : ∀ l : List Nat, (nzs (l.map f)).length = (l.filter fun k => decide (f k ≠ 0)).length
 | [] => rfl
 | k :: l => by
  have ih := nzs_map f l
  unfold nzs at ih ⊢
  rw [List.map_cons, List.filter_cons, List.filter_cons]
  by_cases h : f k = 0
  ·rw [if_neg (by simpa using h), if_neg (by simpa using h)]; exact ih
  ·rw [if_pos (by simpa using h), if_pos (by simpa using h), List.length_cons, List.length_cons, ih]
theorem nDirty_eq {S : PS} {x : Ino} {L : List (Nat × Nat)} (h : PrOk S x L) : nDirty S x = L.length := by
 rw [← cnt_data h]
 unfold nDirty cntN dataL
 rw [nzs_map, List.length_map, List.length_range]
section
variable {m m' : M}
set_option maxHeartbeats 4000000 in
set_option maxRecDepth 20000 in
theorem holes_spec {q : Option Blk} {at' size : Int} {x : UInt8} : WpF Tryz.prog tb fn_h8 [iv at', .y x.toNat, iv size] (mS q) fun v _ => v = .b true := by
 by_cases hg : at' < 64 ∨ 3000 < at' ∨ size < 0 ∨ 3000 < size ∨ x.toNat = 0
 ·refine WpF.go at_h8 ?_
  by_cases h1 : at' < 64
  ·simp -implicitDefEqProofs only [o_h8, r_h8_0, r_h8_1, r_h8_3, r_h8_4, wakesF_ran.eq, eq_true h1, ↓reduceIte, Nat.reduceEqDiff, Nat.reduceAdd, wA, wB, wC, wD]
  ·by_cases h2 : 3000 < at'
   ·simp -implicitDefEqProofs only [o_h8, r_h8_0, r_h8_1, r_h8_3, r_h8_4, wakesF_ran.eq, eq_false h1, eq_true h2, ↓reduceIte, Nat.reduceEqDiff, Nat.reduceAdd, wA, wB, wC, wD]
   ·by_cases h3 : size < 0
    ·simp -implicitDefEqProofs only [o_h8, r_h8_0, r_h8_1, r_h8_3, r_h8_4, wakesF_ran.eq, eq_false h1, eq_false h2, eq_true h3, ↓reduceIte, Nat.reduceEqDiff, Nat.reduceAdd, wA, wB, wC, wD]
    ·by_cases h4 : 3000 < size
     ·simp -implicitDefEqProofs only [o_h8, r_h8_0, r_h8_1, r_h8_3, r_h8_4, wakesF_ran.eq, eq_false h1, eq_false h2, eq_false h3, eq_true h4, ↓reduceIte, Nat.reduceEqDiff, Nat.reduceAdd, wA, wB, wC, wD]
     ·have h5 : x.toNat = 0 := by omega
      simp -implicitDefEqProofs only [o_h8, r_h8_0, r_h8_1, r_h8_3, r_h8_4, wakesF_ran.eq, eq_false h1, eq_false h2, eq_false h3, eq_false h4, b_eqY, h5, ↓reduceIte, Nat.reduceEqDiff, Nat.reduceAdd, wA, wB, wC, wD]
 ·obtain ⟨a, rfl⟩ : ∃ a : Nat, at' = a := ⟨at'.toNat, by omega⟩
  obtain ⟨s, rfl⟩ : ∃ s : Nat, size = s := ⟨size.toNat, by omega⟩
  have hx0 : x.toNat ≠ 0 := fun e => hg (.inr (.inr (.inr (.inr e))))
  obtain ⟨m2, hm⟩ : ∃ m2, mQ q = some m2 := by
   obtain ⟨mz, ez, az, kz, nz⟩ := addZ_at (wf_mS q) ty_api_Plan 12 z12
   obtain ⟨mw, ew, aw, kw, nw⟩ := az.st kz.wf 0 planL
   have e1 : (mS q).next = 1 := rfl
   rw [e1] at ew
   refine ⟨mw, ?_⟩
   unfold mQ
   rw [ez, ew]
  obtain ⟨m1, hw1, k01, hpl, hG, hT, r1⟩ := made_ran hm
  have hm' : ((mS q).addZ ty_api_Plan 12 z12).wr 1 0 planL = some m2 := hm
  have e1 : (mS q).next = 1 := rfl
  have hpl2 : m2.rdN 1 0 12 = some planL := by
   obtain ⟨mz, ez, az, kz, nz⟩ := addZ_at (wf_mS q) ty_api_Plan 12 z12
   obtain ⟨mw, ew, aw, kw, nw⟩ := az.st kz.wf 0 planL
   rw [e1] at ew aw
   rw [ez, ew] at hm'
   cases hm'
   exact aw.rdN (by show 0 + 12 ≤ 12; omega)
  have h2 : 2 ∈ I2 := by decide
  have c2i : ((2 : Nat) : Int) = 2 := rfl
  have A2o : (.ptr A2.o 0 : AV) = .ptr 430 0 := rfl
  have pl : ∀ {mk}, At mk 1 ty_api_Plan true planL → mk.rdN 1 0 12 = some planL := fun h => h.rdN (by show 0 + 12 ≤ 12; omega)
  have K1 : Fks m1 nils [] none (S0 2) (own0 2) (X0 2) := ⟨hw1, hG, hT, fs0 (.inr rfl), .nil, hpl⟩
  -- one byte is written
  obtain ⟨m3, e3, a3, k3, n3⟩ := addL_at hw1 ty_uint8 1 [.y x.toNat]
  have K3 := K1.keep k3
  have hbs : BsAt m3 (.slice m1.next 0 [x].length 1 false) [x] m1.next := .row a3.r (by show 0 + 1 ≤ 1; omega) rfl
  have rW : WpF Tryz.prog tb fn_g4 [.ptr A2.o 0, .ptr 181 0, .agg planL, iv (2 : Nat), iv a, .slice m1.next 0 [x].length 1 false] m3 fun v m' => ∃ own' T Y, v = iv 0 ∧ Wrt (S0 2) I2 (X0 2) T Y 2 a [x] ∧ Step m3 m' A2 T (own0 2) own' :=
   Write_ran (w := 3) K3.wf K3.g K3.t K3.f h2 hbs (Nat.le_refl _) a3.kd (by decide) (by simp) (by show 1 ≤ 4096; omega) (by show a + 1 ≤ 68096; omega) (fun k _ _ => (way_len _).2) (fun m' own' T Y hW _ st => ⟨own', T, Y, rfl, hW, st⟩) (fun h53 => by
    rw [cnt0] at h53
    have : npc a [x].length ≤ 1 := by
     unfold npc
     show (if 1 = 0 then 0 else (a + 1 - 1) / 64 - a / 64 + 1) ≤ 1
     rw [if_neg (by omega)]; omega
    have := Nat.mul_le_mul_left 3 this
    omega)
  obtain ⟨v4, m4, ⟨own4, T1, Y1, rfl, hW, st4⟩, r4⟩ := rW.ran
  have K4 := K3.step st4 hW.fs
  rw [c2i, A2o] at r4
  have r4 : Ran Tryz.prog tb fn_g4 [.ptr 430 0, .ptr 181 0, .agg planL, iv 2, iv a, .slice m1.next 0 1 1 false] m3 (iv 0) m4 := r4
  -- which blocks there are
  have hz1 : ∀ n, n ≤ 1063 → (nd T1 (Y1 2) (leafOf n) ≠ 0 ↔ n = a / 64) := fun n hn => by
   have h1 : nd T1 (Y1 2) (leafOf n) = 0 ↔ nd (S0 2) (X0 2 2) (leafOf n) = 0 ∧ ¬ (a < 64 * n + 64 ∧ 64 * n < a + 1) := hW.zr n hn
   rw [nd0] at h1
   constructor
   ·intro h
    have : ¬ ¬ (a < 64 * n + 64 ∧ 64 * n < a + 1) := fun e => h (h1.2 ⟨rfl, e⟩)
    omega
   ·rintro rfl h
    exact (h1.1 h).2 ⟨by omega, by omega⟩
  have hP1 : PrOk T1 (Y1 2) [(a / 64, nd T1 (Y1 2) (leafOf (a / 64)))] := ⟨by simp, fun e he => by
   obtain rfl := List.mem_singleton.1 he
   exact ⟨by show a / 64 ≤ 1063; omega, rfl, (hz1 _ (by omega)).2 rfl⟩, fun k hk h => by
   have := (hz1 k hk).1 h
   subst this
   simp⟩
  obtain ⟨m5, x5, o5, L5, hL5, D5, f5, k5, r5⟩ := Dirty_ran K4.wf K4.g K4.t K4.f.inv h2
  have K5 := K4.keep k5
  rw [nDirty_eq hP1] at D5
  rw [c2i, A2o] at r5
  obtain ⟨m6, own6, T2, Y2, hT2, st6, r6⟩ := Truncate_ran (s := s) K5.wf K5.g K5.t K5.f h2 (by omega)
  have K6 := K5.step st6 hT2.fs
  obtain ⟨m7, own7, T3, Y3, hT3, st7, r7⟩ := Truncate_ran (s := a + 1) K6.wf K6.g K6.t K6.f h2 (by omega)
  have K7 := K6.step st7 hT3.fs
  rw [c2i, A2o] at r6 r7
  have hsz := hT3.sz
  obtain ⟨m8, ob, C8, f8, k8, r8⟩ := Read_ran (at' := a) (n := 5) (l := 1) K7.wf K7.g K7.t K7.f.inv K7.f.dat h2 (by omega) (by omega) (K7.f.sz 2 h2) (by omega)
  have K8 := K7.keep k8
  rw [c2i, A2o, show ((5 : Nat) : Int) = 5 from rfl] at r8
  obtain ⟨m9, x9, o9, L9, hL9, D9, f9, k9, r9⟩ := Dirty_ran K8.wf K8.g K8.t K8.f.inv h2
  rw [c2i, A2o] at r9
  have hb1 : fby T1 (Y1 2) a = x := by
   rw [hW.by' a (by omega), if_pos ⟨Nat.le_refl _, by show a < a + 1; omega⟩, Nat.sub_self]; rfl
  have hby : fby T3 (Y3 2) a = if s ≤ a then 0 else x := by
   rw [hT3.by' a (by omega), if_neg (by omega), hT2.by' a (by omega), hb1]
  have hn9 : nDirty T3 (Y3 2) ≤ 1 := by
   by_cases h0 : nd T3 (Y3 2) (leafOf (a / 64)) = 0
   ·have : PrOk T3 (Y3 2) [] := ⟨by simp, fun e he => (by cases he), fun k hk h => by
     rw [hT3.lf k hk] at h
     by_cases h1 : a + 1 ≤ 64 * k
     ·rw [if_pos h1] at h; exact absurd rfl h
     ·rw [if_neg h1, hT2.lf k hk] at h
      by_cases h2' : s ≤ 64 * k
      ·rw [if_pos h2'] at h; exact absurd rfl h
      ·rw [if_neg h2'] at h
       have := (hz1 k hk).1 h
       subst this
       rw [hT3.lf _ hk, if_neg h1, hT2.lf _ hk, if_neg h2'] at h0
       exact absurd h0 h⟩
    rw [nDirty_eq this]; exact Nat.zero_le _
   ·have : PrOk T3 (Y3 2) [(a / 64, nd T3 (Y3 2) (leafOf (a / 64)))] := ⟨by simp, fun e he => by
     obtain rfl := List.mem_singleton.1 he
     exact ⟨by show a / 64 ≤ 1063; omega, rfl, h0⟩, fun k hk h => by
     rw [hT3.lf k hk] at h
     by_cases h1 : a + 1 ≤ 64 * k
     ·rw [if_pos h1] at h; exact absurd rfl h
     ·rw [if_neg h1, hT2.lf k hk] at h
      by_cases h2' : s ≤ 64 * k
      ·rw [if_pos h2'] at h; exact absurd rfl h
      ·rw [if_neg h2'] at h
       have := (hz1 k hk).1 h
       subst this
       simp⟩
    rw [nDirty_eq this]; exact Nat.le_refl _
  have hrd9 : m9.rd ob 0 = some (.y (if s ≤ a then 0 else x).toNat) := by
   rw [(C8.keep k8.wf k9 id).rd]
   have : rdF T3 (Y3 2) a 1 = [fby T3 (Y3 2) a] := rfl
   rw [this, hby]; rfl
  have hia := v_iaS (m := m9) 1 ob 0 1 1 false (show 0 < 1 by omega)
  have hia : rIaS 1 (.cst (.slice ob 0 1 1 false)) (.cst (iv 0)) .leaf m9 = some (.ptr ob 0, m9) := hia
  have hle9 : ((nDirty T3 (Y3 2) : Nat) : Int) ≤ 1 := by omega
  have hl9 : lenK false x9 = some (nDirty T3 (Y3 2)) := D9.len
  have hl5 : lenK false x5 = some 1 := D5.len
  have hadd : (a : Int) + 1 = ((a + 1 : Nat) : Int) := rfl
  refine WpF.go at_h8 ?_
  by_cases hsa : s ≤ a
  ·rw [if_pos hsa] at hrd9
   have hrd9 : m9.rd ob 0 = some (.y 0) := hrd9
   simp -implicitDefEqProofs only [o_h8, r_h8_0, r_h8_1, r_h8_3, r_h8_5, r_h8_6, r_h8_7, r_h8_8, r_h8_9, r_h8_11, r_h8_12, r_h8_13, r_h8_14, r_h8_15, r_h8_16, r_h8_17, r_h8_18, wakesF_ran.eq, smallF_ran.eq, smallV, show ((a : Int) < 64) = False from eq_false (by omega), show ((3000 : Int) < (a : Int)) = False from eq_false (by omega), show ((s : Int) < 0) = False from eq_false (by omega), show ((3000 : Int) < (s : Int)) = False from eq_false (by omega), b_eqY, decide_eq_false hx0, e1, hm', hpl2, r1.eq, pl K1.pl, e3, r4.eq, r5.eq, hl5, show ((1 : Nat) : Int) = 1 from rfl, pl K5.pl, r6.eq, pl K6.pl, aD (a : Int) 1, hadd, r7.eq, pl K7.pl, r8.eq, r9.eq, show ((s : Int) ≤ (a : Int)) = True from eq_true (by omega), hia, hrd9, hl9, eq_true hle9, ↓reduceIte, Nat.reduceEqDiff, Nat.reduceAdd, Nat.reduceLeDiff, List.getElem?_cons_succ, List.getElem?_cons_zero, wA, wB, wC, wD]
  ·rw [if_neg hsa] at hrd9
   simp -implicitDefEqProofs only [o_h8, r_h8_0, r_h8_1, r_h8_3, r_h8_5, r_h8_6, r_h8_7, r_h8_8, r_h8_9, r_h8_11, r_h8_12, r_h8_13, r_h8_14, r_h8_15, r_h8_16, r_h8_18, wakesF_ran.eq, smallF_ran.eq, smallV, show ((a : Int) < 64) = False from eq_false (by omega), show ((3000 : Int) < (a : Int)) = False from eq_false (by omega), show ((s : Int) < 0) = False from eq_false (by omega), show ((3000 : Int) < (s : Int)) = False from eq_false (by omega), b_eqY, decide_eq_false hx0, e1, hm', hpl2, r1.eq, pl K1.pl, e3, r4.eq, r5.eq, hl5, show ((1 : Nat) : Int) = 1 from rfl, pl K5.pl, r6.eq, pl K6.pl, aD (a : Int) 1, hadd, r7.eq, pl K7.pl, r8.eq, r9.eq, show ((s : Int) ≤ (a : Int)) = False from eq_false (by omega), hia, hrd9, hl9, eq_true hle9, ↓reduceIte, Nat.reduceEqDiff, Nat.reduceAdd, Nat.reduceLeDiff, List.getElem?_cons_succ, List.getElem?_cons_zero, wA, wB, wC, wD]
end
end Go.Proofs.YtooooiidpaecmaaGreat
