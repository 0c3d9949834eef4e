import Derived.Test.YthbfinjddaembaaGreatWuh
set_option linter.unusedVariables false
set_option linter.unusedSimpArgs false
/- slices.Concat of two slices of bytes. -/
namespace Go.Am
open Go Go.RowKit
theorem o_cap (x : RO) (fr : Fr) (m : M) : run (.cap x) fr m = rCap (.cst (ev x fr)) .leaf m := rfl
theorem v_cap0 (m : M) : rCap (.cst nils) .leaf m = some (iv 0, m) := rfl
theorem v_take0 (m : M) : rSl 1 false (.cst nils) none (some (.cst (iv 0))) none .leaf m = some (nils, m) := rfl
end Go.Am
namespace Go.Proofs.YthbfinjddaembaaGreat
open Go Go.Am
section
variable {m : M}
theorem grow0 {k : Nat} (hw : Wf m) (h0 : 0 < k) (hk : k ≤ 100000) : ∃ m' s b, SlAt m' ty_uint8 1 s 0 [] (some b) ∧ Keep m m' (fun _ => False) ∧ m.next ≤ b ∧ Ran Tryz.prog tb fn_c5 [nils, iv k] m s m' := by
  obtain ⟨s, m1, o1, e1, hs, k1, ho⟩ := (SlAt.nil (m := m) (e := ty_uint8) (sz := 1)).appz (bytes := 1) hw (k := k) rfl (by omega)
  have hob : ∃ b, o1 = some b ∧ m.next ≤ b := by
    rcases ho with e | ⟨b, e, h4, _⟩
    · subst e
      generalize hq : 0 + k = q at hs
      generalize [] ++ List.replicate k (AV.y 0) = ys at hs
      cases hs
      omega
    · exact ⟨b, e, h4⟩
  obtain ⟨b, rfl, hb⟩ := hob
  have ht := hs.run_take (k := 0) (Nat.zero_le _) m1
  rw [nc0] at ht
  have hs' := hs.take (k := 0) (Nat.zero_le _)
  rw [Nat.zero_mul, List.take_zero] at hs'
  refine ⟨m1, _, b, hs', k1.mono (fun x _ e => nomatch e), hb, ?_⟩
  have hC : (k : Int) - 0 = (k : Int) := by omega
  have hD : (0 : Int) - 0 = 0 := rfl
  refine WpF.go at_c5 ?_
  simp -implicitDefEqProofs only [o_c5, r_c5_0, r_c5_1, r_c5_3, r_c5_4, r_c5_5, r_c5_6, show ((k : Int) < 0) = False from eq_false (by omega), o_cap, v_cap0, b_sub ty_int (show -9223372036854775808 ≤ (0 : Int) - (0 : Int) by omega) (show (0 : Int) - (0 : Int) ≤ 9223372036854775807 by omega), hD, b_sub ty_int (show -9223372036854775808 ≤ (k : Int) - (0 : Int) by omega) (show (k : Int) - (0 : Int) ≤ 9223372036854775807 by omega), hC, show ((0 : Int) < (k : Int)) = True from eq_true (by omega), v_take0, o_appz, e1, ht, ↓reduceIte, Nat.reduceEqDiff, Nat.reduceAdd, wA, wB, wC, wD]
set_option maxRecDepth 20000 in
theorem concat2 {B b1 b2 : Nat} {x y : AV} {l1 l2 : Bs} (hw : Wf m) (hB : At m B ty_suint8 true [x, y]) (h1 : BsAt m x l1 b1) (h2 : BsAt m y l2 b2) (hp : 0 < l1.length + l2.length) (hl : l1.length + l2.length ≤ 100000) :
    ∃ m' s b, RowB m' s (l1 ++ l2) b ∧ Keep m m' (fun _ => False) ∧ m.next ≤ b ∧ Ran Tryz.prog tb fn_a7 [.slice B 0 2 2 false] m s m' := by
  obtain ⟨m1, s0, b0, hs0, k1, hb0, rg⟩ := grow0 hw hp hl
  have r0 : m.rd B 0 = some x := by rw [hB.rd]; rfl
  have r1 : m.rd B 1 = some y := by rw [hB.rd]; rfl
  let g : Nat → Nat := fun | 0 => 0 | 1 => l1.length | _ => l1.length + l2.length
  let lf : Nat → Bs := fun | 0 => [] | 1 => l1 | _ => l1 ++ l2
  have key : WpF Tryz.prog tb fn_a7 [.slice B 0 2 2 false] m fun v m' => ∃ s b, v = s ∧ RowB m' s (l1 ++ l2) b ∧ Keep m m' (fun _ => False) ∧ m.next ≤ b := by
    have q2 : ((2 : Nat) : Int) = 2 := rfl
    have hgN : ((g 2 : Nat) : Int) = ((l1.length + l2.length : Nat) : Int) := rfl
    refine WpF.go at_a7 ?_
    simp -implicitDefEqProofs only [o_a7, r_a7_0, r_a7_1, r_a7_2, q2, ↓reduceIte, Nat.reduceEqDiff, wA, wB, wC, wD]
    refine GX_loop (fun j fr mk => ∃ k, k ≤ 2 ∧ j = 2 - k ∧ (ev (tm 0) fr = .slice B 0 2 2 false ∧ ev (tm 3) fr = iv (g k : Nat) ∧ ev (tm 9) fr = .slice B 0 2 2 false ∧ ev (tm 10) fr = iv 2 ∧ ev (tm 11) fr = iv k) ∧ mk = m) (k := 2) ⟨0, Nat.zero_le _, rfl, by simp -implicitDefEqProofs only [↓reduceIte, Nat.reduceEqDiff, wA, wB, wC, wD]; exact rfl, rfl⟩ ?_
    rintro j fr mk ⟨k, hk, rfl, ⟨e0, e3, e9, e10, e11⟩, rfl⟩
    have hls1 : (l1.length : Int) ≤ 100000 := by omega
    have t1 : (0 : Int) + (l1.length : Int) = (l1.length : Int) := by omega
    have t2 : (l1.length : Int) + (l2.length : Int) = ((l1.length + l2.length : Nat) : Int) := by omega
    have i0 : rIaS 1 (.cst (.slice B 0 2 2 false)) (.cst (iv 0)) .leaf mk = some (.ptr B 0, mk) := v_iaS 1 B 0 2 2 false (k := 0) (by omega)
    have i1 : rIaS 1 (.cst (.slice B 0 2 2 false)) (.cst (iv 1)) .leaf mk = some (.ptr B 1, mk) := v_iaS 1 B 0 2 2 false (k := 1) (by omega)
    match k, hk with
    | 0, _ =>
      have e3 : ev (tm 3) fr = iv 0 := e3
      have e11 : ev (tm 11) fr = iv 0 := e11
      simp -implicitDefEqProofs only [o_a7, r_a7_3, r_a7_4, r_a7_5, r_a7_6, r_a7_8, e3, e9, e10, e11, show ((0 : Int) < 2) = True from eq_true (by omega), i0, r0, h1.len, b_add ty_int (show -9223372036854775808 ≤ (0 : Int) + (l1.length : Int) by omega) (show (0 : Int) + (l1.length : Int) ≤ 9223372036854775807 by omega), t1, show ((l1.length : Int) < 0) = False from eq_false (by omega), b_add ty_int (show -9223372036854775808 ≤ (0 : Int) + 1 by omega) (show (0 : Int) + 1 ≤ 9223372036854775807 by omega), ↓reduceIte, Nat.reduceEqDiff, Nat.reduceSub, wA, wB, wC, wD]
      exact LK_n (k' := 1) (by omega) ⟨1, by omega, rfl, by simp -implicitDefEqProofs only [e0, e9, e10, ev_tm, ↓reduceIte, Nat.reduceEqDiff, true_and]; exact ⟨rfl, rfl⟩, rfl⟩
    | 1, _ =>
      have e3 : ev (tm 3) fr = iv (l1.length : Nat) := e3
      have e11 : ev (tm 11) fr = iv 1 := e11
      simp -implicitDefEqProofs only [o_a7, r_a7_3, r_a7_4, r_a7_5, r_a7_6, r_a7_8, e3, e9, e10, e11, show ((1 : Int) < 2) = True from eq_true (by omega), i1, r1, h2.len, b_add ty_int (show -9223372036854775808 ≤ (l1.length : Int) + (l2.length : Int) by omega) (show (l1.length : Int) + (l2.length : Int) ≤ 9223372036854775807 by omega), t2, show (((l1.length + l2.length : Nat) : Int) < 0) = False from eq_false (by omega), b_add ty_int (show -9223372036854775808 ≤ (1 : Int) + 1 by omega) (show (1 : Int) + 1 ≤ 9223372036854775807 by omega), ↓reduceIte, Nat.reduceEqDiff, Nat.reduceSub, wA, wB, wC, wD]
      exact LK_n (k' := 0) (by omega) ⟨2, by omega, rfl, by simp -implicitDefEqProofs only [e0, e9, e10, ev_tm, ↓reduceIte, Nat.reduceEqDiff, true_and]; exact ⟨rfl, rfl⟩, rfl⟩
    | 2, _ =>
      have e3 : ev (tm 3) fr = iv ((l1.length + l2.length : Nat) : Int) := e3
      have e11 : ev (tm 11) fr = iv 2 := e11
      simp -implicitDefEqProofs only [o_a7, r_a7_3, r_a7_9, r_a7_10, e0, e3, e10, e11, show ((2 : Int) < 2) = False from eq_false (by omega), rg.eq, q2, ↓reduceIte, Nat.reduceEqDiff, Nat.reduceSub, wA, wB, wC, wD]
      refine GX_loop (fun j fr mk' => ∃ k, k ≤ 2 ∧ j = 2 - k ∧ (ev (tm 25) fr = .slice B 0 2 2 false ∧ ev (tm 26) fr = iv 2 ∧ ev (tm 27) fr = iv k) ∧ Keep mk mk' (fun _ => False) ∧ ∃ s b, ev (tm 6) fr = s ∧ SlAt mk' ty_uint8 1 s (g k) (ycells (lf k)) (some b) ∧ mk.next ≤ b) (k := 2) ⟨0, Nat.zero_le _, rfl, by simp -implicitDefEqProofs only [nc0, ev_tm, ↓reduceIte, Nat.reduceEqDiff, nc0, and_self], k1, s0, b0, by simp -implicitDefEqProofs only [ev_tm, ↓reduceIte, Nat.reduceEqDiff], hs0, hb0⟩ ?_
      clear e0 e3 e9 e10 e11
      rintro j fr m3 ⟨k, hk, rfl, ⟨e25, e26, e27⟩, kk, s, b, e6, hs, hb⟩
      have i0 : rIaS 1 (.cst (.slice B 0 2 2 false)) (.cst (iv 0)) .leaf m3 = some (.ptr B 0, m3) := v_iaS 1 B 0 2 2 false (k := 0) (by omega)
      have i1 : rIaS 1 (.cst (.slice B 0 2 2 false)) (.cst (iv 1)) .leaf m3 = some (.ptr B 1, m3) := v_iaS 1 B 0 2 2 false (k := 1) (by omega)
      have hB3 := hB.keep hw kk fun h => h
      have r0 : m3.rd B 0 = some x := by rw [hB3.rd]; rfl
      have r1 : m3.rd B 1 = some y := by rw [hB3.rd]; rfl
      match k, hk with
      | 0, _ =>
        have e27 : ev (tm 27) fr = iv 0 := e27
        obtain ⟨s', m4, o', ea, hs4, k4, ho⟩ := hs.append (bytes := 1) (z := [.y 0]) kk.wf (h1.keep hw kk fun h => h).src (room_of (show 0 + l1.length ≤ 4000000000000 by omega) (by omega))
        simp -implicitDefEqProofs only [o_a7, r_a7_11, r_a7_12, r_a7_13, r_a7_14, e25, e26, e27, e6, show ((0 : Int) < 2) = True from eq_true (by omega), i0, r0, ea, b_add ty_int (show -9223372036854775808 ≤ (0 : Int) + 1 by omega) (show (0 : Int) + 1 ≤ 9223372036854775807 by omega), ↓reduceIte, Nat.reduceEqDiff, Nat.reduceSub, wA, wB, wC, wD]
        obtain ⟨b', rfl, hb'⟩ : ∃ b', o' = some b' ∧ mk.next ≤ b' := by
          rcases ho with e | ⟨b', e, h4, _⟩
          · exact ⟨b, e, hb⟩
          · have := kk.next
            exact ⟨b', e, by omega⟩
        have k34 : Keep mk m4 fun _ => False := kk.trans k4 fun z hz e => by cases e; omega
        have hs5 : SlAt m4 ty_uint8 1 s' (0 + l1.length) (ycells l1) (some b') := hs4
        rw [Nat.zero_add] at hs5
        exact LK_n (k' := 1) (by omega) ⟨1, by omega, rfl, by simp -implicitDefEqProofs only [e25, e26, ev_tm, ↓reduceIte, Nat.reduceEqDiff, true_and]; rfl, k34, s', b', by simp -implicitDefEqProofs only [ev_tm, ↓reduceIte, Nat.reduceEqDiff], hs5, hb'⟩
      | 1, _ =>
        have e27 : ev (tm 27) fr = iv 1 := e27
        obtain ⟨s', m4, o', ea, hs4, k4, ho⟩ := hs.append (bytes := 1) (z := [.y 0]) kk.wf (h2.keep hw kk fun h => h).src (room_of (show l1.length + l2.length ≤ 4000000000000 by omega) (by omega))
        simp -implicitDefEqProofs only [o_a7, r_a7_11, r_a7_12, r_a7_13, r_a7_14, e25, e26, e27, e6, show ((1 : Int) < 2) = True from eq_true (by omega), i1, r1, ea, b_add ty_int (show -9223372036854775808 ≤ (1 : Int) + 1 by omega) (show (1 : Int) + 1 ≤ 9223372036854775807 by omega), ↓reduceIte, Nat.reduceEqDiff, Nat.reduceSub, wA, wB, wC, wD]
        obtain ⟨b', rfl, hb'⟩ : ∃ b', o' = some b' ∧ mk.next ≤ b' := by
          rcases ho with e | ⟨b', e, h4, _⟩
          · exact ⟨b, e, hb⟩
          · have := kk.next
            exact ⟨b', e, by omega⟩
        have k34 : Keep mk m4 fun _ => False := kk.trans k4 fun z hz e => by cases e; omega
        have hs5 : SlAt m4 ty_uint8 1 s' (l1.length + l2.length) (ycells l1 ++ ycells l2) (some b') := hs4
        rw [← ycells_app] at hs5
        exact LK_n (k' := 0) (by omega) ⟨2, by omega, rfl, by simp -implicitDefEqProofs only [e25, e26, ev_tm, ↓reduceIte, Nat.reduceEqDiff, true_and]; rfl, k34, s', b', by simp -implicitDefEqProofs only [ev_tm, ↓reduceIte, Nat.reduceEqDiff], hs5, hb'⟩
      | 2, _ =>
        have e27 : ev (tm 27) fr = iv 2 := e27
        simp -implicitDefEqProofs only [o_a7, r_a7_11, r_a7_15, e26, e27, e6, show ((2 : Int) < 2) = False from eq_false (by omega), ↓reduceIte, Nat.reduceEqDiff, Nat.reduceSub, wA, wB, wC, wD]
        refine ⟨s, b, rfl, ⟨?_⟩, kk, hb⟩
        rw [List.length_append]
        exact hs
  obtain ⟨v, m', ⟨s, b, rfl, h3, h4, h5⟩, r⟩ := key.ran
  exact ⟨m', _, b, h3, h4, h5, r⟩
end
section
variable {m : M}
def descA (seq : Nat) (list : List Nat) : Bs := (([] ++ le 4 seq) ++ le 2 list.length) ++ les 2 list
def descR (seq : Nat) (list : List Nat) : Bs := descA seq list ++ List.replicate (60 - (descA seq list).length) 0
def descB (seq : Nat) (list : List Nat) : Bs := le 4 (crc (descR seq list)) ++ descR seq list
theorem descA_len (seq : Nat) (list : List Nat) : (descA seq list).length = 6 + 2 * list.length := by
  simp [descA, le_len, les_len]; omega
theorem descR_len (seq : Nat) {list : List Nat} (h : list.length ≤ 27) : (descR seq list).length = 60 := by
  unfold descR
  rw [List.length_append, List.length_replicate, descA_len]
  omega
theorem descB_len (seq : Nat) {list : List Nat} (h : list.length ≤ 27) : (descB seq list).length = 64 := by
  unfold descB
  rw [List.length_append, descR_len seq h, le_len]
theorem WrAt.new {c : Nat} (hw : Wf m) (hc : m.next ≤ c) (m' : M) (k : Keep m m' fun _ => False) (a : At m' c ty_codec_writer true [nils, iv 0]) : WrAt m m' c [] :=
  ⟨k, hc, nils, none, a, .nil, fun b hb => by cases hb⟩
set_option maxRecDepth 20000 in
theorem desc_ran {seq : Nat} {list : List Nat} {x : AV} {o : Option Nat} (hw : Wf m) (hx : NsAt m x list o) (h1 : seq < 2 ^ 32) (h2 : ∀ z ∈ list, z < 2 ^ 16) (h3 : list.length ≤ 27) :
    ∃ m' s b, RowB m' s (descB seq list) b ∧ Keep m m' (fun _ => False) ∧ m.next ≤ b ∧ Ran Tryz.prog tb fn_d9 [iv seq, x, iv 64] m (.tuple [s, iv 0]) m' := by
  obtain ⟨m1, e1, a1, k1, n1⟩ := addL_at hw ty_codec_writer 2 [nils, iv 0]
  have w1 := WrAt.new hw (Nat.le_refl _) m1 k1 a1
  obtain ⟨m2, w2, _, r2⟩ := cwn w1 (by decide) (w := 4) (by omega) (v := seq) (by simpa using h1)
  obtain ⟨m3, w3, _, r3⟩ := cwn w2 (by simp [le_len]) (w := 2) (by omega) (v := list.length) (by simp; omega)
  obtain ⟨m4, w4, _, r4⟩ := cwns w3 (hx.keep hw w3.kp fun _ _ h => h) (by simp [le_len]; omega) (w := 2) (by omega) (by simpa using h2)
  have w4 : WrAt m m4 m.next (descA seq list) := w4
  obtain ⟨x4, b4, c4, rb4⟩ := w4.row fun e => by have := descA_len seq list; rw [e] at this; simp at this; omega
  obtain ⟨m5, s5, b5, rb5, k5, hb5, r5⟩ := whole w4 (n := 60) (by omega) (by rw [descA_len]; omega) (by omega)
  have rb5 : RowB m5 s5 (descR seq list) b5 := rb5
  obtain ⟨m6, e6, a6, k6, n6⟩ := addL_at k5.wf ty_codec_writer 2 [nils, iv 0]
  obtain ⟨m7, k7, r7⟩ := csum k6.wf (rb5.keep k5.wf k6 fun h => h).bs (by rw [descR_len seq h3]; omega)
  have w7 := (WrAt.new k5.wf (Nat.le_refl _) m6 k6 a6).keep k7 fun _ h => h.elim
  obtain ⟨m8, w8, _, r8⟩ := cwn w7 (by decide) (w := 4) (by omega) (v := crc (descR seq list)) (by simpa using crc_lt _)
  have w8 : WrAt m5 m8 m5.next (le 4 (crc (descR seq list))) := w8
  obtain ⟨x8, b8, c8, rb8⟩ := w8.row fun e => by have := le_len 4 (crc (descR seq list)); rw [e] at this; simp at this
  obtain ⟨m9, e9, a9, k9, n9⟩ := addL_at w8.kp.wf ty_suint8 2 [x8, s5]
  obtain ⟨m10, s, b, rb, k10, hb, r10⟩ := concat2 k9.wf a9 (rb8.keep w8.kp.wf k9 fun h => h).bs ((rb5.keep k5.wf w8.kp fun h => h).keep w8.kp.wf k9 fun h => h).bs (by rw [descR_len seq h3]; omega) (by rw [descR_len seq h3, le_len]; omega)
  have kf : Keep m m9 fun _ => False := (k5.tf w8.kp).tf k9
  have hn9 := kf.next
  refine ⟨m10, s, b, rb, kf.tf k10, by omega, ?_⟩
  have q4 : ((4 : Nat) : Int) = 4 := rfl
  have q2 : ((2 : Nat) : Int) = 2 := rfl
  have q60 : ((60 : Nat) : Int) = 60 := rfl
  rw [q4] at r2 r8
  rw [q2] at r3 r4
  rw [q60] at r5
  have hmin : min (list.length : Int) 65535 = (list.length : Int) := by omega
  have hq : binS Tryz.prog .quo ty_int (iv 54) (iv 2) = some (iv 27) := b_quo (a := 54) (b := 2) ty_int (by omega) (by omega)
  have t1 : (64 : Int) - 10 = 54 := rfl
  have t2 : (64 : Int) - 4 = 60 := rfl
  have c40 : m4.rd m.next 1 = some (iv 0) := by rw [c4.rd]; rfl
  have c80 : m8.rd m5.next 0 = some x8 := by rw [c8.rd]; rfl
  have x81 : cellsO x8 = some [x8] := rb8.sl.cl
  have s51 : cellsO s5 = some [s5] := rb5.sl.cl
  have hrp : repl 2 [nils] = [nils, nils] := rfl
  refine WpF.go at_d9 ?_
  simp -implicitDefEqProofs only [o_d9, r_d9_0, r_d9_1, r_d9_3, r_d9_4, r_d9_5, r_d9_6, r_d9_7, r_d9_9, r_d9_11, r_d9_12, r_d9_13, r_d9_14, bsize64.eq, e1, r2.eq, hx.len, hmin, r3.eq, r4.eq, c40, b_sub ty_int (show -9223372036854775808 ≤ (64 : Int) - 10 by omega) (show (64 : Int) - 10 ≤ 9223372036854775807 by omega), t1, hq, show ((27 : Int) < (list.length : Int)) = False from eq_false (by omega), b_sub ty_int (show -9223372036854775808 ≤ (64 : Int) - 4 by omega) (show (64 : Int) - 4 ≤ 9223372036854775807 by omega), t2, r5.eq, e6, r7.eq, r8.eq, c80, x81, s51, hrp, e9, r10.eq, ↓reduceIte, Nat.reduceEqDiff, Nat.reduceAdd, Nat.reduceLeDiff, wA, wB, wC, wD]
end
section
variable {m : M}
theorem sameD {s1 s2 : AV} {t1 t2 : Bs} {b1 b2 : Nat} {x y : AV} (hw : Wf m) (h1 : BsAt m s1 t1 b1) (h2 : BsAt m s2 t2 b2) :
    ∃ m', Keep m m' (fun _ => False) ∧ Ran Tryz.prog tb fn_e5 [.agg [x, y], s1, s2, iv 0] m (if t1 = t2 then .tuple [.agg [x, y], iv 0] else .tuple [.agg [iv 0, nils], iv 4]) m' := by
  obtain ⟨m1, e1, a1, k1, n1⟩ := addL_at hw ty_codec_desc 2 [x, y]
  obtain ⟨m2, e2, a2, k2, n2⟩ := addZ_at k1.wf ty_codec_desc 2 [iv 0, nils]
  have k02 := k1.tf k2
  have rb := beq_ran (h1.keep hw k02 fun h => h) (h2.keep hw k02 fun h => h)
  have a12 := a1.keep k1.wf k2 fun h => h
  by_cases ht : t1 = t2
  · have q1 : m2.rdN m.next 0 2 = some [x, y] := a12.rdN (i := 0) (n := 2) (Nat.le_refl 2)
    obtain ⟨m3, e3, a3, k3, n3⟩ := a2.st k2.wf 0 [x, y]
    have q3 : m3.rdN m1.next 0 2 = some [x, y] := a3.rdN (i := 0) (n := 2) (Nat.le_refl 2)
    refine ⟨m3, k02.trans k3 fun b hb e => by omega, ?_⟩
    rw [if_pos ht]
    rw [decide_eq_true ht] at rb
    refine WpF.go at_e5 ?_
    simp -implicitDefEqProofs only [o_e5, r_e5_0, r_e5_1, r_e5_4, e1, e2, rb.eq, q1, e3, ↓reduceIte, Nat.reduceEqDiff, Nat.reduceAdd, wA, wB, wC, wD]
    rw [FK_cellT (b := m1.next) (off := 0) (n := 2) (l := [x, y]) (by kernel_rfl) (by kernel_rfl) (by simp -implicitDefEqProofs only [ev_tm, ↓reduceIte, Nat.reduceEqDiff]) q3]
    simp -implicitDefEqProofs only [ev_tm, ↓reduceIte, and_self]
  · obtain ⟨m3, e3, a3, k3, n3⟩ := addZ_at k2.wf ty_codec_desc 2 [iv 0, nils]
    have q1 : m3.rdN m2.next 0 2 = some [iv 0, nils] := a3.rdN (i := 0) (n := 2) (Nat.le_refl 2)
    obtain ⟨m4, e4, a4, k4, n4⟩ := (a2.keep k2.wf k3 fun h => h).st k3.wf 0 [iv 0, nils]
    have q3 : m4.rdN m1.next 0 2 = some [iv 0, nils] := a4.rdN (i := 0) (n := 2) (Nat.le_refl 2)
    refine ⟨m4, (k02.trans k3 fun _ _ h => h).trans k4 fun b hb e => by omega, ?_⟩
    rw [if_neg ht]
    rw [decide_eq_false ht] at rb
    refine WpF.go at_e5 ?_
    simp -implicitDefEqProofs only [o_e5, r_e5_0, r_e5_1, r_e5_2, r_e5_3, e1, e2, rb.eq, e3, q1, e4, ↓reduceIte, Nat.reduceEqDiff, Nat.reduceAdd, wA, wB, wC, wD]
    rw [FK_cellT (b := m1.next) (off := 0) (n := 2) (l := [iv 0, nils]) (by kernel_rfl) (by kernel_rfl) (by simp -implicitDefEqProofs only [ev_tm, ↓reduceIte, Nat.reduceEqDiff]) q3]
    simp -implicitDefEqProofs only [ev_tm, ↓reduceIte, and_self]
def udN (l : Bs) : Nat := ge ((l.drop 8).take 2)
def udL (l : Bs) (n : Nat) : List Nat := (List.range n).map fun k => ge ((l.drop (10 + k * 2)).take 2)
theorem udL_len (l : Bs) (n : Nat) : (udL l n).length = n := by simp [udL]
theorem udL_succ (l : Bs) (n : Nat) : udL l (n + 1) = udL l n ++ [ge ((l.drop (10 + n * 2)).take 2)] := by simp [udL, List.range_succ]
theorem udL_lt (l : Bs) (n : Nat) : ∀ z ∈ udL l n, z < 2 ^ 16 := by
  intro z hz
  obtain ⟨k, _, rfl⟩ := List.mem_map.1 hz
  have h1 := ge_lt ((l.drop (10 + k * 2)).take 2)
  have h2 : 256 ^ ((l.drop (10 + k * 2)).take 2).length ≤ 256 ^ 2 := Nat.pow_le_pow_right (by omega) (by simp; omega)
  show ge ((l.drop (10 + k * 2)).take 2) < 256 ^ 2
  omega
set_option maxRecDepth 20000 in
theorem undesc {b off cap : Nat} {lim : Bool} {l : Bs} (hw : Wf m) (h : BsAt m (.slice b off 64 cap lim) l b) (hl : l.length = 64) (hcap : 64 ≤ cap) :
    ∃ m' v, Keep m m' (fun _ => False) ∧ Ran Tryz.prog tb fn_e1 [.slice b off 64 cap lim] m v m' ∧
      ((udN l ≤ 27 ∧ l = descB (uhA l) (udL l (udN l)) ∧ ∃ x o, v = .tuple [iv (uhA l), x, iv 0] ∧ NsAt m' x (udL l (udN l)) o ∧ ∀ bo, o = some bo → m.next ≤ bo) ∨
       (¬ (udN l ≤ 27 ∧ l = descB (uhA l) (udL l (udN l))) ∧ ∃ sq x, v = .tuple [sq, x, iv 4])) := by
  have hb0 := h.lt hw
  obtain ⟨m1, e1, a1, k1, n1⟩ := addL_at hw ty_codec_reader 2 [.slice b off 64 cap lim, iv 4]
  have h1 := h.keep hw k1 fun h => h
  obtain ⟨m2, a2, k2, c2⟩ := crn (at' := 4) (w := 4) k1.wf a1 h1 hl.symm hcap (by omega) (by omega) (by omega)
  have k02 : Keep m m2 fun _ => False := k1.trans k2 fun x hx e => by omega
  obtain ⟨m3, e3, a3, k3, n3⟩ := addZ_at k02.wf ty_codec_desc 2 [iv 0, nils]
  obtain ⟨m4, e4, a4, k4, n4⟩ := a3.st k3.wf 0 [iv (uhA l : Nat), nils]
  have hn2 := k02.next
  have hn12 := k2.next
  have k04 : Keep m m4 fun _ => False := (k02.tf k3).trans k4 fun x hx e => by omega
  have k24 : Keep m2 m4 fun _ => False := k3.trans k4 fun x hx e => by omega
  obtain ⟨m5, a5, k5, c5⟩ := crn (at' := 8) (w := 2) k4.wf (a2.keep k02.wf k24 fun h => h) (h.keep hw k04 fun h => h) hl.symm hcap (by omega) (by omega) (by omega)
  have k05 : Keep m m5 fun _ => False := k04.trans k5 fun x hx e => by omega
  have d5 := a4.keep k4.wf k5 (by omega)
  have q64 : ((64 : Nat) : Int) = 64 := rfl
  have q4 : ((4 : Nat) : Int) = 4 := rfl
  have q2 : ((2 : Nat) : Int) = 2 := rfl
  rw [q4] at c2
  rw [q2] at c5
  have u1 : ge ((l.drop 4).take 4) = uhA l := rfl
  have u2 : ge ((l.drop 8).take 2) = udN l := rfl
  rw [u1] at c2
  rw [u2] at c5
  have hq : binS Tryz.prog .quo ty_int (iv 54) (iv 2) = some (iv 27) := b_quo (a := 54) (b := 2) ty_int (by omega) (by omega)
  have t1 : (64 : Int) - 10 = 54 := rfl
  by_cases hN : udN l ≤ 27
  · have key : WpF Tryz.prog tb fn_e1 [.slice b off 64 cap lim] m fun v m' => Keep m m' (fun _ => False) ∧
        ((l = descB (uhA l) (udL l (udN l)) ∧ ∃ x o, v = .tuple [iv (uhA l), x, iv 0] ∧ NsAt m' x (udL l (udN l)) o ∧ ∀ bo, o = some bo → m.next ≤ bo) ∨ (¬ l = descB (uhA l) (udL l (udN l)) ∧ ∃ sq x, v = .tuple [sq, x, iv 4])) := by
      refine WpF.go at_e1 ?_
      simp -implicitDefEqProofs only [o_e1, r_e1_0, r_e1_1, r_e1_3, r_e1_4, r_e1_5, r_e1_6, r_e1_8, q64, bsize64.eq, e1, c2.eq, e3, e4, c5.eq, b_sub ty_int (show -9223372036854775808 ≤ (64 : Int) - 10 by omega) (show (64 : Int) - 10 ≤ 9223372036854775807 by omega), t1, hq, show ((27 : Int) < (udN l : Int)) = False from eq_false (by omega), ↓reduceIte, Nat.reduceEqDiff, Nat.reduceAdd, Nat.reduceLeDiff, wA, wB, wC, wD]
      refine GX_loop (fun j fr mk => ∃ k y o, k ≤ udN l ∧ j = udN l - k ∧ (ev (tm 0) fr = .slice b off 64 cap lim ∧ ev (tm 5) fr = .ptr m.next 0 ∧ ev (tm 6) fr = .ptr m2.next 0 ∧ ev (tm 27) fr = iv (udN l : Nat) ∧ ev (tm 28) fr = iv k) ∧ At mk m.next ty_codec_reader true [.slice b off 64 cap lim, iv (10 + k * 2 : Nat)] ∧ At mk m2.next ty_codec_desc true [iv (uhA l : Nat), y] ∧ NsAt mk y (udL l k) o ∧ (∀ bo, o = some bo → m.next ≤ bo) ∧ Keep m mk (fun _ => False)) (k := udN l) ⟨0, nils, none, Nat.zero_le _, rfl, by simp -implicitDefEqProofs only [nc0, ev_tm, ↓reduceIte, Nat.reduceEqDiff, nc0, and_self], a5, d5, .nil, (fun _ h => by cases h), k05⟩ ?_
      rintro j fr mk ⟨k, y, o, hk, rfl, ⟨e0, e5, e6, e27, e28⟩, aR, aD, hy, hoy, kk⟩
      have rD : mk.rd m2.next 1 = some y := by rw [aD.rd]; rfl
      by_cases hlt : k < udN l
      · obtain ⟨p3, r3, kp3, c3⟩ := crn (at' := 10 + k * 2) (w := 2) kk.wf aR (h.keep hw kk fun h => h) hl.symm hcap (by omega) (by omega) (by omega)
        rw [q2] at c3
        have aD3 := aD.keep kk.wf kp3 (by omega)
        have rD3 : p3.rd m2.next 1 = some y := by rw [aD3.rd]; rfl
        have hoc : ∀ bo, o = some bo → bo ≠ m.next ∧ bo ≠ m2.next := fun bo hbo => by
          rw [hbo] at hy
          exact ⟨hy.kd.ne aR.kd, hy.kd.ne aD.kd⟩
        have hy3 := hy.keep kk.wf kp3 fun bo hbo e => (hoc bo hbo).1 e
        obtain ⟨p4, f4, a4', kp4, np4⟩ := addL_at kp3.wf ty_int 1 [iv (ge ((l.drop (10 + k * 2)).take 2) : Nat)]
        have aD4 := aD3.keep kp3.wf kp4 fun h => h
        have rD4 : p4.rd m2.next 1 = some y := by rw [aD4.rd]; rfl
        have src : SlAt p4 ty_int 1 (.slice p3.next 0 1 1 false) 1 [iv (ge ((l.drop (10 + k * 2)).take 2) : Nat)] (some p3.next) := .row (junk := []) a4' rfl rfl (Nat.le_refl _) (by decide)
        obtain ⟨y', p5, o', ea, hy5, kp5, ho5⟩ := (hy3.keep kp3.wf kp4 fun _ _ h => h).append (bytes := 8) (z := [iv 0]) kp4.wf src.src (room_of (by rw [udL_len]; omega) (by omega))
        have aD5 := aD4.keep kp4.wf kp5 fun e => (hoc _ e).2 rfl
        have hlt3 : ∀ bo, o' = some bo → bo ≠ m2.next ∧ m.next ≤ bo := fun bo hbo => by
          refine ⟨fun e => ?_, ?_⟩
          · rw [hbo] at hy5; subst e
            exact absurd (hy5.kd.inj aD5.kd) (by decide)
          · rcases ho5 with e | ⟨b', e, h5, _⟩
            · exact hoy bo (e ▸ hbo)
            · rw [e] at hbo; cases hbo
              have h6 := kk.next
              have h7 := kp3.next
              omega
        obtain ⟨p6, f6, aD6, kp6, np6⟩ := aD5.st kp5.wf 1 [y']
        have cy' : cellsO y' = some [y'] := hy5.cl
        have hyq : aveq 40 y y = true := hy.aq
        have hC : (k : Int) + 1 = ((k + 1 : Nat) : Int) := by omega
        simp -implicitDefEqProofs only [o_e1, r_e1_9, r_e1_10, r_e1_11, e5, e6, e27, e28, show ((k : Int) < (udN l : Int)) = True from eq_true (by omega), rD, c3.eq, rD3, f4, rD4, ea, cy', f6, hyq, b_add ty_int (show -9223372036854775808 ≤ (k : Int) + 1 by omega) (show (k : Int) + 1 ≤ 9223372036854775807 by omega), ↓reduceIte, Nat.reduceEqDiff, Nat.reduceLeDiff, exists_eq_left', wA, wB, wC, wD]
        have aR6 := ((r3.keep kp3.wf kp4 fun h => h).keep kp4.wf kp5 fun e => (hoc _ e).1 rfl).keep kp5.wf kp6 (by omega)
        have kfin : Keep m p6 fun _ => False := (((kk.trans kp3 fun x hx e => by omega).tf kp4).trans kp5 fun x hx e => absurd (hoy x e) (by omega)).trans kp6 fun x hx e => by omega
        have hyf : NsAt p6 y' (udL l (k + 1)) o' := by
          have h8 := hy5.keep kp5.wf kp6 fun bo hbo e => (hlt3 bo hbo).1 e
          rw [udL_succ]
          show SlAt p6 ty_int 1 y' (udL l k ++ _).length ((udL l k ++ _).map ivn) o'
          rw [List.length_append, List.map_append]
          exact h8
        refine LK_n (k' := udN l - (k + 1)) (by omega) ⟨k + 1, y', o', by omega, rfl, by simp -implicitDefEqProofs only [e0, e5, e6, e27, hC, ev_tm, ↓reduceIte, Nat.reduceEqDiff, and_self], ?_, aD6, hyf, fun bo hbo => (hlt3 bo hbo).2, kfin⟩
        rw [show 10 + (k + 1) * 2 = 10 + k * 2 + 2 by omega]
        exact aR6
      · have hkN : k = udN l := by omega
        subst hkN
        obtain ⟨p3, s2, b2, rb, kp3, hb2, rde⟩ := desc_ran kk.wf hy (uh_lt l).1 (udL_lt l _) (by rw [udL_len]; exact hN)
        have rD0 : mk.rd m2.next 0 = some (iv (uhA l : Nat)) := by rw [aD.rd]; rfl
        have aD3 := aD.keep kk.wf kp3 fun h => h
        have qD : p3.rdN m2.next 0 2 = some [iv (uhA l : Nat), y] := aD3.rdN (i := 0) (n := 2) (Nat.le_refl 2)
        obtain ⟨p4, kp4, rsa⟩ := sameD (x := iv (uhA l : Nat)) (y := y) kp3.wf (h.keep hw (kk.tf kp3) fun h => h) rb.bs
        have aD4 := aD3.keep kp3.wf kp4 fun h => h
        have kk4 := (kk.tf kp3).tf kp4
        have hyq : aveq 40 y y = true := hy.aq
        have kk34 := kp3.tf kp4
        by_cases ht : l = descB (uhA l) (udL l (udN l))
        · rw [if_pos ht] at rsa
          obtain ⟨p5, f5, aD5, kp5, np5⟩ := aD4.st kp4.wf 0 [iv (uhA l : Nat), y]
          have g0 : p5.rd m2.next 0 = some (iv (uhA l : Nat)) := by rw [aD5.rd]; rfl
          have g1 : p5.rd m2.next 1 = some y := by rw [aD5.rd]; rfl
          have hoc : ∀ bo, o = some bo → bo ≠ m2.next := fun bo hbo => by
            rw [hbo] at hy
            exact hy.kd.ne aD.kd
          simp -implicitDefEqProofs only [o_e1, r_e1_9, r_e1_12, r_e1_13, r_e1_14, e0, e6, e27, e28, q64, rD0, rD, rde.eq, qD, rsa.eq, f5, g0, g1, hyq, ↓reduceIte, Nat.reduceEqDiff, Nat.reduceAdd, exists_eq_left', wA, wB, wC, wD]
          exact ⟨kk4.trans kp5 fun x hx e => by omega, .inl ⟨ht, y, o, rfl, ((hy.keep kk.wf kk34 fun _ _ h => h).keep kp4.wf kp5 fun bo hbo e => hoc bo hbo e), hoy⟩⟩
        · rw [if_neg ht] at rsa
          obtain ⟨p5, f5, aD5, kp5, np5⟩ := aD4.st kp4.wf 0 [iv 0, nils]
          have g0 : p5.rd m2.next 0 = some (iv 0) := by rw [aD5.rd]; rfl
          have g1 : p5.rd m2.next 1 = some nils := by rw [aD5.rd]; rfl
          simp -implicitDefEqProofs only [o_e1, r_e1_9, r_e1_12, r_e1_13, r_e1_14, e0, e6, e27, e28, q64, rD0, rD, rde.eq, qD, rsa.eq, f5, g0, g1, show aveq 40 nils nils = true from rfl, ↓reduceIte, Nat.reduceEqDiff, Nat.reduceAdd, exists_eq_left', wA, wB, wC, wD]
          exact ⟨kk4.trans kp5 fun x hx e => by omega, .inr ⟨ht, _, _, rfl⟩⟩
    obtain ⟨v, m', ⟨kf, hv⟩, r⟩ := key.ran
    refine ⟨m', v, kf, r, ?_⟩
    rcases hv with ⟨h1, h2⟩ | ⟨h1, h2⟩
    · exact .inl ⟨hN, h1, h2⟩
    · exact .inr ⟨fun h => h1 h.2, h2⟩
  · refine ⟨m5, .tuple [iv 0, nils, iv 4], k05, ?_, .inr ⟨fun h => hN h.1, _, _, rfl⟩⟩
    refine WpF.go at_e1 ?_
    simp -implicitDefEqProofs only [o_e1, r_e1_0, r_e1_1, r_e1_3, r_e1_4, r_e1_5, r_e1_6, r_e1_7, q64, bsize64.eq, e1, c2.eq, e3, e4, c5.eq, b_sub ty_int (show -9223372036854775808 ≤ (64 : Int) - 10 by omega) (show (64 : Int) - 10 ≤ 9223372036854775807 by omega), t1, hq, show ((27 : Int) < (udN l : Int)) = True from eq_true (by omega), ↓reduceIte, Nat.reduceEqDiff, Nat.reduceAdd, Nat.reduceLeDiff, wA, wB, wC, wD]
end
end Go.Proofs.YthbfinjddaembaaGreat
