import Derived.Test.YtooooiidpaecmaaGreatHd
set_option linter.unusedVariables false
set_option linter.unusedSimpArgs false
/- The law InodeApart: a file's blocks are counted. -/
namespace Go.Proofs.YtooooiidpaecmaaGreat
open Go Go.Am
def dp (S : PS) (X : Nat → Ino) (w n : Nat) (b : Nat) : Prop := leafB I2 S X b ∨ (∃ v, v < w ∧ b ∈ deepL S (X (2 + v))) ∨ b ∈ (deepL S (X (2 + w))).take n
def cOk (u : Nat → Nat) (P : Nat → Prop) : Prop := ∀ b, (P b → u b = 1) ∧ (¬ P b → u b = 0)
theorem cOk.le {u : Nat → Nat} {P : Nat → Prop} (h : cOk u P) (b : Nat) : u b ≤ 1 := by
  by_cases e : P b
  · rw [(h b).1 e]; exact Nat.le_refl _
  · rw [(h b).2 e]; exact Nat.zero_le _
theorem cOk.iff {u : Nat → Nat} {P Q : Nat → Prop} (h : cOk u P) (e : ∀ b, Q b ↔ P b) : cOk u Q := fun b => by rw [e b]; exact h b
theorem cOk.add {u : Nat → Nat} {P Q : Nat → Prop} (h : cOk u P) {y : Nat} (hy : ¬ P y) (e : ∀ b, Q b ↔ P b ∨ b = y) : cOk (upd u y (u y + 1)) Q := fun b => by
  rw [e b]
  by_cases hb : b = y
  · subst hb
    rw [upd, if_pos rfl, (h b).2 hy]
    exact ⟨fun _ => rfl, fun hn => absurd (.inr rfl) hn⟩
  · rw [upd, if_neg hb]
    exact ⟨fun hp => (h b).1 (hp.resolve_right hb), fun hn => (h b).2 fun hp => hn (.inl hp)⟩
theorem dp_next {S : PS} {X : Nat → Ino} {w : Nat} (b : Nat) : dp S X (w + 1) 0 b ↔ dp S X w (deepL S (X (2 + w))).length b := by
  unfold dp
  rw [List.take_length, List.take_zero]
  constructor
  · rintro (h | ⟨v, hv, h⟩ | h)
    · exact .inl h
    · by_cases e : v = w
      · subst e; exact .inr (.inr h)
      · exact .inr (.inl ⟨v, by omega, h⟩)
    · cases h
  · rintro (h | ⟨v, hv, h⟩ | h)
    · exact .inl h
    · exact .inr (.inl ⟨v, by omega, h⟩)
    · exact .inr (.inl ⟨w, by omega, h⟩)
theorem dp_succ {S : PS} {X : Nat → Ino} {w n y : Nat} (hy : (deepL S (X (2 + w)))[n]? = some y) (b : Nat) : dp S X w (n + 1) b ↔ dp S X w n b ∨ b = y := by
  unfold dp
  rw [List.take_add_one, hy, List.mem_append]
  constructor
  · rintro (h | h | h | h)
    · exact .inl (.inl h)
    · exact .inl (.inr (.inl h))
    · exact .inl (.inr (.inr h))
    · exact .inr (by simpa using h)
  · rintro ((h | h | h) | rfl)
    · exact .inl h
    · exact .inr (.inl h)
    · exact .inr (.inr (.inl h))
    · exact .inr (.inr (.inr (by simp)))
theorem dp_new {S : PS} {X : Nat → Ino} {w n y : Nat} (hI : Inv S I2 X) (hw : w < 2) (hy : (deepL S (X (2 + w)))[n]? = some y) : ¬ dp S X w n y := by
  have hm := List.mem_of_getElem? hy
  rintro (h | ⟨v, hv, h⟩ | h)
  · exact deep_leaf hI (i2_2 hw) hm h
  · exact deep_apart hI (i2_2 (by omega)) (i2_2 hw) (by omega) h hm
  · obtain ⟨j, hj, e⟩ := List.mem_iff_getElem.1 h
    rw [List.length_take] at hj
    have hn := deep_nodup hI (i2_2 hw)
    obtain ⟨hn', e'⟩ := List.getElem?_eq_some_iff.1 hy
    rw [List.getElem_take] at e
    exact (List.pairwise_iff_getElem.1 hn) j n (by omega) hn' (by omega) (e.trans e'.symm)
section
variable {m : M} {K : Ac} {S : PS} {own : Nat → Prop} {X : Nat → Ino} {u : Nat → Nat} {V : Nat → List Nat} {sl : Nat → AV} {so : Nat → Option Nat} {L : Nat → List (Nat × Nat)}
abbrev dpF : List Nat := [5, 8, 9, 11, 12, 13, 22]
theorem apart_deep (w : Nat) (hw : w < 2) (hA : Ap m K S own X u V sl so) (hu : cOk u (dp S X w 0)) (hp : ∀ w, w < 2 → PrOk S (X (2 + w)) (L w) ∧ V w = (L w).map (·.2) ∧ V (2 + w) = (L w).map (·.1))
    {fr : Go.Am.Fr} (f5 : ev (tm 5) fr = .ptr K.pb 0) (f8 : ev (tm 8) fr = .ptr K.tt 0) (f9 : ev (tm 9) fr = .ptr K.A.o 0) (f11 : ev (tm 11) fr = .ptr K.mb 0) (f13 : ev (tm 13) fr = .slice K.ub 0 90 90 false)
    (f22 : ev (tm 22) fr = iv (w : Nat)) {R : Am.X → Go.Am.Fr → M → Prop} (hR : ∀ fr' m' u', Ap m' K S own X u' V sl so → cOk u' (dp S X (w + 1) 0) → (∀ t ∈ dpF, ev (tm t) fr' = ev (tm t) fr) → R .normal fr' m') :
    GX Tryz.prog tb k_f2_66 R fr m := by
  have hi := i2_2 hw
  have h2 : (2 : Int) + (w : Nat) = ((2 + w : Nat) : Int) := by omega
  obtain ⟨m1, sd, od, sp, op, D1, P1, fd, fp, k1, r1⟩ := Blocks_ran hA.wf hA.g hA.t hA.i hi
  have hA1 := hA.keep k1
  have vd := vn_sle (.inl D1)
  have vp := vn_sle (.inl P1)
  have hdl := data_len S (X (2 + w))
  have hpl := deepL_len S (X (2 + w))
  obtain ⟨hpw, hv1, hv2⟩ := hp w hw
  have hcnt := cnt_data hpw
  simp -implicitDefEqProofs only [o_f2, r_f2_36, r_f2_37, r_f2_39, r_f2_40, f8, f9, f22, b_add ty_int (show -9223372036854775808 ≤ (2 : Int) + (w : Int) by omega) (show (2 : Int) + (w : Int) ≤ 9223372036854775807 by omega), h2, r1.eq, ↓reduceIte, Nat.reduceEqDiff, List.getElem?_cons_succ, List.getElem?_cons_zero, wA, wB, wC, wD]
  generalize hR85 : SK Tryz.prog tb k_f2_85 R = R85
  refine GX_loop (fun j fr' mk => ∃ n, n ≤ (dataL S (X (2 + w))).length ∧ j = (dataL S (X (2 + w))).length - n ∧ (ev (tm 26) fr' = sd ∧ ev (tm 27) fr' = sp ∧ ev (tm 29) fr' = iv (cntN S (X (2 + w)) n : Nat) ∧ ev (tm 30) fr' = iv (n : Nat) ∧ ∀ t ∈ dpF, ev (tm t) fr' = ev (tm t) fr) ∧ mk = m1) (k := (dataL S (X (2 + w))).length)
    ⟨0, Nat.zero_le _, rfl, by simp -implicitDefEqProofs only [List.mem_cons, List.not_mem_nil, or_false, forall_eq_or_imp, forall_eq, cntN, List.range_zero, List.filter_nil, ↓reduceIte, Nat.reduceEqDiff, wA, wB, wC, wD], rfl⟩ ?_
  rintro j fr' mk ⟨n, hn, rfl, ⟨e26, e27, e29, e30, eF⟩, rfl⟩
  simp only [List.mem_cons, List.not_mem_nil, or_false, forall_eq_or_imp, forall_eq] at eF
  by_cases hlt : n < (dataL S (X (2 + w))).length
  · obtain ⟨b, cap, hx, hr⟩ := vd.el n _ (data_get hlt)
    have q := v_iaS (m := mk) 1 b 0 (dataL S (X (2 + w))).length cap false hlt
    rw [Nat.zero_add, Nat.mul_one] at q
    rw [hx] at e26
    have hcl := cnt_le (S := S) (x := X (2 + w)) n
    have hcs := cnt_succ (S := S) (x := X (2 + w)) n
    by_cases h0 : Nf S (X (2 + w)) n = 0
    · rw [h0] at hr
      have hr : mk.rd b n = some (iv 0) := hr
      rw [if_pos h0] at hcs
      simp -implicitDefEqProofs only [o_f2, r_f2_41, r_f2_43, r_f2_42, e26, e30, show ((n : Int) < ((dataL S (X (2 + w))).length : Int)) = True from eq_true (by omega), q, hr, b_add ty_int (show -9223372036854775808 ≤ (n : Int) + 1 by omega) (show (n : Int) + 1 ≤ 9223372036854775807 by omega), ↓reduceIte, Nat.reduceEqDiff, wA, wB, wC, wD]
      refine LK_n (k' := (dataL S (X (2 + w))).length - (n + 1)) (by omega) ⟨n + 1, by omega, rfl, by simp -implicitDefEqProofs only [List.mem_cons, List.not_mem_nil, or_false, forall_eq_or_imp, forall_eq, hcs, Nat.add_zero, hx, e26, e27, e29, eF, show (n : Int) + 1 = ((n + 1 : Nat) : Int) from rfl, ev_tm, ↓reduceIte, Nat.reduceEqDiff, Nat.add_zero, and_self], rfl⟩
    · rw [if_neg h0] at hcs
      have hr : mk.rd b n = some (iv (Nf S (X (2 + w)) n : Nat)) := hr
      simp -implicitDefEqProofs only [o_f2, r_f2_41, r_f2_43, r_f2_44, r_f2_42, e26, e29, e30, show ((n : Int) < ((dataL S (X (2 + w))).length : Int)) = True from eq_true (by omega), q, hr, show ((Nf S (X (2 + w)) n : Int) = 0) = False from eq_false (by omega), b_add ty_int (show -9223372036854775808 ≤ (n : Int) + 1 by omega) (show (n : Int) + 1 ≤ 9223372036854775807 by omega), b_add ty_int (show -9223372036854775808 ≤ (cntN S (X (2 + w)) n : Int) + 1 by omega) (show (cntN S (X (2 + w)) n : Int) + 1 ≤ 9223372036854775807 by omega), ↓reduceIte, Nat.reduceEqDiff, wA, wB, wC, wD]
      refine LK_n (k' := (dataL S (X (2 + w))).length - (n + 1)) (by omega) ⟨n + 1, by omega, rfl, by simp -implicitDefEqProofs only [List.mem_cons, List.not_mem_nil, or_false, forall_eq_or_imp, forall_eq, hcs, hx, e26, e27, eF, show (n : Int) + 1 = ((n + 1 : Nat) : Int) from rfl, show (cntN S (X (2 + w)) n : Int) + 1 = ((cntN S (X (2 + w)) n + 1 : Nat) : Int) from rfl, ev_tm, ↓reduceIte, Nat.reduceEqDiff, and_self], rfl⟩
  · have hnl : n = (dataL S (X (2 + w))).length := by omega
    subst hnl
    rw [hcnt] at e29
    obtain ⟨g5, g8, g9, g11, g12, g13, g22⟩ := eF
    have q1 := v_iaA (m := mk) 2 1 K.mb 0 hw
    rw [Nat.zero_add, Nat.mul_one] at q1
    have d1 : mk.rd K.mb w = some (sl w) := by
      rw [hA1.mb.rd]
      obtain rfl | rfl : w = 0 ∨ w = 1 := by omega
      · rfl
      · rfl
    have hlm := (hA1.s w (by omega)).len
    rw [hv1, List.length_map] at hlm
    simp -implicitDefEqProofs only [o_f2, r_f2_41, e26, e30, vd.len, show (((dataL S (X (2 + w))).length : Int) < ((dataL S (X (2 + w))).length : Int)) = False from eq_false (by omega), ↓reduceIte, Nat.reduceEqDiff, wA, wB, wC, wD]
    rw [← hR85]
    simp -implicitDefEqProofs only [o_f2, r_f2_45, r_f2_47, e29, g11, g22, f11, f22, o_iaA, q1, d1, hlm, ↓reduceIte, Nat.reduceEqDiff, wA, wB, wC, wD]
    clear hR85
    refine GX_loop (fun j fr2 mk2 => ∃ n u', n ≤ (deepL S (X (2 + w))).length ∧ j = (deepL S (X (2 + w))).length - n ∧ (ev (tm 27) fr2 = sp ∧ ev (tm 31) fr2 = iv (n : Nat) ∧ ∀ t ∈ dpF, ev (tm t) fr2 = ev (tm t) fr) ∧ Ap mk2 K S own X u' V sl so ∧ cOk u' (dp S X w n) ∧ SlAt mk2 ty_int 1 sp (deepL S (X (2 + w))).length ((deepL S (X (2 + w))).map ivn) op) (k := (deepL S (X (2 + w))).length)
      ⟨0, u, Nat.zero_le _, rfl, by simp -implicitDefEqProofs only [nc0, List.mem_cons, List.not_mem_nil, or_false, forall_eq_or_imp, forall_eq, e27, g5, g8, g9, g11, g12, g13, g22, ev_tm, ↓reduceIte, Nat.reduceEqDiff, nc0, and_self], hA1, hu, P1⟩ ?_
    clear e26 e27 e29 e30 g5 g8 g9 g11 g12 g13 g22
    rintro j fr2 mk2 ⟨n, u', hn, rfl, ⟨e27, e31, eF⟩, hA2, hu2, P2⟩
    simp only [List.mem_cons, List.not_mem_nil, or_false, forall_eq_or_imp, forall_eq] at eF
    obtain ⟨g5, g8, g9, g11, g12, g13, g22⟩ := eF
    have vp := vn_sle (.inl P2)
    by_cases hlt : n < (deepL S (X (2 + w))).length
    · have hy : (deepL S (X (2 + w)))[n]? = some (deepL S (X (2 + w)))[n] := List.getElem?_eq_getElem hlt
      generalize (deepL S (X (2 + w)))[n] = y at hy
      obtain ⟨b, cap, hx, hr⟩ := vp.el n y hy
      obtain ⟨y1, y2⟩ := deep_rng hA.i hi (List.mem_of_getElem? hy)
      have hny := dp_new hA.i hw hy
      have hu0 := (hu2 y).2 hny
      obtain ⟨m9, p9, hA9, k9⟩ := hA2.use y2
      have hu3 := hu2.add hny (dp_succ hy)
      rw [hu0] at p9
      have p9 : mk2.wr K.ub y [iv 1] = some m9 := p9
      have q := v_iaS (m := mk2) 1 b 0 (deepL S (X (2 + w))).length cap false hlt
      have q3 := v_iaS (m := mk2) 1 K.ub 0 90 90 false y2
      rw [Nat.zero_add, Nat.mul_one] at q q3
      have d3 : mk2.rd K.ub y = some (iv 0) := by
        rw [hA2.u.rd, List.getElem?_map, List.getElem?_range y2]
        show some (ivn (u' y)) = _
        rw [hu0]; rfl
      rw [hx] at e27
      simp -implicitDefEqProofs only [o_f2, r_f2_48, r_f2_50, r_f2_52, r_f2_49, e27, e31, g5, g13, f5, f13, show ((n : Int) < ((deepL S (X (2 + w))).length : Int)) = True from eq_true (by omega), q, hr, hA2.p.rd, show ((y : Int) < 37) = False from eq_false (by omega), show ((y : Int) ≥ 90) = False from eq_false (by omega), q3, d3, b_01, p9, b_add ty_int (show -9223372036854775808 ≤ (n : Int) + 1 by omega) (show (n : Int) + 1 ≤ 9223372036854775807 by omega), ↓reduceIte, Nat.reduceEqDiff, List.getElem?_cons_succ, List.getElem?_cons_zero, exists_eq_left', wA, wB, wC, wD]
      have hub := hA.u.lt hA.wf
      refine LK_n (k' := (deepL S (X (2 + w))).length - (n + 1)) (by omega) ⟨n + 1, _, by omega, rfl, by simp -implicitDefEqProofs only [List.mem_cons, List.not_mem_nil, or_false, forall_eq_or_imp, forall_eq, hx, e27, g5, g8, g9, g11, g12, g13, g22, show (n : Int) + 1 = ((n + 1 : Nat) : Int) from rfl, ev_tm, ↓reduceIte, Nat.reduceEqDiff, and_self], hA9, hu3, P2.keep hA2.wf k9 fun b hb e => ?_⟩
      have := (fp b hb).1
      omega
    · have hnl : n = (deepL S (X (2 + w))).length := by omega
      subst hnl
      simp -implicitDefEqProofs only [o_f2, r_f2_48, e27, e31, vp.len, show (((deepL S (X (2 + w))).length : Int) < ((deepL S (X (2 + w))).length : Int)) = False from eq_false (by omega), ↓reduceIte, Nat.reduceEqDiff, wA, wB, wC, wD]
      exact hR _ _ _ hA2 (hu2.iff fun b => dp_next b) (by simp -implicitDefEqProofs only [List.mem_cons, List.not_mem_nil, or_false, forall_eq_or_imp, forall_eq, g5, g8, g9, g11, g12, g13, g22, ev_tm, ↓reduceIte, Nat.reduceEqDiff, and_self])
end
section
variable {m : M} {K : Ac} {S : PS} {own : Nat → Prop} {X : Nat → Ino} {u : Nat → Nat} {V : Nat → List Nat} {sl : Nat → AV} {so : Nat → Option Nat} {L : Nat → List (Nat × Nat)}
theorem apart_file (w : Nat) (hw : w < 2) (hA : Ap m K S own X u V sl so) (hu : cOk u (dp S X w 0)) (hp : ∀ w, w < 2 → PrOk S (X (2 + w)) (L w) ∧ V w = (L w).map (·.2) ∧ V (2 + w) = (L w).map (·.1))
    {fr : Go.Am.Fr} (f5 : ev (tm 5) fr = .ptr K.pb 0) (f8 : ev (tm 8) fr = .ptr K.tt 0) (f9 : ev (tm 9) fr = .ptr K.A.o 0) (f11 : ev (tm 11) fr = .ptr K.mb 0) (f12 : ev (tm 12) fr = .ptr K.ab 0) (f13 : ev (tm 13) fr = .slice K.ub 0 90 90 false)
    (f22 : ev (tm 22) fr = iv (w : Nat)) (f23 : ev (tm 23) fr = iv 0) {R : Am.X → Go.Am.Fr → M → Prop} (hR : ∀ fr' m' u', Ap m' K S own X u' V sl so → cOk u' (dp S X (w + 1) 0) → (∀ t ∈ dpF, ev (tm t) fr' = ev (tm t) fr) → R .normal fr' m') :
    GX Tryz.prog tb (.loop k_f2_56) (BK 4 (SK Tryz.prog tb k_f2_66 R)) fr m := by
  have hi := i2_2 hw
  have h2 : (2 : Int) + (w : Nat) = ((2 + w : Nat) : Int) := by omega
  obtain ⟨hpw, hv1, hv2⟩ := hp w hw
  have hll := hpw.len
  generalize hR66 : SK Tryz.prog tb k_f2_66 R = R66
  refine GX_loop (fun j fr' mk => ∃ n, n ≤ (L w).length ∧ j = (L w).length - n ∧ (ev (tm 23) fr' = iv (n : Nat) ∧ ∀ t ∈ dpF, ev (tm t) fr' = ev (tm t) fr) ∧ Ap mk K S own X u V sl so) (k := (L w).length)
    ⟨0, Nat.zero_le _, rfl, by simp -implicitDefEqProofs only [nc0, f23, List.mem_cons, List.not_mem_nil, or_false, forall_eq_or_imp, forall_eq, nc0, and_self], hA⟩ ?_
  rintro j fr' mk ⟨n, hn, rfl, ⟨e23, eF⟩, hA1⟩
  simp only [List.mem_cons, List.not_mem_nil, or_false, forall_eq_or_imp, forall_eq] at eF
  obtain ⟨g5, g8, g9, g11, g12, g13, g22⟩ := eF
  have s1 := hA1.s w (by omega)
  have s2 := hA1.s (2 + w) (by omega)
  rw [hv1, List.length_map] at s1
  rw [hv2, List.length_map] at s2
  have q1 := v_iaA (m := mk) 2 1 K.ab 0 hw
  rw [Nat.zero_add, Nat.mul_one] at q1
  have d2 : mk.rd K.ab w = some (sl (2 + w)) := by
    rw [hA1.ab.rd]
    obtain rfl | rfl : w = 0 ∨ w = 1 := by omega
    · rfl
    · rfl
  by_cases hlt : n < (L w).length
  · have he : (L w)[n]? = some (L w)[n] := List.getElem?_eq_getElem hlt
    obtain ⟨e1, e2, e3⟩ := hpw.el _ (List.mem_of_getElem? he)
    generalize (L w)[n] = e at *
    obtain ⟨b, cap, hx, _, hr⟩ := elem1 s2 hlt
    have hr : mk.rd b n = some (iv (e.1 : Nat)) := by rw [hr, List.getElem?_map, List.getElem?_map, he]; rfl
    obtain ⟨m1, k1, r1⟩ := Find_ran hA1.wf hA1.g hA1.t hA1.i hi e1
    rw [e2] at r1
    have hA2 := hA1.keep k1
    obtain ⟨b', cap', hx', _, hr'⟩ := elem1 (s1.keep hA1.wf k1 fun _ _ => id) hlt
    have hr' : m1.rd b' n = some (iv (e.2 : Nat)) := by rw [hr', List.getElem?_map, List.getElem?_map, he]; rfl
    have q2 := v_iaS (m := mk) 1 b 0 (L w).length cap false hlt
    have q3 := v_iaS (m := m1) 1 b' 0 (L w).length cap' false hlt
    have q4 := v_iaA (m := m1) 2 1 K.mb 0 hw
    rw [Nat.zero_add, Nat.mul_one] at q2 q3 q4
    have d1 : m1.rd K.mb w = some (sl w) := by
      rw [hA2.mb.rd]
      obtain rfl | rfl : w = 0 ∨ w = 1 := by omega
      · rfl
      · rfl
    rw [hx'] at d1
    rw [hx] at d2
    simp -implicitDefEqProofs only [o_f2, r_f2_31, r_f2_33, r_f2_34, r_f2_32, e23, g8, g9, g11, g12, g22, f8, f9, f11, f12, f22, o_iaA, q1, d2, show ((n : Int) < ((L w).length : Int)) = True from eq_true (by omega), b_add ty_int (show -9223372036854775808 ≤ (2 : Int) + (w : Int) by omega) (show (2 : Int) + (w : Int) ≤ 9223372036854775807 by omega), h2, q2, hr, r1.eq, q4, d1, q3, hr', b_add ty_int (show -9223372036854775808 ≤ (n : Int) + 1 by omega) (show (n : Int) + 1 ≤ 9223372036854775807 by omega), ↓reduceIte, Nat.reduceEqDiff, List.getElem?_cons_succ, List.getElem?_cons_zero, wA, wB, wC, wD]
    exact LK_n (k' := (L w).length - (n + 1)) (by omega) ⟨n + 1, by omega, rfl, by simp -implicitDefEqProofs only [List.mem_cons, List.not_mem_nil, or_false, forall_eq_or_imp, forall_eq, g5, g8, g9, g11, g12, g13, g22, show (n : Int) + 1 = ((n + 1 : Nat) : Int) from rfl, ev_tm, ↓reduceIte, Nat.reduceEqDiff, and_self], hA2⟩
  · have hnl : n = (L w).length := by omega
    subst hnl
    simp -implicitDefEqProofs only [o_f2, r_f2_31, e23, g12, g22, f12, f22, o_iaA, q1, d2, s2.len, show (((L w).length : Int) < ((L w).length : Int)) = False from eq_false (by omega), ↓reduceIte, Nat.reduceEqDiff, wA, wB, wC, wD]
    rw [← hR66]
    refine apart_deep w hw hA1 hu hp ?_ ?_ ?_ ?_ ?_ ?_ fun fr2 m2 u2 hA2 hu2 hF2 => hR fr2 m2 u2 hA2 hu2 fun t ht => ?_
    all_goals try simp -implicitDefEqProofs only [g5, g8, g9, g11, g13, g22, f5, f8, f9, f11, f13, f22, ev_tm, ↓reduceIte, Nat.reduceEqDiff]
    rw [hF2 t ht]
    revert t ht
    simp -implicitDefEqProofs only [List.mem_cons, List.not_mem_nil, or_false, forall_eq_or_imp, forall_eq, g5, g8, g9, g11, g12, g13, g22, ev_tm, ↓reduceIte, Nat.reduceEqDiff, and_self]
end
theorem nc1 : ((1 : Nat) : Int) = 1 := rfl
section
variable {m : M} {K : Ac}
theorem apart_rest (h : Aq K m) {fr : Go.Am.Fr} (f5 : ev (tm 5) fr = .ptr K.pb 0) (f8 : ev (tm 8) fr = .ptr K.tt 0) (f9 : ev (tm 9) fr = .ptr K.A.o 0) (f11 : ev (tm 11) fr = .ptr K.mb 0) (f12 : ev (tm 12) fr = .ptr K.ab 0) (f13 : ev (tm 13) fr = .slice K.ub 0 90 90 false) :
    GX Tryz.prog tb k_f2_43 (FK Tryz.prog [ResultVar.tmp 4] fun v _ => v = .b true) fr m := by
  obtain ⟨S, own, X, u, V, sl, so, L, hA, hu, hp⟩ := h
  have hu0 : cOk u (dp S X 0 0) := cOk.iff hu fun b => by
    unfold dp
    rw [List.take_zero]
    constructor
    · rintro (h | ⟨v, hv, _⟩ | h)
      · exact h
      · omega
      · cases h
    · exact .inl
  simp -implicitDefEqProofs only [o_f2, r_f2_27, wA, wB, wC, wD]
  generalize hR104 : SK Tryz.prog tb k_f2_104 (FK Tryz.prog [ResultVar.tmp 4] fun v _ => v = AV.b true) = R104
  refine GX_loop (fun j fr' mk => ∃ w u', w ≤ 2 ∧ j = 2 - w ∧ (ev (tm 22) fr' = iv (w : Nat) ∧ ev (tm 5) fr' = .ptr K.pb 0 ∧ ev (tm 8) fr' = .ptr K.tt 0 ∧ ev (tm 9) fr' = .ptr K.A.o 0 ∧ ev (tm 11) fr' = .ptr K.mb 0 ∧ ev (tm 12) fr' = .ptr K.ab 0 ∧ ev (tm 13) fr' = .slice K.ub 0 90 90 false) ∧ Ap mk K S own X u' V sl so ∧ cOk u' (dp S X w 0)) (k := 2)
    ⟨0, u, Nat.zero_le _, rfl, by simp -implicitDefEqProofs only [nc0, f5, f8, f9, f11, f12, f13, ev_tm, ↓reduceIte, Nat.reduceEqDiff, nc0, and_self], hA, hu0⟩ ?_
  clear hA hu hu0
  rintro j fr' mk ⟨w, u', hw, rfl, ⟨g22, g5, g8, g9, g11, g12, g13⟩, hA, hu⟩
  by_cases hlt : w < 2
  · have c2 : ((2 : Nat) : Int) = 2 := rfl
    simp -implicitDefEqProofs only [o_f2, r_f2_28, r_f2_30, g22, show ((w : Int) < 2) = True from eq_true (by omega), ↓reduceIte, wA, wB, wC, wD]
    refine apart_file w hlt hA hu hp ?_ ?_ ?_ ?_ ?_ ?_ ?_ ?_ fun fr2 m2 u2 hA2 hu2 hF2 => ?_
    all_goals try simp -implicitDefEqProofs only [g5, g8, g9, g11, g12, g13, g22, ev_tm, ↓reduceIte, Nat.reduceEqDiff, SK_normal, BK_normal]
    simp -implicitDefEqProofs only [List.mem_cons, List.not_mem_nil, or_false, forall_eq_or_imp, forall_eq, g5, g8, g9, g11, g12, g13, g22, ev_tm, ↓reduceIte, Nat.reduceEqDiff] at hF2
    obtain ⟨h5, h8, h9, h11, h12, h13, h22⟩ := hF2
    simp -implicitDefEqProofs only [o_f2, r_f2_29, h22, b_add ty_int (show -9223372036854775808 ≤ (w : Int) + 1 by omega) (show (w : Int) + 1 ≤ 9223372036854775807 by omega), ↓reduceIte, wA, wB, wC, wD]
    exact LK_n (k' := 2 - (w + 1)) (by omega) ⟨w + 1, u2, by omega, rfl, by simp -implicitDefEqProofs only [h5, h8, h9, h11, h12, h13, show (w : Int) + 1 = ((w + 1 : Nat) : Int) from rfl, ev_tm, ↓reduceIte, Nat.reduceEqDiff, and_self], hA2, hu2⟩
  · obtain rfl : w = 2 := by omega
    have c2 : ((2 : Nat) : Int) = 2 := rfl
    rw [c2] at g22
    simp -implicitDefEqProofs only [o_f2, r_f2_28, g22, show ((2 : Int) < 2) = False from eq_false (by omega), ↓reduceIte, Nat.reduceSub, wA, wB, wC, wD]
    rw [← hR104]
    simp -implicitDefEqProofs only [o_f2, r_f2_53, wA, wB, wC, wD]
    refine GX_loop (fun j fr2 m2 => ∃ n, n ≤ 90 ∧ j = 90 - n ∧ (ev (tm 32) fr2 = iv (n : Nat) ∧ ev (tm 5) fr2 = .ptr K.pb 0 ∧ ev (tm 13) fr2 = .slice K.ub 0 90 90 false) ∧ m2 = mk) (k := 90) ⟨0, Nat.zero_le _, rfl, by simp -implicitDefEqProofs only [nc0, g5, g13, ev_tm, ↓reduceIte, Nat.reduceEqDiff, nc0, and_self], rfl⟩ ?_
    clear g22 g5 g8 g9 g11 g12 g13
    rintro j fr2 m2 ⟨n, hn, rfl, ⟨g32, g5, g13⟩, rfl⟩
    by_cases hlt : n < 90
    · have q := v_iaS (m := m2) 1 K.ub 0 90 90 false hlt
      rw [Nat.zero_add, Nat.mul_one] at q
      have d3 : m2.rd K.ub n = some (iv (u' n : Nat)) := by
        rw [hA.u.rd, List.getElem?_map, List.getElem?_range hlt]; rfl
      have hle := hu.le n
      simp -implicitDefEqProofs only [o_f2, r_f2_54, r_f2_56, r_f2_55, g32, g5, g13, hA.p.rd, show ((n : Int) < 90) = True from eq_true (by omega), q, d3, show ((u' n : Int) > 1) = False from eq_false (by omega), b_add ty_int (show -9223372036854775808 ≤ (n : Int) + 1 by omega) (show (n : Int) + 1 ≤ 9223372036854775807 by omega), ↓reduceIte, Nat.reduceEqDiff, List.getElem?_cons_succ, List.getElem?_cons_zero, wA, wB, wC, wD]
      exact LK_n (k' := 90 - (n + 1)) (by omega) ⟨n + 1, by omega, rfl, by simp -implicitDefEqProofs only [g5, g13, show (n : Int) + 1 = ((n + 1 : Nat) : Int) from rfl, ev_tm, ↓reduceIte, Nat.reduceEqDiff, and_self], rfl⟩
    · obtain rfl : n = 90 := by omega
      have c90 : ((90 : Nat) : Int) = 90 := rfl
      rw [c90] at g32
      simp -implicitDefEqProofs only [o_f2, r_f2_54, r_f2_58, g32, g5, hA.p.rd, show ((90 : Int) < 90) = False from eq_false (by omega), ↓reduceIte, Nat.reduceEqDiff, Nat.reduceSub, List.getElem?_cons_succ, List.getElem?_cons_zero, wA, wB, wC, wD]
theorem apart_loop (h : Aq K m) (hzl : K.zs.length ≤ 100000000000000000) (hwl : K.ws.length ≤ 100000000000000000) {fr : Go.Am.Fr} (f0 : ev (tm 0) fr = K.x) (f1 : ev (tm 1) fr = K.y) (f5 : ev (tm 5) fr = .ptr K.pb 0) (f8 : ev (tm 8) fr = .ptr K.tt 0) (f9 : ev (tm 9) fr = .ptr K.A.o 0) (f11 : ev (tm 11) fr = .ptr K.mb 0) (f12 : ev (tm 12) fr = .ptr K.ab 0) (f13 : ev (tm 13) fr = .slice K.ub 0 90 90 false) (f14 : ev (tm 14) fr = iv 0) :
    GX Tryz.prog tb (.loop k_f2_15) (BK 0 (SK Tryz.prog tb k_f2_43 (FK Tryz.prog [ResultVar.tmp 4] fun v _ => v = .b true))) fr m := by
  generalize hR43 : SK Tryz.prog tb k_f2_43 (FK Tryz.prog [ResultVar.tmp 4] fun v _ => v = AV.b true) = R43
  refine GX_loop (fun j fr' mk => ∃ n, n ≤ K.zs.length + K.ws.length ∧ j = K.zs.length + K.ws.length - n ∧ (ev (tm 0) fr' = K.x ∧ ev (tm 1) fr' = K.y ∧ ev (tm 5) fr' = .ptr K.pb 0 ∧ ev (tm 8) fr' = .ptr K.tt 0 ∧ ev (tm 9) fr' = .ptr K.A.o 0 ∧ ev (tm 11) fr' = .ptr K.mb 0 ∧ ev (tm 12) fr' = .ptr K.ab 0 ∧ ev (tm 13) fr' = .slice K.ub 0 90 90 false ∧ ev (tm 14) fr' = iv (n : Nat)) ∧ Aq K mk) (k := K.zs.length + K.ws.length)
    ⟨0, Nat.zero_le _, rfl, by simp -implicitDefEqProofs only [nc0, f0, f1, f5, f8, f9, f11, f12, f13, f14, nc0, and_self], h⟩ ?_
  clear h f0 f1 f5 f8 f9 f11 f12 f13 f14
  rintro j fr' mk ⟨n, hn, rfl, ⟨f0, f1, f5, f8, f9, f11, f12, f13, f14⟩, h⟩
  obtain ⟨S, own, X, u, V, sl, so, L, hA, hq⟩ := id h
  have lx : lenK false K.x = some K.zs.length := by rw [hA.x.len, List.length_map]
  have ly : lenK false K.y = some K.ws.length := by rw [hA.y.len, List.length_map]
  -- what comes behind a round
  have fin : ∀ e fr2 m2, (e = .normal ∨ e = .exit 0) → Aq K m2 → (∀ t ∈ apF, ev (tm t) fr2 = ev (tm t) fr') → n < K.zs.length + K.ws.length →
      BK 1 (SK Tryz.prog tb k_f2_42 (LK (fun j fr' mk => ∃ n, n ≤ K.zs.length + K.ws.length ∧ j = K.zs.length + K.ws.length - n ∧ (ev (tm 0) fr' = K.x ∧ ev (tm 1) fr' = K.y ∧ ev (tm 5) fr' = .ptr K.pb 0 ∧ ev (tm 8) fr' = .ptr K.tt 0 ∧ ev (tm 9) fr' = .ptr K.A.o 0 ∧ ev (tm 11) fr' = .ptr K.mb 0 ∧ ev (tm 12) fr' = .ptr K.ab 0 ∧ ev (tm 13) fr' = .slice K.ub 0 90 90 false ∧ ev (tm 14) fr' = iv (n : Nat)) ∧ Aq K mk) (K.zs.length + K.ws.length - n) (BK 0 R43))) e fr2 m2 := fun e fr2 m2 he hq hF hlt => by
    simp only [List.mem_cons, List.not_mem_nil, or_false, forall_eq_or_imp, forall_eq, f0, f1, f5, f8, f9, f11, f12, f13, f14] at hF
    obtain ⟨g0, g1, g5, g8, g9, g11, g12, g13, g14⟩ := hF
    rcases he with rfl | rfl
    · simp -implicitDefEqProofs only [o_f2, r_f2_11, g14, b_add ty_int (show -9223372036854775808 ≤ (n : Int) + 1 by omega) (show (n : Int) + 1 ≤ 9223372036854775807 by omega), ↓reduceIte, wA, wB, wC, wD]
      exact LK_n (k' := K.zs.length + K.ws.length - (n + 1)) (by omega) ⟨n + 1, by omega, rfl, by simp -implicitDefEqProofs only [g0, g1, g5, g8, g9, g11, g12, g13, show (n : Int) + 1 = ((n + 1 : Nat) : Int) from rfl, ev_tm, ↓reduceIte, Nat.reduceEqDiff, and_self], hq⟩
    · simp -implicitDefEqProofs only [Nat.reduceEqDiff, wA, wB, wC, wD]
      rw [← hR43]
      exact apart_rest hq g5 g8 g9 g11 g12 g13
  by_cases hlt : n < K.zs.length + K.ws.length
  · by_cases h20 : n < 20
    · by_cases hz : n < K.zs.length
      · have hzg : (K.zs.map iv)[n]? = some (iv K.zs[n]) := by rw [List.getElem?_map, List.getElem?_eq_getElem hz]; rfl
        generalize K.zs[n] = z at hzg
        obtain ⟨b, cap, lim, hxx, _, hr⟩ := hA.x.elem hzg
        rw [List.length_map] at hxx
        have q1 := v_iaS (m := mk) 1 b 0 K.zs.length cap lim hz
        rw [Nat.zero_add, Nat.mul_one, ← hxx] at q1
        simp -implicitDefEqProofs only [o_f2, r_f2_10, r_f2_12, r_f2_13, r_f2_14, r_f2_15, f0, f1, f14, lx, ly, b_add ty_int (show -9223372036854775808 ≤ (K.zs.length : Int) + (K.ws.length : Int) by omega) (show (K.zs.length : Int) + (K.ws.length : Int) ≤ 9223372036854775807 by omega), show ((n : Int) < (K.zs.length : Int) + (K.ws.length : Int)) = True from eq_true (by omega), show ((n : Int) < 20) = True from eq_true (by omega), show ((n : Int) < (K.zs.length : Int)) = True from eq_true (by omega), q1, hr, ↓reduceIte, Nat.reduceEqDiff, wA, wB, wC, wD]
        refine apart_round 0 (by omega) (z := z) h ?_ ?_ ?_ ?_ ?_ ?_ ?_ ?_ fun e fr2 m2 he hq2 hF => fin e fr2 m2 he hq2 (fun t ht => ?_) hlt
        all_goals try simp -implicitDefEqProofs only [nc0, f5, f8, f9, f11, f12, f13, ev_tm, ↓reduceIte, Nat.reduceEqDiff, nc0]
        rw [hF t ht]
        revert t ht
        simp -implicitDefEqProofs only [List.mem_cons, List.not_mem_nil, or_false, forall_eq_or_imp, forall_eq, f0, f1, f5, f8, f9, f11, f12, f13, f14, ev_tm, ↓reduceIte, Nat.reduceEqDiff, and_self]
      · have hz2 : n - K.zs.length < K.ws.length := by omega
        have hzg : (K.ws.map iv)[n - K.zs.length]? = some (iv K.ws[n - K.zs.length]) := by rw [List.getElem?_map, List.getElem?_eq_getElem hz2]; rfl
        generalize K.ws[n - K.zs.length] = z at hzg
        obtain ⟨b, cap, lim, hxx, _, hr⟩ := hA.y.elem hzg
        rw [List.length_map] at hxx
        have q1 := v_iaS (m := mk) 1 b 0 K.ws.length cap lim hz2
        rw [Nat.zero_add, Nat.mul_one, ← hxx] at q1
        have hsb : (n : Int) - (K.zs.length : Int) = ((n - K.zs.length : Nat) : Int) := by omega
        simp -implicitDefEqProofs only [o_f2, r_f2_10, r_f2_12, r_f2_13, r_f2_14, r_f2_16, r_f2_17, f0, f1, f14, lx, ly, b_add ty_int (show -9223372036854775808 ≤ (K.zs.length : Int) + (K.ws.length : Int) by omega) (show (K.zs.length : Int) + (K.ws.length : Int) ≤ 9223372036854775807 by omega), show ((n : Int) < (K.zs.length : Int) + (K.ws.length : Int)) = True from eq_true (by omega), show ((n : Int) < 20) = True from eq_true (by omega), show ((n : Int) < (K.zs.length : Int)) = False from eq_false (by omega), b_sub ty_int (show -9223372036854775808 ≤ (n : Int) - (K.zs.length : Int) by omega) (show (n : Int) - (K.zs.length : Int) ≤ 9223372036854775807 by omega), hsb, q1, hr, ↓reduceIte, Nat.reduceEqDiff, wA, wB, wC, wD]
        refine apart_round 1 (by omega) (z := z) h ?_ ?_ ?_ ?_ ?_ ?_ ?_ ?_ fun e fr2 m2 he hq2 hF => fin e fr2 m2 he hq2 (fun t ht => ?_) hlt
        all_goals try simp -implicitDefEqProofs only [nc1, f5, f8, f9, f11, f12, f13, ev_tm, ↓reduceIte, Nat.reduceEqDiff]
        rw [hF t ht]
        revert t ht
        simp -implicitDefEqProofs only [List.mem_cons, List.not_mem_nil, or_false, forall_eq_or_imp, forall_eq, f0, f1, f5, f8, f9, f11, f12, f13, f14, ev_tm, ↓reduceIte, Nat.reduceEqDiff, and_self]
    · simp -implicitDefEqProofs only [o_f2, r_f2_10, f0, f1, f14, lx, ly, b_add ty_int (show -9223372036854775808 ≤ (K.zs.length : Int) + (K.ws.length : Int) by omega) (show (K.zs.length : Int) + (K.ws.length : Int) ≤ 9223372036854775807 by omega), show ((n : Int) < (K.zs.length : Int) + (K.ws.length : Int)) = True from eq_true (by omega), show ((n : Int) < 20) = False from eq_false (by omega), ↓reduceIte, Nat.reduceEqDiff, wA, wB, wC, wD]
      rw [← hR43]
      refine apart_rest h ?_ ?_ ?_ ?_ ?_ ?_ <;> simp -implicitDefEqProofs only [f5, f8, f9, f11, f12, f13, ev_tm, ↓reduceIte, Nat.reduceEqDiff]
  · simp -implicitDefEqProofs only [o_f2, r_f2_10, f0, f1, f14, lx, ly, b_add ty_int (show -9223372036854775808 ≤ (K.zs.length : Int) + (K.ws.length : Int) by omega) (show (K.zs.length : Int) + (K.ws.length : Int) ≤ 9223372036854775807 by omega), show ((n : Int) < (K.zs.length : Int) + (K.ws.length : Int)) = False from eq_false (by omega), ↓reduceIte, Nat.reduceEqDiff, wA, wB, wC, wD]
    rw [← hR43]
    refine apart_rest h ?_ ?_ ?_ ?_ ?_ ?_ <;> simp -implicitDefEqProofs only [f5, f8, f9, f11, f12, f13, ev_tm, ↓reduceIte, Nat.reduceEqDiff]
end
theorem wakes_ran {m : M} : Ran Tryz.prog tb 8 [] m (.b true) m := known_ran Tryz.func8 rfl
theorem small_ran {m : M} : Ran Tryz.prog tb 10 [] m (.agg planL) m := known_ran Tryz.func10 rfl
set_option maxRecDepth 20000 in
theorem apart_spec {q0 q1 : Option Blk} {x y : AV} {zs ws : List Int} {o o' : Option Nat} (hx : RsAt (mS2 q0 q1) x (zs.map iv) o) (hy : RsAt (mS2 q0 q1) y (ws.map iv) o') (hzl : zs.length ≤ 100000000000000000) (hwl : ws.length ≤ 100000000000000000) :
    WpF Tryz.prog tb fn_f2 [x, y] (mS2 q0 q1) fun v _ => v = .b true := by
  obtain ⟨ma, ea, aa, ka, na⟩ := addZ_at (wf_mS2 q0 q1) ty_api_Plan 12 z12
  obtain ⟨mb, eb, ab, kb, nb⟩ := aa.st ka.wf 0 planL (l' := planL)
  have hn0 : (mS2 q0 q1).next = 2 := rfl
  have hP : mP q0 q1 = some mb := by
    unfold mP
    rw [ea]; exact eb
  obtain ⟨m1, hF, k1, p1, r1⟩ := fresh2_ran hP
  rw [hn0] at eb ab
  have hlt := hF.g.lt hF.wf
  have hx1 := hx.keep (wf_mS2 q0 q1) k1 fun _ _ => id
  have hy1 := hy.keep (wf_mS2 q0 q1) k1 fun _ _ => id
  obtain ⟨m2, ob, ol, od, of, hG, k2, n2, r2⟩ := begin_ran hF.wf hF.g0
  have r2 : Ran Tryz.prog tb fn_b2 [.ptr 178 0] m1 (.tuple [.ptr ob 0, iv 0]) m2 := r2
  have hT : TAt m2 182 180 178 := TAt.keep (A := A0 3) hF.t hF.wf k2 fun b hb e => by
    subst e
    rcases hb with hb | hb <;> exact absurd (hF.g.kd.inj hb) (by decide)
  have xo : ∀ b, o = some b → b < 2 := fun b hb => hx.lt (wf_mS2 q0 q1) hb
  have yo : ∀ b, o' = some b → b < 2 := fun b hb => hy.lt (wf_mS2 q0 q1) hb
  have hx2 := hx1.keep hF.wf k2 fun b hb e => by
    have := xo b hb
    have e : b = 178 := e
    omega
  have hy2 := hy1.keep hF.wf k2 fun b hb e => by
    have := yo b hb
    have e : b = 178 := e
    omega
  have p2 := p1.keep hF.wf k2 (fun e => by have e : 2 = 178 := e; omega)
  obtain ⟨m3, e3, a3, k3, n3⟩ := addZ_at k2.wf ty_2_sint 2 [nils, nils]
  obtain ⟨m4, e4, a4, k4, n4⟩ := addZ_at k3.wf ty_2_sint 2 [nils, nils]
  have hmk := v_mksl (m := m4) ty_int 1 8 [iv 0] (n := 90) (by omega) (by omega)
  have a5 := At.addZr (m := m4) (e := ty_int) (k := 90 * 1) (z := [iv 0]) 90 rfl
  have k5 : Keep m4 (m4.addZ ty_int (90 * 1) [iv 0]) fun _ => False := Keep.addZ k4.wf
  generalize m4.addZ ty_int (90 * 1) [iv 0] = m5 at hmk a5 k5
  have hmk : rMkSl ty_int 1 8 [iv 0] (.cst (iv 90)) (.cst (iv 90)) .leaf m4 = some (.slice m4.next 0 90 90 false, m5) := hmk
  have k24 := k3.tf k4
  have k25 := k24.tf k5
  have hn1 := k2.next
  have p4 := p2.keep k2.wf k24 id
  have hrp : repl 2 [nils] = [nils, nils] := rfl
  have hap : Ap m5 ⟨⟨178, ob, 130, 5, 174, 421, 177, ol, od, of, 129⟩, 182, 180, x, zs, o, y, ws, o', 2, m2.next, m3.next, m4.next⟩ (S0 1) (own0 3) (X0 1) (fun _ => 0) (fun _ => []) (fun _ => nils) (fun _ => none) := {
    wf := k25.wf
    g := hG.k0 k2.wf k25
    t := TAt.k0 (A := A0 3) hT k2.wf k25
    i := inv0 (.inl rfl)
    x := hx2.keep k2.wf k25 fun _ _ => id
    y := hy2.keep k2.wf k25 fun _ _ => id
    p := p4.keep k4.wf k5 id
    mb := a3.keep k3.wf (k4.tf k5) id
    ab := a4.keep k4.wf k5 id
    u := a5
    s := fun q hq => .nil
    ds := fun q r b _ _ h => by cases h
    n2 := fun q b _ h => by cases h
    u2 := by show 2 ≤ m4.next; omega
    m2 := ⟨by show 2 ≤ m2.next; omega, by show 2 ≤ m3.next; omega⟩
    ne := by show ¬ m2.next = m3.next; omega
    xo := xo
    yo := yo
  }
  have hnl : ∀ b, ¬ leafB I2 (S0 1) (X0 1) b := fun b ⟨i, hi, k, hk, h1, h2⟩ => h2 (by rw [← h1]; exact nd0 _ 1 i _)
  have hq : Aq _ m5 := ⟨_, _, _, _, _, _, _, fun _ => [], hap, fun b => ⟨fun h => absurd h (hnl b), fun _ => rfl⟩, fun w hw => ⟨⟨List.nodup_nil, (fun e h => by cases h), fun k _ h => absurd (nd0 _ 1 (2 + w) _) h⟩, rfl, rfl⟩⟩
  generalize hK : (⟨⟨178, ob, 130, 5, 174, 421, 177, ol, od, of, 129⟩, 182, 180, x, zs, o, y, ws, o', 2, m2.next, m3.next, m4.next⟩ : Ac) = K at hq
  refine WpF.go at_f2 ?_
  simp -implicitDefEqProofs only [o_f2, r_f2_0, r_f2_1, r_f2_3, r_f2_4, r_f2_5, r_f2_6, r_f2_7, r_f2_8, r_f2_9, wakes_ran.eq, small_ran.eq, ea, eb, ab.rdN, hn0, r1.eq, r2.eq, p4.rd, e3, e4, hmk, ↓reduceIte, Nat.reduceEqDiff, Nat.reduceAdd, Nat.reduceLeDiff, List.getElem?_cons_succ, List.getElem?_cons_zero, wA, wB, wC, wD]
  have e1 : K.pb = 2 := by rw [← hK]
  have e2 : K.tt = 182 := by rw [← hK]
  have e3 : K.A.o = ob := by rw [← hK]
  have e4 : K.mb = m2.next := by rw [← hK]
  have e5 : K.ab = m3.next := by rw [← hK]
  have e6 : K.ub = m4.next := by rw [← hK]
  have e7 : K.x = x := by rw [← hK]
  have e8 : K.y = y := by rw [← hK]
  refine apart_loop hq (by rw [← hK]; exact hzl) (by rw [← hK]; exact hwl) ?_ ?_ ?_ ?_ ?_ ?_ ?_ ?_ ?_ <;> simp -implicitDefEqProofs only [e1, e2, e3, e4, e5, e6, e7, e8, ev_tm, ↓reduceIte, Nat.reduceEqDiff]
end Go.Proofs.YtooooiidpaecmaaGreat
