import Derived.Test.YthbfinjddaembaaGreatWx
set_option linter.unusedVariables false
set_option linter.unusedSimpArgs false
/- A list of numbers: the least, the greatest; whether it is odd. -/
namespace Go.Am
open Go Go.RowKit
def mnF (l : List Nat) (z : Int) : Int := l.foldl (fun (a : Int) (x : Nat) => min a (x : Int)) z
def mxF (l : List Nat) (z : Int) : Int := l.foldl (fun (a : Int) (x : Nat) => max a (x : Int)) z
theorem mnF_take (l : List Nat) (z : Int) (k : Nat) (h : k < l.length) : mnF (l.take (k + 1)) z = min (mnF (l.take k) z) (l[k] : Int) := by
  unfold mnF
  rw [List.take_add_one, List.getElem?_eq_getElem h, Option.toList_some, List.foldl_append]; rfl
theorem mxF_take (l : List Nat) (z : Int) (k : Nat) (h : k < l.length) : mxF (l.take (k + 1)) z = max (mxF (l.take k) z) (l[k] : Int) := by
  unfold mxF
  rw [List.take_add_one, List.getElem?_eq_getElem h, Option.toList_some, List.foldl_append]; rfl
theorem mnF_lt (c : Int) : ∀ (l : List Nat) (z : Int), mnF l z < c ↔ z < c ∨ ∃ x ∈ l, (x : Int) < c
  | [], z => by simp [mnF]
  | x :: l, z => by
    have := mnF_lt c l (min z (x : Int))
    show mnF l (min z x) < c ↔ _
    rw [this]
    simp only [List.mem_cons, exists_eq_or_imp]
    constructor
    · rintro (h | h)
      · by_cases h2 : z < c
        · exact .inl h2
        · exact .inr (.inl (by omega))
      · exact .inr (.inr h)
    · rintro (h | h | h)
      · exact .inl (by omega)
      · exact .inl (by omega)
      · exact .inr h
theorem mxF_ge (c : Int) : ∀ (l : List Nat) (z : Int), c ≤ mxF l z ↔ c ≤ z ∨ ∃ x ∈ l, c ≤ (x : Int)
  | [], z => by simp [mxF]
  | x :: l, z => by
    have := mxF_ge c l (max z (x : Int))
    show c ≤ mxF l (max z x) ↔ _
    rw [this]
    simp only [List.mem_cons, exists_eq_or_imp]
    constructor
    · rintro (h | h)
      · by_cases h2 : c ≤ z
        · exact .inl h2
        · exact .inr (.inl (by omega))
      · exact .inr (.inr h)
    · rintro (h | h | h)
      · exact .inl (by omega)
      · exact .inl (by omega)
      · exact .inr h
def seenF (zs : List Nat) (L : Al) : Al := zs.foldl (fun L z => putL L z (.agg [])) L
theorem seenF_take (l : List Nat) (L : Al) (k : Nat) (h : k < l.length) : seenF (l.take (k + 1)) L = putL (seenF (l.take k) L) l[k] (.agg []) := by
  unfold seenF
  rw [List.take_add_one, List.getElem?_eq_getElem h, Option.toList_some, List.foldl_append]; rfl
theorem putL_keys (z : Nat) (v : AV) : ∀ (L : Al) (x : Nat), x ∈ (putL L z v).map (·.1) ↔ x = z ∨ x ∈ L.map (·.1)
  | [], x => by simp [putL]
  | e :: l, x => by
    unfold putL
    by_cases h : e.1 = z
    · rw [if_pos h]; simp [h]
    · rw [if_neg h]
      have := putL_keys z v l x
      simp only [List.map_cons, List.mem_cons, this]
      constructor
      · rintro (h | h | h) <;> simp [h]
      · rintro (h | h | h) <;> simp [h]
theorem putL_len (z : Nat) (v : AV) : ∀ (L : Al), (putL L z v).length = if z ∈ L.map (·.1) then L.length else L.length + 1
  | [] => rfl
  | e :: l => by
    unfold putL
    by_cases h : e.1 = z
    · rw [if_pos h, if_pos (by simp [h])]; rfl
    · rw [if_neg h]
      have := putL_len z v l
      show (putL l z v).length + 1 = _
      rw [this]
      have e2 : (z ∈ (e :: l).map (·.1)) ↔ z ∈ l.map (·.1) := by
        simp only [List.map_cons, List.mem_cons]
        exact ⟨fun h2 => h2.resolve_left fun h3 => h h3.symm, .inr⟩
      by_cases h3 : z ∈ l.map (·.1)
      · rw [if_pos h3, if_pos (e2.2 h3)]; rfl
      · rw [if_neg h3, if_neg (fun h4 => h3 (e2.1 h4))]; rfl
theorem seenF_le : ∀ (zs : List Nat) (L : Al), (seenF zs L).length ≤ L.length + zs.length
  | [], L => Nat.le_refl _
  | z :: zs, L => by
    have := seenF_le zs (putL L z (.agg []))
    have h2 := putL_len z (.agg []) L
    show (seenF zs (putL L z (.agg []))).length ≤ _
    rw [List.length_cons]
    split at h2 <;> omega
theorem seenF_eq : ∀ (zs : List Nat) (L : Al), (seenF zs L).length = L.length + zs.length ↔ zs.Nodup ∧ ∀ z ∈ zs, z ∉ L.map (·.1)
  | [], L => by simp [seenF]
  | z :: zs, L => by
    have ih := seenF_eq zs (putL L z (.agg []))
    have hle := seenF_le zs (putL L z (.agg []))
    have h2 := putL_len z (.agg []) L
    show (seenF zs (putL L z (.agg []))).length = _ ↔ _
    rw [List.length_cons, List.nodup_cons]
    by_cases h3 : z ∈ L.map (·.1)
    · rw [if_pos h3] at h2
      constructor
      · intro h; omega
      · rintro ⟨_, h⟩; exact absurd h3 (h z List.mem_cons_self)
    · rw [if_neg h3] at h2
      rw [show L.length + (zs.length + 1) = (putL L z (.agg [])).length + zs.length by omega, ih]
      constructor
      · rintro ⟨h4, h5⟩
        refine ⟨⟨fun h6 => h5 z h6 ((putL_keys z _ L z).2 (.inl rfl)), h4⟩, fun x hx => ?_⟩
        rcases List.mem_cons.1 hx with rfl | hx
        · exact h3
        · exact fun h7 => h5 x hx ((putL_keys z _ L x).2 (.inr h7))
      · rintro ⟨⟨h4, h5⟩, h6⟩
        refine ⟨h5, fun x hx h7 => ?_⟩
        rcases (putL_keys z _ L x).1 h7 with rfl | h8
        · exact h4 hx
        · exact h6 x (List.mem_cons_of_mem _ hx) h8
end Go.Am
namespace Go.Proofs.YthbfinjddaembaaGreat
open Go Go.Am
section
variable {m : M} {lg d mb : Nat} {seq tail used : Nat} {over : Bool}
theorem ns_el {x : AV} {zs : List Nat} {o : Option Nat} (h : NsAt m x zs o) {k : Nat} (hk : k < zs.length) : ∃ b cap, x = .slice b 0 zs.length cap false ∧ m.rd b k = some (iv (zs[k] : Nat)) := by
  obtain ⟨b, cap, hx, _, hr⟩ := elem1 h hk
  refine ⟨b, cap, hx, ?_⟩
  rw [hr, List.getElem?_map, List.getElem?_eq_getElem hk]; rfl
theorem min_ran {x : AV} {z : Nat} {l : List Nat} {o : Option Nat} (h : NsAt m x (z :: l) o) (hl : l.length ≤ 3000000) : Ran Tryz.prog tb fn_g8 [x] m (iv (mnF l z)) m := by
  obtain ⟨b, cap, hx, h0⟩ := ns_el h (k := 0) (by simp)
  subst hx
  have h0 : m.rd b 0 = some (iv (z : Nat)) := h0
  have i0 : (0 : Int) = ((0 : Nat) : Int) := rfl
  have v0 := v_iaS (m := m) 1 b 0 (l.length + 1) cap false (show 0 < l.length + 1 by omega)
  rw [nc0] at v0
  refine WpF.go at_g8 ?_
  simp -implicitDefEqProofs only [o_g8, r_g8_0, r_g8_1, r_g8_3, r_g8_4, show (((l.length + 1 : Nat) : Int) < 1) = False from eq_false (by omega), v0, Nat.mul_one, h0, ↓reduceIte, Nat.reduceEqDiff, wA, wB, wC, wD]
  refine GX_loop (fun j fr mk => ∃ k, k ≤ l.length ∧ j = l.length - k ∧ (ev (tm 0) fr = .slice b 0 (l.length + 1) cap false ∧ ev (tm 3) fr = iv (mnF (l.take k) z) ∧ ev (tm 4) fr = iv (k + 1 : Nat)) ∧ mk = m) (k := l.length) ⟨0, Nat.zero_le _, rfl, by simp -implicitDefEqProofs only [ev_tm, ↓reduceIte, Nat.reduceEqDiff, Nat.zero_add, List.take_zero, and_self, mnF, List.foldl_nil, show ((0 + 1 : Nat) : Int) = 1 from rfl], rfl⟩ ?_
  rintro j fr mk ⟨k, hk, rfl, ⟨e0, e3, e4⟩, rfl⟩
  by_cases hlt : k < l.length
  · obtain ⟨b', cap', hx', hr⟩ := ns_el h (k := k + 1) (by simp; omega)
    cases hx'
    rw [List.getElem_cons_succ] at hr
    have hC : ((k + 1 : Nat) : Int) + 1 = ((k + 1 + 1 : Nat) : Int) := by omega
    simp -implicitDefEqProofs only [o_g8, r_g8_5, r_g8_7, r_g8_6, e0, e3, e4, show (((k + 1 : Nat) : Int) < ((l.length + 1 : Nat) : Int)) = True from eq_true (by omega), v_iaS 1 b 0 (l.length + 1) cap false (show k + 1 < l.length + 1 by omega), Nat.mul_one, hr, b_add ty_int (show -9223372036854775808 ≤ ((k + 1 : Nat) : Int) + 1 by omega) (show ((k + 1 : Nat) : Int) + 1 ≤ 9223372036854775807 by omega), ↓reduceIte, Nat.reduceEqDiff, wA, wB, wC, wD]
    exact LK_n (k' := l.length - (k + 1)) (by omega) ⟨k + 1, by omega, rfl, by simp -implicitDefEqProofs only [e0, hC, mnF_take l z k hlt, ev_tm, ↓reduceIte, Nat.reduceEqDiff, and_self], rfl⟩
  · have hkl : k = l.length := by omega
    subst hkl
    rw [List.take_length] at e3
    simp -implicitDefEqProofs only [o_g8, r_g8_5, r_g8_8, e0, e3, e4, show (((l.length + 1 : Nat) : Int) < ((l.length + 1 : Nat) : Int)) = False from eq_false (by omega), ↓reduceIte, Nat.reduceEqDiff, wA, wB, wC, wD]
theorem max_ran {x : AV} {z : Nat} {l : List Nat} {o : Option Nat} (h : NsAt m x (z :: l) o) (hl : l.length ≤ 3000000) : Ran Tryz.prog tb fn_g7 [x] m (iv (mxF l z)) m := by
  obtain ⟨b, cap, hx, h0⟩ := ns_el h (k := 0) (by simp)
  subst hx
  have h0 : m.rd b 0 = some (iv (z : Nat)) := h0
  have i0 : (0 : Int) = ((0 : Nat) : Int) := rfl
  have v0 := v_iaS (m := m) 1 b 0 (l.length + 1) cap false (show 0 < l.length + 1 by omega)
  rw [nc0] at v0
  refine WpF.go at_g7 ?_
  simp -implicitDefEqProofs only [o_g7, r_g7_0, r_g7_1, r_g7_3, r_g7_4, show (((l.length + 1 : Nat) : Int) < 1) = False from eq_false (by omega), v0, Nat.mul_one, h0, ↓reduceIte, Nat.reduceEqDiff, wA, wB, wC, wD]
  refine GX_loop (fun j fr mk => ∃ k, k ≤ l.length ∧ j = l.length - k ∧ (ev (tm 0) fr = .slice b 0 (l.length + 1) cap false ∧ ev (tm 3) fr = iv (mxF (l.take k) z) ∧ ev (tm 4) fr = iv (k + 1 : Nat)) ∧ mk = m) (k := l.length) ⟨0, Nat.zero_le _, rfl, by simp -implicitDefEqProofs only [ev_tm, ↓reduceIte, Nat.reduceEqDiff, Nat.zero_add, List.take_zero, and_self, mxF, List.foldl_nil, show ((0 + 1 : Nat) : Int) = 1 from rfl], rfl⟩ ?_
  rintro j fr mk ⟨k, hk, rfl, ⟨e0, e3, e4⟩, rfl⟩
  by_cases hlt : k < l.length
  · obtain ⟨b', cap', hx', hr⟩ := ns_el h (k := k + 1) (by simp; omega)
    cases hx'
    rw [List.getElem_cons_succ] at hr
    have hC : ((k + 1 : Nat) : Int) + 1 = ((k + 1 + 1 : Nat) : Int) := by omega
    simp -implicitDefEqProofs only [o_g7, r_g7_5, r_g7_7, r_g7_6, e0, e3, e4, show (((k + 1 : Nat) : Int) < ((l.length + 1 : Nat) : Int)) = True from eq_true (by omega), v_iaS 1 b 0 (l.length + 1) cap false (show k + 1 < l.length + 1 by omega), Nat.mul_one, hr, b_add ty_int (show -9223372036854775808 ≤ ((k + 1 : Nat) : Int) + 1 by omega) (show ((k + 1 : Nat) : Int) + 1 ≤ 9223372036854775807 by omega), ↓reduceIte, Nat.reduceEqDiff, wA, wB, wC, wD]
    exact LK_n (k' := l.length - (k + 1)) (by omega) ⟨k + 1, by omega, rfl, by simp -implicitDefEqProofs only [e0, hC, mxF_take l z k hlt, ev_tm, ↓reduceIte, Nat.reduceEqDiff, and_self], rfl⟩
  · have hkl : k = l.length := by omega
    subst hkl
    rw [List.take_length] at e3
    simp -implicitDefEqProofs only [o_g7, r_g7_5, r_g7_8, e0, e3, e4, show (((l.length + 1 : Nat) : Int) < ((l.length + 1 : Nat) : Int)) = False from eq_false (by omega), ↓reduceIte, Nat.reduceEqDiff, wA, wB, wC, wD]
def oddL (zs : List Nat) : Prop := ¬ zs.Nodup ∨ ∃ z ∈ zs, z < 11 ∨ 60 ≤ z
instance (zs : List Nat) : Decidable (oddL zs) := by unfold oddL; infer_instance
theorem odd_ran {x : AV} {zs : List Nat} {o : Option Nat} (hw : Wf m) (hg : LgAt m lg d mb seq tail used over) (h : NsAt m x zs o) (h0 : zs ≠ []) (hl : zs.length ≤ 3000000) :
    ∃ m', Keep m m' (fun _ => False) ∧ Ran Tryz.prog tb fn_d3 [.ptr lg 0, x] m (.b (decide (oddL zs))) m' := by
  obtain ⟨a1, k1⟩ := MpAt.new0 hw
  have key : WpF Tryz.prog tb fn_d3 [.ptr lg 0, x] m fun v m' => v = .b (decide (oddL zs)) ∧ Keep m m' (fun _ => False) := by
    refine WpF.go at_d3 ?_
    simp -implicitDefEqProofs only [o_d3, r_d3_0, r_d3_1, r_d3_2, h.len, ↓reduceIte, Nat.reduceEqDiff, Nat.reduceAdd, wA, wB, wC, wD]
    refine GX_loop (fun j fr mk => ∃ k, k ≤ zs.length ∧ j = zs.length - k ∧ (ev (tm 0) fr = .ptr lg 0 ∧ ev (tm 1) fr = x ∧ ev (tm 5) fr = .map m.next ∧ ev (tm 9) fr = x ∧ ev (tm 10) fr = iv (zs.length : Nat) ∧ ev (tm 11) fr = iv k) ∧ MpAt mk m.next (seenF (zs.take k) []) ∧ Keep m mk (fun _ => False)) (k := zs.length) ⟨0, Nat.zero_le _, rfl, by simp -implicitDefEqProofs only [nc0, ev_tm, ↓reduceIte, Nat.reduceEqDiff, nc0, and_self], a1, k1⟩ ?_
    rintro j fr mk ⟨k, hk, rfl, ⟨e0, e1, e5, e9, e10, e11⟩, hm, kk⟩
    have hxk := h.keep hw kk fun _ _ h => h
    by_cases hlt : k < zs.length
    · obtain ⟨b, cap, hx, hr⟩ := ns_el hxk hlt
      obtain ⟨m2, f2, hm2, k2, n2⟩ := hm.upd kk.wf zs[k] (.agg [])
      have hC : (k : Int) + 1 = ((k + 1 : Nat) : Int) := by omega
      rw [hx] at e9
      simp -implicitDefEqProofs only [o_d3, r_d3_3, r_d3_4, r_d3_5, r_d3_6, e5, e9, e10, e11, show ((k : Int) < (zs.length : Int)) = True from eq_true (by omega), v_iaS 1 b 0 zs.length cap false hlt, Nat.mul_one, hr, f2, b_add ty_int (show -9223372036854775808 ≤ (k : Int) + 1 by omega) (show (k : Int) + 1 ≤ 9223372036854775807 by omega), ↓reduceIte, Nat.reduceEqDiff, wA, wB, wC, wD]
      refine LK_n (k' := zs.length - (k + 1)) (by omega) ⟨k + 1, by omega, rfl, by simp -implicitDefEqProofs only [e0, e1, e5, e9, e10, hC, hx, ev_tm, ↓reduceIte, Nat.reduceEqDiff, and_self], ?_, kk.trans k2 fun x hx e => by omega⟩
      rw [seenF_take _ _ _ hlt]
      exact hm2
    · have hkl : k = zs.length := by omega
      subst hkl
      rw [List.take_length] at hm
      have hml := hm.mlen
      obtain ⟨z, l, rfl⟩ : ∃ z l, zs = z :: l := by
        cases zs with
        | nil => exact absurd rfl h0
        | cons z l => exact ⟨z, l, rfl⟩
      have rmin := min_ran hxk (by simp at hl; omega)
      have rmax := max_ran hxk (by simp at hl; omega)
      have gk := hg.kp hw (E := []) (S := []) kk.k0
      have q6 : mk.rd lg 6 = some (iv 11) := by rw [gk.rd]; rfl
      have q2 : mk.rd lg 2 = some (iv 60) := by rw [gk.rd]; rfl
      have hle := seenF_le (z :: l) []
      have heq := seenF_eq (z :: l) []
      have hmn := mnF_lt 11 l z
      have hmx := mxF_ge 60 l z
      have hxl := hxk.len
      have hxq : aveq 40 x x = true := hxk.aq
      have hxl2 : lenK false x = some (l.length + 1) := hxl
      generalize hsl : (seenF (z :: l) []).length = sl at hml hle heq
      rw [List.length_cons, List.length_nil, Nat.zero_add] at hle heq
      by_cases c1 : sl < l.length + 1
      · have hodd : oddL (z :: l) := .inl fun hn => by
          have := heq.2 ⟨hn, fun _ _ h => by cases h⟩
          omega
        simp -implicitDefEqProofs only [o_d3, r_d3_3, r_d3_7, e1, e5, e10, e11, show (((l.length + 1 : Nat) : Int) < ((l.length + 1 : Nat) : Int)) = False from eq_false (by omega), hml, hxl2, show ((sl : Int) < ((l.length + 1 : Nat) : Int)) = True from eq_true (by omega), decide_eq_true hodd, ↓reduceIte, Nat.reduceEqDiff, exists_eq_left', wA, wB, wC, wD]
        exact kk
      · have hnd : (z :: l).Nodup := (heq.1 (by omega)).1
        by_cases c2 : mnF l z < 11
        · have hodd : oddL (z :: l) := .inr (by
            rcases hmn.1 c2 with h | ⟨y, hy, h⟩
            · exact ⟨z, List.mem_cons_self, .inl (by omega)⟩
            · exact ⟨y, List.mem_cons_of_mem _ hy, .inl (by omega)⟩)
          simp -implicitDefEqProofs only [o_d3, r_d3_3, r_d3_7, e0, e1, e5, e10, e11, show (((l.length + 1 : Nat) : Int) < ((l.length + 1 : Nat) : Int)) = False from eq_false (by omega), hml, hxl2, show ((sl : Int) < ((l.length + 1 : Nat) : Int)) = False from eq_false (by omega), rmin.eq, q6, eq_true c2, decide_eq_true hodd, ↓reduceIte, Nat.reduceEqDiff, Nat.reduceAdd, exists_eq_left', wA, wB, wC, wD]
          exact kk
        · by_cases c3 : 60 ≤ mxF l z
          · have hodd : oddL (z :: l) := .inr (by
              rcases hmx.1 c3 with h | ⟨y, hy, h⟩
              · exact ⟨z, List.mem_cons_self, .inr (by omega)⟩
              · exact ⟨y, List.mem_cons_of_mem _ hy, .inr (by omega)⟩)
            simp -implicitDefEqProofs only [o_d3, r_d3_3, r_d3_7, e0, e1, e5, e10, e11, show (((l.length + 1 : Nat) : Int) < ((l.length + 1 : Nat) : Int)) = False from eq_false (by omega), hml, hxl2, show ((sl : Int) < ((l.length + 1 : Nat) : Int)) = False from eq_false (by omega), rmin.eq, q6, eq_false c2, rmax.eq, q2, eq_true c3, decide_eq_true hodd, ↓reduceIte, Nat.reduceEqDiff, Nat.reduceAdd, exists_eq_left', wA, wB, wC, wD]
            exact kk
          · have hodd : ¬ oddL (z :: l) := by
              rintro (h | ⟨y, hy, h | h⟩)
              · exact h hnd
              · refine c2 (hmn.2 ?_)
                rcases List.mem_cons.1 hy with rfl | hy
                · exact .inl (by omega)
                · exact .inr ⟨y, hy, by omega⟩
              · refine c3 (hmx.2 ?_)
                rcases List.mem_cons.1 hy with rfl | hy
                · exact .inl (by omega)
                · exact .inr ⟨y, hy, by omega⟩
            simp -implicitDefEqProofs only [o_d3, r_d3_3, r_d3_7, e0, e1, e5, e10, e11, show (((l.length + 1 : Nat) : Int) < ((l.length + 1 : Nat) : Int)) = False from eq_false (by omega), hml, hxl2, show ((sl : Int) < ((l.length + 1 : Nat) : Int)) = False from eq_false (by omega), rmin.eq, q6, eq_false c2, rmax.eq, q2, eq_false c3, decide_eq_false hodd, ↓reduceIte, Nat.reduceEqDiff, Nat.reduceAdd, exists_eq_left', wA, wB, wC, wD]
            exact kk
  obtain ⟨v, m', ⟨rfl, h1⟩, r⟩ := key.ran
  exact ⟨m', h1, r⟩
end
end Go.Proofs.YthbfinjddaembaaGreat
/- What may be committed. -/
namespace Go.Am
theorem nodup_len : ∀ (N : Nat) (zs : List Nat), zs.Nodup → (∀ z ∈ zs, z < N) → zs.length ≤ N
  | 0, zs, _, h => by
    cases zs with
    | nil => exact Nat.le_refl _
    | cons z l => exact absurd (h z List.mem_cons_self) (by omega)
  | N + 1, zs, hn, h => by
    by_cases hm : N ∈ zs
    · have h1 := List.length_erase_of_mem hm
      have h2 := nodup_len N (zs.erase N) (hn.erase _) fun z hz => by
        rw [hn.mem_erase_iff] at hz
        have := h z hz.2
        omega
      have h3 := List.length_pos_of_mem hm
      omega
    · have := nodup_len N zs hn fun z hz => by
        have := h z hz
        have : z ≠ N := fun e => hm (e ▸ hz)
        omega
      omega
theorem nodup_cast (zs : List Nat) : (zs.map fun k => ((k : Nat) : Int)).Nodup ↔ zs.Nodup := by
  unfold List.Nodup
  rw [List.pairwise_map]
  constructor <;> intro h <;> exact h.imp fun h1 h2 => h1 (by omega)
end Go.Am
namespace Go.Proofs.YthbfinjddaembaaGreat
open Go Go.Am
def soundE (L : List (Int × Bs)) : Int :=
  if ∃ e ∈ L, e.2.length ≠ 64 then 1 else if ∃ e ∈ L, e.1 < 11 ∨ 60 ≤ e.1 then 2 else if ¬ (L.map (·.1)).Nodup then 3 else if 9 < L.length + (L.length + 27 - 1) / 27 then 5 else 0
abbrev wv (L : List Wr) : List (Int × Bs) := L.map fun e => (e.1, e.2.2)
section
variable {m : M} {lg d mb : Nat} {seq tail used : Nat} {over : Bool}
theorem is_el {x : AV} {zs : List Int} {o : Option Nat} (h : IsAt m x zs o) {k : Nat} (hk : k < zs.length) : ∃ b cap, x = .slice b 0 zs.length cap false ∧ m.rd b k = some (iv zs[k]) := by
  obtain ⟨b, cap, hx, _, hr⟩ := elem1 h hk
  refine ⟨b, cap, hx, ?_⟩
  rw [hr, List.getElem?_map, List.getElem?_eq_getElem hk]; rfl
set_option maxHeartbeats 2000000 in
theorem sound_ran {x : AV} {L : List Wr} (hw : Wf m) (hg : LgAt m lg d mb seq tail used over) (hx : WsAt m x L) (hL : L.length ≤ 2000000) :
    ∃ m', Keep m m' (fun _ => False) ∧ Ran Tryz.prog tb fn_d6 [.ptr lg 0, x] m (iv (soundE (wv L))) m' := by
  have hxl : lenK false x = some L.length := hx.len
  have key : WpF Tryz.prog tb fn_d6 [.ptr lg 0, x] m fun v m' => v = iv (soundE (wv L)) ∧ Keep m m' (fun _ => False) := by
    refine WpF.go at_d6 ?_
    simp -implicitDefEqProofs only [o_d6, r_d6_0, r_d6_1, r_d6_2, hxl, ↓reduceIte, Nat.reduceEqDiff, Nat.reduceAdd, wA, wB, wC, wD]
    refine GX_loop (fun j fr mk => ∃ k y o, k ≤ L.length ∧ j = L.length - k ∧ (ev (tm 0) fr = .ptr lg 0 ∧ ev (tm 1) fr = x ∧ ev (tm 5) fr = y ∧ ev (tm 12) fr = x ∧ ev (tm 13) fr = iv (L.length : Nat) ∧ ev (tm 14) fr = iv k) ∧ IsAt mk y ((L.take k).map (·.1)) o ∧ (∀ bo, o = some bo → m.next ≤ bo) ∧ (∀ e ∈ L.take k, e.2.2.length = 64) ∧ Keep m mk (fun _ => False)) (k := L.length) ⟨0, nils, none, Nat.zero_le _, rfl, by simp -implicitDefEqProofs only [nc0, ev_tm, ↓reduceIte, Nat.reduceEqDiff, nc0, and_self], .nil, (fun _ h => by cases h), (fun _ h => by cases h), Keep.refl hw _⟩ ?_
    rintro j fr mk ⟨k, y, o, hk, rfl, ⟨e0, e1, e5, e12, e13, e14⟩, hy, hoy, h64, kk⟩
    have gk := hg.kp hw (E := []) (S := []) kk.k0
    by_cases hlt : k < L.length
    · obtain ⟨xb, xc, xq, hxe, hr⟩ := (hx.k0 hw kk).elem hlt
      have hck : L[k]? = some L[k] := List.getElem?_eq_getElem hlt
      have hmem := List.mem_of_getElem? hck
      generalize hE : L[k] = E at hr hck hmem
      obtain ⟨m1, f1, a1, k1, n1⟩ := addZ_at kk.wf ty_api_Write 2 [iv 0, nils]
      obtain ⟨m2, f2, a2, k2, n2⟩ := a1.st k1.wf 0 [iv E.1, E.2.1]
      have r20 : m2.rd mk.next 0 = some (iv E.1) := by rw [a2.rd]; rfl
      have r21 : m2.rd mk.next 1 = some E.2.1 := by rw [a2.rd]; rfl
      have hEd := hx.dt E hmem
      have hlk := kk.next
      have hl1 := k1.next
      have hl2 := k2.next
      have k12 : Keep mk m2 fun _ => False := k1.trans k2 fun x hx e => by omega
      have g2 := gk.kp kk.wf (E := []) (S := []) k12.k0
      have q1 : m2.rd lg 1 = some (iv 64) := by rw [g2.rd]; rfl
      rw [hxe] at e12
      by_cases hE64 : E.2.2.length = 64
      · obtain ⟨m3, f3, a3, k3, n3⟩ := addL_at k2.wf ty_int 1 [iv E.1]
        have src : SlAt m3 ty_int 1 (.slice m2.next 0 1 1 false) 1 [iv E.1] (some m2.next) := .row (junk := []) a3 rfl rfl (Nat.le_refl _) (by decide)
        have hl3 := k3.next
        have hy3 := ((hy.keep kk.wf k1 fun _ _ h => h).keep k1.wf k2 fun bo hbo e => by have := hy.blk_lt kk.wf hbo; omega).keep k2.wf k3 fun _ _ h => h
        obtain ⟨y', m4, o', ea, hy4, k4, ho4⟩ := hy3.append (bytes := 8) (z := [iv 0]) k3.wf src.src (room_of (by simp; omega) (by omega))
        have hC : (k : Int) + 1 = ((k + 1 : Nat) : Int) := by omega
        have h64' : ((E.2.2.length : Nat) : Int) = 64 := by omega
        simp -implicitDefEqProofs only [o_d6, r_d6_3, r_d6_4, r_d6_5, r_d6_7, r_d6_8, e0, e5, e12, e13, e14, show ((k : Int) < (L.length : Int)) = True from eq_true (by omega), v_iaS 2 xb 0 L.length xc xq hlt, hr, f1, f2, r20, r21, hEd.len, h64', hEd.aq, q1, f3, ea, b_add ty_int (show -9223372036854775808 ≤ (k : Int) + 1 by omega) (show (k : Int) + 1 ≤ 9223372036854775807 by omega), ↓reduceIte, Nat.reduceEqDiff, Nat.reduceAdd, Nat.reduceLeDiff, exists_eq_left', wA, wB, wC, wD]
        rw [← hxe] at e12
        have hoy' : ∀ bo, o' = some bo → m.next ≤ bo := fun bo hbo => by
          rcases ho4 with e | ⟨b', e, h5, _⟩
          · exact hoy bo (e ▸ hbo)
          · rw [e] at hbo; cases hbo; omega
        have kf : Keep m m4 fun _ => False := ((kk.tf k12).tf k3).trans k4 fun x hx e => absurd (hoy x e) (by omega)
        refine LK_n (k' := L.length - (k + 1)) (by omega) ⟨k + 1, y', o', by omega, rfl, by simp -implicitDefEqProofs only [e0, e1, e12, e13, hC, hxe, ev_tm, ↓reduceIte, Nat.reduceEqDiff, and_self], ?_, hoy', ?_, kf⟩
        · have e : (L.take (k + 1)).map (·.1) = (L.take k).map (·.1) ++ [E.1] := by
            rw [List.take_add_one, hck]; simp
          rw [e]
          show SlAt m4 ty_int 1 y' ((L.take k).map (·.1) ++ [E.1]).length (((L.take k).map (·.1) ++ [E.1]).map iv) o'
          rw [List.length_append, List.map_append]
          exact hy4
        · intro e he
          rw [List.take_add_one, hck] at he
          rcases List.mem_append.1 he with he | he
          · exact h64 e he
          · cases List.mem_singleton.1 he; exact hE64
      · have h64' : ¬ ((E.2.2.length : Nat) : Int) = 64 := by omega
        have he : soundE (wv L) = 1 := by
          unfold soundE
          rw [if_pos ⟨(E.1, E.2.2), List.mem_map_of_mem (f := fun e : Wr => (e.1, e.2.2)) hmem, hE64⟩]
        rw [he]
        simp -implicitDefEqProofs only [o_d6, r_d6_3, r_d6_4, r_d6_5, r_d6_6, e0, e12, e13, e14, show ((k : Int) < (L.length : Int)) = True from eq_true (by omega), v_iaS 2 xb 0 L.length xc xq hlt, hr, f1, f2, r21, hEd.len, eq_false h64', hEd.aq, q1, ↓reduceIte, Nat.reduceEqDiff, Nat.reduceAdd, exists_eq_left', wA, wB, wC, wD]
        exact kk.tf k12
    have hkL : k = L.length := by omega
    subst hkL
    rw [List.take_length] at hy h64
    have hn1 : ¬ ∃ e ∈ wv L, e.2.length ≠ 64 := by
      rintro ⟨e, he, h⟩
      obtain ⟨x, hx, rfl⟩ := List.mem_map.1 he
      exact h (h64 x hx)
    have hyl := hy.len
    have hyl : lenK false y = some L.length := by rw [hyl, List.length_map]
    simp -implicitDefEqProofs only [o_d6, r_d6_3, r_d6_9, e5, e13, e14, show ((L.length : Int) < (L.length : Int)) = False from eq_false (by omega), hyl, ↓reduceIte, Nat.reduceEqDiff, wA, wB, wC, wD]
    refine GX_loop (fun j fr mk' => ∃ k, k ≤ L.length ∧ j = L.length - k ∧ (ev (tm 0) fr = .ptr lg 0 ∧ ev (tm 1) fr = x ∧ ev (tm 5) fr = y ∧ ev (tm 33) fr = y ∧ ev (tm 34) fr = iv (L.length : Nat) ∧ ev (tm 35) fr = iv k) ∧ (∀ e ∈ L.take k, 11 ≤ e.1 ∧ e.1 < 60) ∧ mk' = mk) (k := L.length) ⟨0, Nat.zero_le _, rfl, by simp -implicitDefEqProofs only [e0, e1, e5, nc0, ev_tm, ↓reduceIte, Nat.reduceEqDiff, nc0, and_self], (fun _ h => by cases h), rfl⟩ ?_
    rintro j fr' mk' ⟨k, hk, rfl, ⟨e0, e1, e5, e33, e34, e35⟩, hrg, rfl⟩
    have q6 : mk'.rd lg 6 = some (iv 11) := by rw [gk.rd]; rfl
    have q2 : mk'.rd lg 2 = some (iv 60) := by rw [gk.rd]; rfl
    by_cases hlt : k < L.length
    · have hlt' : k < (L.map (·.1)).length := by simpa using hlt
      obtain ⟨b, cap, hye, hr⟩ := is_el hy hlt'
      rw [List.getElem_map, List.length_map] at *
      have hck : L[k]? = some L[k] := List.getElem?_eq_getElem hlt
      have hmem := List.mem_of_getElem? hck
      generalize hE : L[k] = E at hr hck hmem
      have hC : (k : Int) + 1 = ((k + 1 : Nat) : Int) := by omega
      rw [hye] at e33
      by_cases c1 : E.1 < 11
      · have he : soundE (wv L) = 2 := by
          unfold soundE
          rw [if_neg hn1, if_pos ⟨(E.1, E.2.2), List.mem_map_of_mem (f := fun e : Wr => (e.1, e.2.2)) hmem, .inl c1⟩]
        rw [he]
        simp -implicitDefEqProofs only [o_d6, r_d6_10, r_d6_11, r_d6_12, r_d6_13, e0, e33, e34, e35, show ((k : Int) < (L.length : Int)) = True from eq_true (by omega), v_iaS 1 b 0 L.length cap false hlt, Nat.mul_one, hr, q6, eq_true c1, ↓reduceIte, Nat.reduceEqDiff, Nat.reduceAdd, wA, wB, wC, wD]
        exact kk
      · by_cases c2 : 60 ≤ E.1
        · have he : soundE (wv L) = 2 := by
            unfold soundE
            rw [if_neg hn1, if_pos ⟨(E.1, E.2.2), List.mem_map_of_mem (f := fun e : Wr => (e.1, e.2.2)) hmem, .inr c2⟩]
          rw [he]
          simp -implicitDefEqProofs only [o_d6, r_d6_10, r_d6_11, r_d6_12, r_d6_13, e0, e33, e34, e35, show ((k : Int) < (L.length : Int)) = True from eq_true (by omega), v_iaS 1 b 0 L.length cap false hlt, Nat.mul_one, hr, q6, q2, eq_false c1, eq_true c2, ↓reduceIte, Nat.reduceEqDiff, Nat.reduceAdd, wA, wB, wC, wD]
          exact kk
        · simp -implicitDefEqProofs only [o_d6, r_d6_10, r_d6_11, r_d6_12, r_d6_14, e0, e33, e34, e35, show ((k : Int) < (L.length : Int)) = True from eq_true (by omega), v_iaS 1 b 0 L.length cap false hlt, Nat.mul_one, hr, q6, q2, eq_false c1, eq_false c2, b_add ty_int (show -9223372036854775808 ≤ (k : Int) + 1 by omega) (show (k : Int) + 1 ≤ 9223372036854775807 by omega), ↓reduceIte, Nat.reduceEqDiff, Nat.reduceAdd, wA, wB, wC, wD]
          rw [← hye] at e33
          refine LK_n (k' := L.length - (k + 1)) (by omega) ⟨k + 1, by omega, rfl, by simp -implicitDefEqProofs only [e0, e1, e5, e33, e34, hC, hye, ev_tm, ↓reduceIte, Nat.reduceEqDiff, and_self], ?_, rfl⟩
          intro e he
          rw [List.take_add_one, hck] at he
          rcases List.mem_append.1 he with he | he
          · exact hrg e he
          · cases List.mem_singleton.1 he; omega
    have hkL : k = L.length := by omega
    subst hkL
    rw [List.take_length] at hrg
    have hn2 : ¬ ∃ e ∈ wv L, e.1 < 11 ∨ 60 ≤ e.1 := by
      rintro ⟨e, he, h⟩
      obtain ⟨x, hx, rfl⟩ := List.mem_map.1 he
      have := hrg x hx
      rcases h with h | h
      · exact absurd h (by show ¬ x.1 < 11; omega)
      · exact absurd h (by show ¬ 60 ≤ x.1; omega)
    have hwl : (wv L).length = L.length := List.length_map ..
    have hwf : (wv L).map (·.1) = L.map (·.1) := by rw [List.map_map]; rfl
    have hyN : NsAt mk' y (L.map fun e => e.1.toNat) o := by
      have e : (L.map fun e => e.1.toNat).map ivn = (L.map (·.1)).map iv := by
        rw [List.map_map, List.map_map]
        apply List.map_congr_left
        intro e he
        have := hrg e he
        show iv ((e.1.toNat : Nat) : Int) = iv e.1
        congr 1
        omega
      show SlAt mk' ty_int 1 y _ _ o
      rw [e, List.length_map]
      have hy' : SlAt mk' ty_int 1 y (L.map (·.1)).length ((L.map (·.1)).map iv) o := hy
      rwa [List.length_map] at hy'
    have hndi : (L.map fun e => e.1.toNat).Nodup ↔ ((wv L).map (·.1)).Nodup := by
      rw [hwf]
      have e : L.map (·.1) = (L.map fun e => e.1.toNat).map fun k => ((k : Nat) : Int) := by
        rw [List.map_map]
        apply List.map_congr_left
        intro e he
        have := hrg e he
        show e.1 = ((e.1.toNat : Nat) : Int)
        omega
      rw [e]
      exact (nodup_cast _).symm
    by_cases hnil : L = []
    · subst hnil
      obtain ⟨m2, k2, r2⟩ := need_ran (n := 0) kk.wf (by omega)
      have qp : mk'.rdN lg 1 12 = some smallP := gk.rdN (i := 1) (n := 12) (Nat.le_of_ble_eq_true rfl)
      have gk2 := gk.kp kk.wf (E := []) (S := []) k2.k0
      have q4 : m2.rd lg 4 = some (iv 9) := by rw [gk2.rd]; rfl
      have r2 : Ran Tryz.prog tb fn_h0 [.agg smallP, iv 0] mk' (.tuple [iv 0, iv 0]) m2 := r2
      have he : soundE (wv []) = 0 := by decide
      rw [he]
      have hxl0 : lenK false x = some 0 := hxl
      have hyl0 : lenK false y = some 0 := hyl
      have e34 : ev (tm 34) fr' = iv 0 := e34
      have e35 : ev (tm 35) fr' = iv 0 := e35
      simp -implicitDefEqProofs only [o_d6, r_d6_10, r_d6_15, r_d6_17, r_d6_18, r_d6_20, e0, e1, e5, e34, e35, hyl0, hxl0, qp, r2.eq, q4, show ((9 : Int) < 0) = False from eq_false (by omega), ↓reduceIte, Nat.reduceEqDiff, Nat.reduceAdd, Nat.reduceSub, wA, wB, wC, wD]
      exact kk.tf k2
    · have hpos : 0 < L.length := List.length_pos_iff.2 hnil
      have gk' := gk
      obtain ⟨m1, k1, r1⟩ := odd_ran kk.wf gk hyN (by simpa using hnil) (by simp; omega)
      have gk1 := gk.kp kk.wf (E := []) (S := []) k1.k0
      have hyq : aveq 40 y y = true := hy.aq
      by_cases hod : oddL (L.map fun e => e.1.toNat)
      · have hnn : ¬ ((wv L).map (·.1)).Nodup := by
          rw [← hndi]
          rcases hod with h | ⟨z, hz, h⟩
          · exact h
          · obtain ⟨e, he, rfl⟩ := List.mem_map.1 hz
            have := hrg e he
            omega
        have he : soundE (wv L) = 3 := by
          unfold soundE
          rw [if_neg hn1, if_neg hn2, if_pos hnn]
        rw [he]
        rw [decide_eq_true hod] at r1
        simp -implicitDefEqProofs only [o_d6, r_d6_10, r_d6_15, r_d6_16, e0, e5, e34, e35, show ((L.length : Int) < (L.length : Int)) = False from eq_false (by omega), hyl, show ((0 : Int) < (L.length : Int)) = True from eq_true (by omega), r1.eq, ↓reduceIte, Nat.reduceEqDiff, wA, wB, wC, wD]
        exact kk.tf k1
      · rw [decide_eq_false hod] at r1
        have hnd : (L.map fun e => e.1.toNat).Nodup := Classical.byContradiction fun h => hod (.inl h)
        have hnn : ¬ ¬ ((wv L).map (·.1)).Nodup := by
          rw [← hndi]
          exact fun h => h hnd
        have hlen60 : L.length ≤ 60 := by
          have := nodup_len 60 _ hnd fun z hz => by
            obtain ⟨e, he, rfl⟩ := List.mem_map.1 hz
            have := hrg e he
            omega
          simpa using this
        obtain ⟨m2, k2, r2⟩ := need_ran (n := L.length) k1.wf (by omega)
        have qp : m1.rdN lg 1 12 = some smallP := gk1.rdN (i := 1) (n := 12) (Nat.le_of_ble_eq_true rfl)
        have gk2 := gk1.kp k1.wf (E := []) (S := []) k2.k0
        have q4 : m2.rd lg 4 = some (iv 9) := by rw [gk2.rd]; rfl
        have he : soundE (wv L) = if 9 < L.length + (L.length + 27 - 1) / 27 then 5 else 0 := by
          unfold soundE
          rw [if_neg hn1, if_neg hn2, if_neg hnn, hwl]
        rw [he]
        by_cases c9 : 9 < L.length + (L.length + 27 - 1) / 27
        · rw [if_pos c9]
          simp -implicitDefEqProofs only [o_d6, r_d6_10, r_d6_15, r_d6_17, r_d6_18, r_d6_19, e0, e1, e5, e34, e35, show ((L.length : Int) < (L.length : Int)) = False from eq_false (by omega), hyl, hxl, show ((0 : Int) < (L.length : Int)) = True from eq_true (by omega), r1.eq, qp, r2.eq, q4, show ((9 : Int) < ((L.length + (L.length + 27 - 1) / 27 : Nat) : Int)) = True from eq_true (by omega), ↓reduceIte, Nat.reduceEqDiff, Nat.reduceAdd, wA, wB, wC, wD]
          exact (kk.tf k1).tf k2
        · rw [if_neg c9]
          simp -implicitDefEqProofs only [o_d6, r_d6_10, r_d6_15, r_d6_17, r_d6_18, r_d6_20, e0, e1, e5, e34, e35, show ((L.length : Int) < (L.length : Int)) = False from eq_false (by omega), hyl, hxl, show ((0 : Int) < (L.length : Int)) = True from eq_true (by omega), r1.eq, qp, r2.eq, q4, show ((9 : Int) < ((L.length + (L.length + 27 - 1) / 27 : Nat) : Int)) = False from eq_false (by omega), ↓reduceIte, Nat.reduceEqDiff, Nat.reduceAdd, wA, wB, wC, wD]
          exact (kk.tf k1).tf k2
  obtain ⟨v, m', ⟨rfl, h1⟩, r⟩ := key.ran
  exact ⟨m', h1, r⟩
end
end Go.Proofs.YthbfinjddaembaaGreat
