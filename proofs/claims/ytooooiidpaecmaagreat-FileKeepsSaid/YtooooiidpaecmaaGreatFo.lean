import Derived.Test.YtooooiidpaecmaaGreatFi
import Derived.Test.YtooooiidpaecmaaGreatGy
set_option linter.unusedVariables false
set_option linter.unusedSimpArgs false
/- slices.IndexFunc and slices.DeleteFunc of the numbers that are 0, slices.Sort. -/
namespace Go.Proofs.YtooooiidpaecmaaGreat
open Go Go.Am
section
variable {m : M}
theorem dirty1_ran (v : Nat) : Ran Tryz.prog tb fn_f4 [ivn v] m (.b (decide (v = 0))) m := by
 refine WpF.go at_f4 ?_
 by_cases h : v = 0
 ·subst h
  simp -implicitDefEqProofs only [o_f4, r_f4_0, r_f4_1, ↓reduceIte, Nat.reduceEqDiff, wA, wB, wC, wD]
 ·simp -implicitDefEqProofs only [o_f4, r_f4_0, r_f4_1, show (((v : Int) = 0)) = False from eq_false (by omega), decide_eq_false h, ↓reduceIte, Nat.reduceEqDiff, wA, wB, wC, wD]
theorem idx_ran {b cap : Nat} {xt : Bool} {D : List Nat} {junk : List AV} (h : At m b ty_int xt (D.map ivn ++ junk)) (hl : D.length ≤ 100000) {Q : AV → M → Prop}
  (h1 : (∀ v ∈ D, v ≠ 0) → Q (iv (-1)) m) (h2 : ∀ i, i < D.length → D[i]? = some 0 → (∀ j, j < i → D[j]? ≠ some 0) → Q (iv i) m) :
  WpF Tryz.prog tb fn_b9 [.slice b 0 D.length cap false, .func fn_f4 []] m Q := by
 refine WpF.go at_b9 ?_
 simp -implicitDefEqProofs only [o_b9, r_b9_0, r_b9_1, r_b9_0, r_b9_1, ↓reduceIte, Nat.reduceEqDiff, Nat.reduceAdd, wA, wB, wC, wD]
 refine GX_loop (fun j fr mk => ∃ k, k ≤ D.length ∧ j = D.length - k ∧ (ev (tm 0) fr = .slice b 0 D.length cap false ∧ ev (tm 1) fr = .func fn_f4 [] ∧ ev (tm 7) fr = iv (D.length : Nat) ∧ ev (tm 8) fr = iv (k : Nat)) ∧ (∀ j, j < k → D[j]? ≠ some 0) ∧ mk = m) (k := D.length) ⟨0, Nat.zero_le _, rfl, by simp -implicitDefEqProofs only [nc0, ev_tm, ↓reduceIte, Nat.reduceEqDiff, nc0, and_self], fun j hj => by omega, rfl⟩ ?_
 rintro j fr mk ⟨k, hk, rfl, ⟨f0, f1, f7, f8⟩, hz, rfl⟩
 by_cases hlt : k < D.length
 ·have hv : D[k]? = some D[k] := List.getElem?_eq_getElem hlt
  generalize D[k] = v at hv
  have hrd : mk.rd b k = some (ivn v) := by
   rw [h.rd, List.getElem?_append_left (by rw [List.length_map]; exact hlt), List.getElem?_map, hv]; rfl
  have hia := v_iaS (m := mk) 1 b 0 D.length cap false hlt
  rw [Nat.zero_add, Nat.mul_one] at hia
  by_cases h0 : v = 0
  ·simp -implicitDefEqProofs only [o_b9, r_b9_2, r_b9_3, r_b9_4, r_b9_5, r_b9_2, r_b9_3, r_b9_4, r_b9_5, f0, f1, f7, f8, show ((k : Int) < (D.length : Int)) = True from eq_true (by omega), hia, hrd, (dirty1_ran v).eq, decide_eq_true h0, ↓reduceIte, Nat.reduceEqDiff, wA, wB, wC, wD]
   exact h2 k hlt (by rw [hv, h0]) hz
  ·simp -implicitDefEqProofs only [o_b9, r_b9_2, r_b9_3, r_b9_4, r_b9_6, r_b9_2, r_b9_3, r_b9_4, r_b9_6, f0, f1, f7, f8, show ((k : Int) < (D.length : Int)) = True from eq_true (by omega), hia, hrd, (dirty1_ran v).eq, decide_eq_false h0, aD (k : Int) 1, ↓reduceIte, Nat.reduceEqDiff, wA, wB, wC, wD]
   refine LK_n (k' := D.length - (k + 1)) (by omega) ⟨k + 1, by omega, rfl, by simp -implicitDefEqProofs only [f0, f1, f7, show (k : Int) + 1 = ((k + 1 : Nat) : Int) from rfl, ev_tm, ↓reduceIte, Nat.reduceEqDiff, and_self], fun j hj e => ?_, rfl⟩
   by_cases hjk : j = k
   ·subst hjk
    rw [hv] at e
    cases e
    exact h0 rfl
   ·exact hz j (by omega) e
 ·obtain rfl : k = D.length := by omega
  simp -implicitDefEqProofs only [o_b9, r_b9_2, r_b9_7, r_b9_2, r_b9_7, f7, f8, ↓reduceIte, wA, wB, wC, wD]
  exact h1 fun v hv e => by
   obtain ⟨j, hj, e2⟩ := List.mem_iff_getElem.1 hv
   exact hz j hj (by rw [List.getElem?_eq_getElem hj, e2, e])
theorem splice_set {C J : List AV} {i : Nat} (v : AV) (h : i < C.length) : splice (C ++ J) i [v] = C.set i v ++ J := by
 unfold splice
 rw [List.take_append_of_le_length (by omega), List.drop_append_of_le_length (by show i + 1 ≤ C.length; omega), List.set_eq_take_append_cons_drop, if_pos h, List.append_assoc]; rfl
theorem repl_iv (n : Nat) (v : AV) : repl n [v] = List.replicate n v := by
 induction n with
 | zero => rfl
 | succ n ih => rw [List.replicate_succ, ← ih]; rfl
theorem v_hi (sz b off len cap : Nat) (lim : Bool) {hi : Nat} (h : hi ≤ cap) (h0 : 0 < cap) : rSl sz false (.cst (.slice b off len cap lim)) none (some (.cst (iv (hi : Int)))) none .leaf m = some (.slice b off hi cap lim, m) := by
 rw [rSl_eq, evo_none, evo_some, ev_cst, bnd_iv h, ob_some', bnd_none, ob_some', nble, decide_eq_true h]
 simp only [bc_true, fc_eq, nbeq]
 rw [decide_eq_false (show ¬ cap = 0 by omega)]
 show some (AV.slice b (off + 0 * sz) (hi - 0) (cap - 0) (lim || false), m) = _
 rw [Bool.or_false, Nat.zero_mul, Nat.add_zero, Nat.sub_zero, Nat.sub_zero]
theorem o_slr (sz : Nat) (x h : RO) (fr : Go.Am.Fr) (m : M) : run (.sl sz false x none (some h) none) fr m = rSl sz false (.cst (ev x fr)) none (some (.cst (ev h fr))) none .leaf m := rfl
def nzs (D : List Nat) : List Nat := D.filter fun v => decide (v ≠ 0)
theorem nzs_take {D : List Nat} {j v : Nat} (h : D[j]? = some v) : nzs (D.take (j + 1)) = nzs (D.take j) ++ if v = 0 then [] else [v] := by
 unfold nzs
 rw [List.take_add_one, h, List.filter_append]
 by_cases h0 : v = 0 <;> simp [h0]
theorem del_ran {x : AV} {D : List Nat} {o : Option Nat} (hw : Wf m) (h : SlAt m ty_int 1 x D.length (D.map ivn) o) (hl : D.length ≤ 100000) :
  ∃ m' x', SlAt m' ty_int 1 x' (nzs D).length ((nzs D).map ivn) o ∧ Keep m m' (fun b => o = some b) ∧ m'.next = m.next ∧ Ran Tryz.prog tb fn_b4 [x, .func fn_f4 []] m x' m' := by
 generalize hn : D.length = n at h
 generalize hc : D.map ivn = cells at h
 cases h with
 | nil =>
  have hD : D = [] := List.length_eq_zero_iff.1 hn
  subst hD
  refine ⟨m, nils, .nil, Keep.refl hw _, rfl, ?_⟩
  have ri : Ran Tryz.prog tb fn_b9 [nils, .func fn_f4 []] m (iv (-1)) m := by
   refine WpF.go at_b9 ?_
   simp -implicitDefEqProofs only [o_b9, r_b9_0, r_b9_1, r_b9_0, r_b9_1, ↓reduceIte, Nat.reduceEqDiff, Nat.reduceAdd, wA, wB, wC, wD]
   refine GX_loop (fun j fr mk => (ev (tm 7) fr = iv 0 ∧ ev (tm 8) fr = iv 0) ∧ mk = m) (k := 0) ⟨by simp -implicitDefEqProofs only [ev_tm, ↓reduceIte, Nat.reduceEqDiff, and_self], rfl⟩ ?_
   rintro j fr mk ⟨⟨f7, f8⟩, rfl⟩
   simp -implicitDefEqProofs only [o_b9, r_b9_2, r_b9_7, r_b9_2, r_b9_7, f7, f8, ↓reduceIte, wA, wB, wC, wD]
  refine WpF.go at_b4 ?_
  simp -implicitDefEqProofs only [o_b4, r_b4_0, r_b4_1, r_b4_2, r_b4_3, r_b4_0, r_b4_1, r_b4_2, r_b4_3, ri.eq, ↓reduceIte, Nat.reduceEqDiff, Nat.reduceAdd, wA, wB, wC, wD]
 | @row b _ cap _ junk xt hA hcl hj hcap h0 =>
  subst hn
  subst hc
  have key : WpF Tryz.prog tb fn_b4 [.slice b 0 D.length cap false, .func fn_f4 []] m fun x' m' => SlAt m' ty_int 1 x' (nzs D).length ((nzs D).map ivn) (some b) ∧ Keep m m' (fun b' => b = b') ∧ m'.next = m.next := by
   refine WpF.go at_b4 ?_
   simp -implicitDefEqProofs only [o_b4, r_b4_0, r_b4_1, r_b4_0, r_b4_1, ↓reduceIte, Nat.reduceEqDiff, Nat.reduceAdd, wA, wB, wC, wD]
   refine idx_ran hA hl (fun hall => ?_) (fun i hi hz hf => ?_)
   ·have e : nzs D = D := List.filter_eq_self.2 fun v hv => by simpa using hall v hv
    simp -implicitDefEqProofs only [o_b4, r_b4_2, r_b4_3, r_b4_2, r_b4_3, ↓reduceIte, Nat.reduceEqDiff, wA, wB, wC, wD]
    rw [e]
    exact ⟨.row hA hcl hj hcap h0, Keep.refl hw _⟩
   ·simp -implicitDefEqProofs only [o_b4, r_b4_2, r_b4_4, r_b4_2, r_b4_4, show ((i : Int) = -1) = False from eq_false (by omega), aD (i : Int) 1, ↓reduceIte, Nat.reduceEqDiff, wA, wB, wC, wD]
    have hfst : nzs (D.take (i + 1)) = D.take i := by
     rw [nzs_take hz, if_pos rfl, List.append_nil]
     refine List.filter_eq_self.2 fun v hv => ?_
     obtain ⟨j, hj', e⟩ := List.mem_iff_getElem.1 hv
     rw [List.length_take] at hj'
     have := hf j (by omega)
     rw [List.getElem_take] at e
     have : v ≠ 0 := fun e2 => this (by rw [List.getElem?_eq_getElem (by omega), e, e2])
     simpa using this
    refine GX_loop (fun k fr mk => ∃ j q C, q < j ∧ j ≤ D.length ∧ k = D.length - j ∧ (ev (tm 0) fr = .slice b 0 D.length cap false ∧ ev (tm 1) fr = .func fn_f4 [] ∧ ev (tm 5) fr = iv (q : Nat) ∧ ev (tm 6) fr = iv (j : Nat)) ∧
     At mk b ty_int xt (C ++ junk) ∧ C.length = D.length ∧ C.take q = (nzs (D.take j)).map ivn ∧ C.drop j = (D.drop j).map ivn ∧ Keep m mk (fun b' => b = b') ∧ mk.next = m.next) (k := D.length - (i + 1))
     ⟨i + 1, i, D.map ivn, by omega, by omega, rfl, by simp -implicitDefEqProofs only [show (i : Int) + 1 = ((i + 1 : Nat) : Int) from rfl, ev_tm, ↓reduceIte, Nat.reduceEqDiff, and_self], hA, by rw [List.length_map], by rw [hfst, List.map_take], by rw [List.map_drop], Keep.refl hw _, rfl⟩ ?_
    rintro k fr mk ⟨j, q, C, hqj, hjl, rfl, ⟨f0, f1, f5, f6⟩, hC, hCl, hCt, hCd, hk, hnx⟩
    have hwk := hk.wf
    by_cases hlt : j < D.length
    ·have hv : D[j]? = some D[j] := List.getElem?_eq_getElem hlt
     generalize D[j] = v at hv
     have hCj : C[j]? = some (ivn v) := by
      have : (C.drop j)[0]? = ((D.drop j).map ivn)[0]? := by rw [hCd]
      rw [List.getElem?_drop, List.getElem?_map, List.getElem?_drop, Nat.add_zero, hv] at this
      exact this
     have hrd : mk.rd b j = some (ivn v) := by rw [hC.rd, List.getElem?_append_left (by omega), hCj]
     have hia := v_iaS (m := mk) 1 b 0 D.length cap false hlt
     rw [Nat.zero_add, Nat.mul_one] at hia
     have hdn : C.drop (j + 1) = (D.drop (j + 1)).map ivn := by
      rw [← List.drop_drop, hCd, ← List.map_drop, List.drop_drop]
     by_cases h0' : v = 0
     ·simp -implicitDefEqProofs only [o_b4, r_b4_5, r_b4_7, r_b4_8, r_b4_6, r_b4_5, r_b4_7, r_b4_8, r_b4_6, f0, f1, f6, show ((j : Int) < (D.length : Int)) = True from eq_true (by omega), hia, hrd, (dirty1_ran v).eq, decide_eq_true h0', aD (j : Int) 1, ↓reduceIte, Nat.reduceEqDiff, wA, wB, wC, wD]
      refine LK_n (k' := D.length - (j + 1)) (by omega) ⟨j + 1, q, C, by omega, by omega, rfl, by simp -implicitDefEqProofs only [f0, f1, f5, show (j : Int) + 1 = ((j + 1 : Nat) : Int) from rfl, ev_tm, ↓reduceIte, Nat.reduceEqDiff, and_self], hC, hCl, by rw [nzs_take hv, if_pos h0', List.append_nil, hCt], hdn, hk, hnx⟩
     ·have hiq := v_iaS (m := mk) 1 b 0 D.length cap false (show q < D.length by omega)
      rw [Nat.zero_add, Nat.mul_one] at hiq
      obtain ⟨m2, e2, a2, k2, n2⟩ := hC.st hwk q [ivn v] (splice_set _ (by omega)) (by show q + 1 ≤ _; rw [List.length_append]; omega)
      simp -implicitDefEqProofs only [o_b4, r_b4_5, r_b4_7, r_b4_8, r_b4_9, r_b4_10, r_b4_6, r_b4_5, r_b4_7, r_b4_8, r_b4_9, r_b4_10, r_b4_6, f0, f1, f5, f6, show ((j : Int) < (D.length : Int)) = True from eq_true (by omega), hia, hiq, hrd, (dirty1_ran v).eq, decide_eq_false h0', e2, aD (j : Int) 1, aD (q : Int) 1, ↓reduceIte, Nat.reduceEqDiff, wA, wB, wC, wD]
      refine LK_n (k' := D.length - (j + 1)) (by omega) ⟨j + 1, q + 1, C.set q (ivn v), by omega, by omega, rfl, by simp -implicitDefEqProofs only [f0, f1, show (j : Int) + 1 = ((j + 1 : Nat) : Int) from rfl, show (q : Int) + 1 = ((q + 1 : Nat) : Int) from rfl, ev_tm, ↓reduceIte, Nat.reduceEqDiff, and_self], a2, by rw [List.length_set, hCl], ?_, ?_, hk.trans k2 fun b' _ e => e.symm, by rw [n2, hnx]⟩
      ·rw [nzs_take hv, if_neg h0', List.map_append, List.take_add_one, List.getElem?_set, if_pos rfl, if_pos (by omega), List.take_set_of_le (Nat.le_refl _), hCt]; rfl
      ·rw [List.drop_set_of_lt (by omega), hdn]
    ·obtain rfl : j = D.length := by omega
     have hfr := v_from (m := mk) 1 b 0 D.length cap false (lo := q) hqj hcap
     rw [Nat.zero_add, Nat.mul_one] at hfr
     obtain ⟨m2, e2, a2, k2, n2⟩ := hC.st hwk q (repl (D.length - q) [iv 0]) (l' := C.take q ++ (List.replicate (D.length - q) (iv 0) ++ junk)) (by
      rw [repl_iv]
      unfold splice
      rw [List.length_replicate, List.take_append_of_le_length (by omega), show q + (D.length - q) = C.length by omega, List.drop_left]) (by rw [repl_iv, List.length_replicate, List.length_append]; omega)
     have hcl' := v_clrs (m := mk) (b := b) (off := q) (len := D.length - q) (cap := cap - q) (lim := false) (z := [iv 0]) (m' := m2) (by omega) e2
     have hhi := v_hi (m := m2) 1 b 0 D.length cap false (hi := q) (by omega) h0
     simp -implicitDefEqProofs only [o_b4, r_b4_5, r_b4_11, r_b4_12, r_b4_5, r_b4_11, r_b4_12, f0, f5, f6, o_sll, hfr, hcl', o_slr, hhi, ↓reduceIte, Nat.reduceEqDiff, wA, wB, wC, wD]
     rw [List.take_length] at hCt
     rw [hCt] at a2
     have hq : (nzs D).length = q := by
      have := congrArg List.length hCt
      rw [List.length_take, List.length_map] at this
      omega
     rw [hq]
     exact ⟨.row a2 (by rw [List.length_map, hq, Nat.mul_one]) (by rw [List.length_append, List.length_replicate, hj, Nat.mul_one, Nat.mul_one]; omega) (by omega) h0, hk.trans k2 fun b' _ e => e.symm, by rw [n2, hnx]⟩
  obtain ⟨x', m', ⟨g1, g2, g3⟩, r⟩ := key.ran
  exact ⟨m', x', g1, g2.mono fun b' _ e => by rw [e], g3, r⟩
theorem sort_ran {x : AV} {L : List Int} {o : Option Nat} (hw : Wf m) (h : SlAt m ty_int 1 x L.length (L.map iv) o) (hl : L.length ≤ 100000) :
  ∃ (m' : M) (L' : List Int), L'.length = L.length ∧ SlAt m' ty_int 1 x L.length (L'.map iv) o ∧ Keep m m' (fun b => o = some b) ∧ m'.next = m.next ∧ Ran Tryz.prog tb fn_slices_Sort_sint_int [x] m (.tuple []) m' := by
 generalize hn : L.length = n at *
 generalize hc : L.map iv = cells at h
 cases h with
 | nil => exact ⟨m, [], rfl, .nil, Keep.refl hw _, rfl, known_ran Tryz.func79 rfl⟩
 | @row b _ cap _ junk xt hA hcl hj hcap h0 =>
  subst hn
  subst hc
  by_cases h00 : L.length = 0
  ·have hL : L = [] := List.length_eq_zero_iff.1 h00
   subst hL
   exact ⟨m, [], rfl, .row hA hcl hj hcap h0, Keep.refl hw _, rfl, known_ran Tryz.func79 rfl⟩
  ·have hil : (isort L).length = L.length := (isort_perm _).length_eq
   obtain ⟨m2, e2, a2, k2, n2⟩ := hA.st hw 0 ((isort L).map iv) (l' := (isort L).map iv ++ junk) (by
    unfold splice
    rw [List.take_zero, List.nil_append, List.length_map, hil, Nat.zero_add, List.drop_append_of_le_length (by rw [List.length_map]; exact Nat.le_refl _), List.drop_of_length_le (by rw [List.length_map]; exact Nat.le_refl _), List.nil_append]) (by rw [List.length_map, hil, List.length_append, List.length_map]; omega)
   have hrd : m.rdN b 0 L.length = some (L.map iv) := by
    rw [hA.rdN (by rw [List.length_append, List.length_map]; omega), List.drop_zero, List.take_append_of_le_length (by rw [List.length_map]; exact Nat.le_refl _), List.take_of_length_le (by rw [List.length_map]; exact Nat.le_refl _)]
   refine ⟨m2, isort L, hil, .row a2 (by rw [List.length_map, hil, Nat.mul_one]) hj hcap h0, k2.mono fun b' _ e => by rw [e], n2, known_ran Tryz.func79 ?_⟩
   show sortIt [.slice b 0 L.length cap false] m = _
   show bc (Nat.beq L.length 0) (some (some (AV.tuple [], m))) (some (ob (m.rdN b 0 L.length) fun l => ob (keysL l) fun ks => bc (Nat.ble L.length 4611686018427387903) (ob (m.wr b 0 ((isort ks).map fun i => ofI .i64 i)) fun m' => some (AV.tuple [], m')) none)) = _
   rw [nbeq, decide_eq_false h00, bc_false, hrd, v_ob, keysL_iv, v_ob, nble, decide_eq_true (by omega), bc_true]
   show some (ob (m.wr b 0 ((isort L).map iv)) fun m' => some (AV.tuple [], m')) = _
   rw [e2]; rfl
end
section
variable {m : M} {A : Ad} {S : PS} {own : Nat → Prop} {X : Nat → Ino} {tt aa i : Nat}
def nDirty (S : PS) (x : Ino) : Nat := (nzs (dataL S x)).length
theorem dataL_len (S : PS) (x : Ino) : (dataL S x).length ≤ 1064 := data_len S x
theorem Dirty_ran (hw : Wf m) (h : GAt m A S own) (ht : TAt m tt aa A.g) (hI : Inv S I2 X) (hi : i ∈ I2) :
  ∃ (m' : M) (x : AV) (o : Option Nat) (L : List Int), L.length = nDirty S (X i) ∧ SlAt m' ty_int 1 x (nDirty S (X i)) (L.map iv) o ∧ (∀ b, o = some b → m.next ≤ b) ∧ Keep m m' (fun _ => False) ∧ Ran Tryz.prog tb fn_f3 [.ptr A.o 0, .ptr tt 0, iv i] m (.tuple [x, iv 0]) m' := by
 obtain ⟨m1, c, a1, k1, n1, r1⟩ := open_ran hw h ht hI hi (iv 0) (iv 0) (iv 0) (iv 0) (iv 0) (iv 0) (iv 0) (iv 0) (iv 0) (iv 0) (iv 0) (iv 0)
 obtain ⟨m2, d1, od1, p1, op1, D1, P1, f1, g1, k2, r2⟩ := Blocks_ran k1.wf (h.k0 hw k1) (ht.k0 hw k1) hI hi
 have hn1 := k1.next
 have hdl := dataL_len S (X i)
 have k02 := k1.tf k2
 obtain ⟨m3, x3, X3, k3, n3, r3⟩ := del_ran k2.wf D1 (by omega)
 have hlen : ∀ b, od1 = some b → m.next ≤ b := fun b e => by have := f1 b e; omega
 have k03 : Keep m m3 fun _ => False := k02.trans k3 fun b hb e => by have := hlen b e; omega
 have X3' : SlAt m3 ty_int 1 x3 ((nzs (dataL S (X i))).map fun v : Nat => (v : Int)).length (((nzs (dataL S (X i))).map fun v : Nat => (v : Int)).map iv) od1 := by
  rw [List.length_map, List.map_map]; exact X3
 have hnl : (nzs (dataL S (X i))).length ≤ 1064 := Nat.le_trans (List.length_filter_le _ _) hdl
 obtain ⟨m4, L, hL, X4, k4, n4, r4⟩ := sort_ran k3.wf X3' (by rw [List.length_map]; omega)
 rw [List.length_map] at hL X4
 refine ⟨m4, x3, od1, L, hL, X4, hlen, k03.trans k4 fun b hb e => by have := hlen b e; omega, ?_⟩
 refine WpF.go at_f3 ?_
 simp -implicitDefEqProofs only [o_f3, r_f3_0, r_f3_1, r_f3_2, r_f3_4, r_f3_5, r_f3_6, r_f3_7, r1.eq, r2.eq, r3.eq, r4.eq, ↓reduceIte, Nat.reduceEqDiff, Nat.reduceAdd, List.getElem?_cons_succ, List.getElem?_cons_zero, wA, wB, wC, wD]
end
section
variable {m : M}
theorem b_neY0 (t : TypeId) (a : Nat) : binS Tryz.prog .neq t (.y a) (.y a) = some (.b false) := by rw [b_neY, decide_eq_true rfl]; rfl
theorem yc_nil {d : Bs} (h : ycells d = []) : d = [] := List.map_eq_nil_iff.1 h
theorem rs_len {s : AV} {d : Bs} {o : Option Nat} (h : RsAt m s (ycells d) o) : lenK false s = some d.length := by
 generalize hc : ycells d = l at h
 cases h with
 | nil => rw [yc_nil hc]; rfl
 | empty => rw [yc_nil hc]; rfl
 | row h => subst hc; show some (ycells d).length = _; simp [ycells]
theorem rs_bs {s : AV} {d : Bs} {o : Option Nat} (h : RsAt m s (ycells d) o) (h0 : d ≠ []) : ∃ b, o = some b ∧ BsAt m s d b := by
 generalize hc : ycells d = l at h
 cases h with
 | nil => exact absurd (yc_nil hc) h0
 | empty => exact absurd (yc_nil hc) h0
 | @row b cap lim l h =>
  subst hc
  have hl : (ycells d).length = d.length := by simp [ycells]
  rw [hl]
  exact ⟨b, rfl, .row h (by rw [hl, Nat.zero_add]; exact Nat.le_refl _) (by rw [List.drop_zero, ← hl, List.take_length])⟩
theorem rs_b2s {s : AV} {d : Bs} {o : Option Nat} (h : RsAt m s (ycells d) o) : rB2S (.cst s) .leaf m = some (tv d, m) := by
 by_cases h0 : d = []
 ·subst h0
  have h : RsAt m s [] o := h
  generalize hl : ([] : List AV) = l at h
  cases h with
  | nil => rfl
  | empty => rfl
  | row h => subst hl; rfl
 ·obtain ⟨b, _, hb⟩ := rs_bs h h0
  exact hb.run_b2s
structure RmAt (m : M) (b : Nat) (d : Bs) : Prop where
 at' : At m b ty_uint8 true (ycells d ++ List.replicate 4 (.y 165))
theorem v_mk4 {n : Nat} (h : n ≤ 1000000) : rMkSl ty_uint8 1 1 [.y 0] (.cst (iv (n : Int))) (.cst (iv ((n + 4 : Nat) : Int))) .leaf m = some (.slice m.next 0 n (n + 4) false, m.addZ ty_uint8 ((n + 4) * 1) [.y 0]) := by
 show bc (Nat.ble n (n + 4) && (Nat.ble (n + 4) 1099511627776 && Nat.ble ((n + 4) * 1) 1099511627776)) (fc (Nat.mul (n + 4) 1) fun k => some (AV.slice m.next (nat_lit 0) n (n + 4) false, m.new (.cells ⟨ty_uint8, k, .leaf, [.y 0], none, false, true, false⟩))) none = _
 rw [nble, nble, nble, decide_eq_true (by omega), decide_eq_true (by omega), decide_eq_true (by omega)]
 rw [show (true && (true && true)) = true from rfl, bc_true, fc_eq]
 rfl
theorem v_copy0 {b off cap : Nat} {lim : Bool} {x : AV} {n : Nat} (hx : lenA x = some n) : rCopy 1 (.cst (.slice b off 0 cap lim)) (.cst x) .leaf m = some (iv 0, m) := by
 show (ob (lenA x) fun xl => fc (bc (Nat.ble xl 0) xl 0) fun n' => bc (Nat.beq n' 0) (some (AV.n 0, m)) _) = _
 rw [hx, v_ob, fc_eq]
 have e : bc (Nat.ble n 0) n 0 = 0 := by
  rw [nble]
  by_cases h : n ≤ 0
  ·rw [decide_eq_true h, bc_true]; omega
  ·rw [decide_eq_false h, bc_false]
 rw [e]; rfl
theorem rs_lenA {s : AV} {d : Bs} {o : Option Nat} (h : RsAt m s (ycells d) o) : lenA s = some d.length := by
 generalize hc : ycells d = l at h
 cases h with
 | nil => rw [yc_nil hc]; rfl
 | empty => rw [yc_nil hc]; rfl
 | row h => subst hc; show some (ycells d).length = _; simp [ycells]
theorem splice_end {l : List AV} {k n : Nat} (hk : k < n) (x z : AV) : splice (l ++ (List.replicate k x ++ List.replicate (n - k) z)) (l.length + k) [x] = l ++ (List.replicate (k + 1) x ++ List.replicate (n - (k + 1)) z) := by
 have h1 : l ++ (List.replicate k x ++ List.replicate (n - k) z) = (l ++ List.replicate k x) ++ List.replicate (n - k) z := by rw [List.append_assoc]
 have hl : (l ++ List.replicate k x).length = l.length + k := by simp
 unfold splice
 rw [h1, List.take_append_of_le_length (by omega), List.take_of_length_le (by omega), show [x].length = 1 from rfl, List.drop_append, List.drop_of_length_le (by omega), hl, List.nil_append, show l.length + k + 1 - (l.length + k) = 1 by omega, List.drop_replicate, List.append_assoc, List.replicate_succ', List.append_assoc, show n - k - 1 = n - (k + 1) by omega]
theorem Roomy_ran {s : AV} {d : Bs} {o : Option Nat} (hw : Wf m) (h : RsAt m s (ycells d) o) (hn : d.length ≤ 1000000) :
  ∃ m' b, At m' b ty_uint8 true (ycells d ++ List.replicate 4 (.y 165)) ∧ m.next ≤ b ∧ Keep m m' (fun _ => False) ∧ Ran Tryz.prog tb fn_g6 [s] m (.slice b 0 d.length (d.length + 4) false) m' := by
 have hyl : (ycells d).length = d.length := by simp [ycells]
 have ha := At.addZr (m := m) (e := ty_uint8) (k := (d.length + 4) * 1) (z := [.y 0]) (d.length + 4) rfl
 rw [rep_flat] at ha
 obtain ⟨m1, e1, k1, n1⟩ : ∃ m1, m.addZ ty_uint8 ((d.length + 4) * 1) [.y 0] = m1 ∧ Keep m m1 (fun _ => False) ∧ m1.next = m.next + 1 := ⟨_, rfl, Keep.addZ hw, M.next_addZ ..⟩
 have emk := v_mk4 (m := m) hn
 rw [e1] at ha emk
 have hw1 := k1.wf
 have h1 := h.keep hw k1 fun _ _ h => h
 obtain ⟨m2, ecp, ha2, k2, n2⟩ : ∃ m2, rCopy 1 (.cst (.slice m.next 0 d.length (d.length + 4) false)) (.cst s) .leaf m1 = some (iv d.length, m2) ∧ At m2 m.next ty_uint8 true (ycells d ++ (List.replicate 0 (.y 165) ++ List.replicate (4 - 0) (.y 0))) ∧ Keep m1 m2 (fun b => b = m.next) ∧ m2.next = m1.next := by
  by_cases h0 : d = []
  ·subst h0
   exact ⟨m1, v_copy0 (rs_lenA h1), ha, Keep.refl hw1 _, rfl⟩
  ·obtain ⟨b, _, hb⟩ := rs_bs h1 h0
   obtain ⟨m2, e2, ha2, k2, n2⟩ := ha.st hw1 0 (ycells d) rfl (by rw [hyl]; simp)
   refine ⟨m2, v_copy (b := m.next) (off := 0) (cap := d.length + 4) (lim := false) hb.src (List.length_pos_iff.2 h0) (Nat.le_refl _) e2, ?_, k2, n2⟩
   have : splice (List.replicate (d.length + 4) (AV.y 0)) 0 (ycells d) = ycells d ++ (List.replicate 0 (.y 165) ++ List.replicate (4 - 0) (.y 0)) := by
    unfold splice
    rw [hyl, List.take_zero, Nat.zero_add, List.drop_replicate, show d.length + 4 - d.length = 4 - 0 by omega]; simp
   rwa [this] at ha2
 have hfull := v_hi (m := m2) 1 m.next 0 d.length (d.length + 4) false (hi := d.length + 4) (Nat.le_refl _) (by omega)
 have hC : (d.length : Int) + 4 = ((d.length + 4 : Nat) : Int) := by omega
 have key : WpF Tryz.prog tb fn_g6 [s] m fun v m' => v = .slice m.next 0 d.length (d.length + 4) false ∧ At m' m.next ty_uint8 true (ycells d ++ List.replicate 4 (.y 165)) ∧ Keep m m' (fun _ => False) := by
  refine WpF.go at_g6 ?_
  simp -implicitDefEqProofs only [o_g6, r_g6_0, r_g6_1, r_g6_2, r_g6_3, r_g6_4, r_g6_0, r_g6_1, r_g6_2, r_g6_3, r_g6_4, rs_len h, aD (d.length : Int) 4, hC, emk, o_copy, ecp, o_slr, hfull, ↓reduceIte, Nat.reduceEqDiff, wA, wB, wC, wD]
  refine GX_loop (fun j fr mk => ∃ k, k ≤ 4 ∧ j = 4 - k ∧ (ev (tm 3) fr = .slice m.next 0 d.length (d.length + 4) false ∧ ev (tm 4) fr = .slice m.next 0 (d.length + 4) (d.length + 4) false ∧ ev (tm 5) fr = iv ((d.length + k : Nat) : Int)) ∧ At mk m.next ty_uint8 true (ycells d ++ (List.replicate k (.y 165) ++ List.replicate (4 - k) (.y 0))) ∧ Keep m2 mk (fun b => b = m.next)) (k := 4) ⟨0, by omega, rfl, by simp -implicitDefEqProofs only [ev_tm, ↓reduceIte, Nat.reduceEqDiff, Nat.add_zero, and_self], ha2, Keep.refl k2.wf _⟩ ?_
  rintro j fr mk ⟨k, hk, rfl, ⟨e3, e4, e5⟩, hak, kk⟩
  by_cases hlt : k < 4
  ·obtain ⟨m3, e6, ha3, k3, n3⟩ := hak.st kk.wf (d.length + k) [.y 165] rfl (by rw [List.length_append, hyl]; simp; omega)
   rw [← hyl, splice_end hlt] at ha3
   have hC2 : ((d.length + k : Nat) : Int) + 1 = ((d.length + (k + 1) : Nat) : Int) := by omega
   simp -implicitDefEqProofs only [o_g6, r_g6_5, r_g6_7, r_g6_6, r_g6_5, r_g6_7, r_g6_6, e4, e5, show (((d.length + k : Nat) : Int) < ((d.length + 4 : Nat) : Int)) = True from eq_true (by omega), v_iaS 1 m.next 0 (d.length + 4) (d.length + 4) false (show d.length + k < d.length + 4 by omega), Nat.mul_one, e6, aD ((d.length + k : Nat) : Int) 1, ↓reduceIte, Nat.reduceEqDiff, wA, wB, wC, wD]
   exact LK_n (k' := 4 - (k + 1)) (by omega) ⟨k + 1, by omega, rfl, by simp -implicitDefEqProofs only [e3, e4, hC2, ev_tm, ↓reduceIte, Nat.reduceEqDiff, and_self], ha3, kk.trans k3 fun _ _ e => e⟩
  ·have hk4 : k = 4 := by omega
   subst hk4
   simp -implicitDefEqProofs only [o_g6, r_g6_5, r_g6_8, r_g6_5, r_g6_8, e3, e4, e5, show (((d.length + 4 : Nat) : Int) < ((d.length + 4 : Nat) : Int)) = False from eq_false (by omega), ↓reduceIte, Nat.reduceEqDiff, Nat.reduceSub, wA, wB, wC, wD]
   refine ⟨by simpa using hak, (k1.trans k2 fun b hb e => ?_).trans kk fun b hb e => by omega⟩
   omega
 obtain ⟨v, m', ⟨rfl, g2, g3⟩, r⟩ := key.ran
 exact ⟨m', m.next, g2, Nat.le_refl _, g3, r⟩
theorem Kept_ran {b : Nat} {s : AV} {d : Bs} {o : Option Nat} (hb : At m b ty_uint8 true (ycells d ++ List.replicate 4 (.y 165))) (h : RsAt m s (ycells d) o) (hn : d.length ≤ 1000000) :
  Ran Tryz.prog tb fn_g5 [.slice b 0 d.length (d.length + 4) false, s] m (.b true) m := by
 have hyl : (ycells d).length = d.length := by simp [ycells]
 have hfull := v_hi (m := m) 1 b 0 d.length (d.length + 4) false (hi := d.length + 4) (Nat.le_refl _) (by omega)
 have hcut := v_hi (m := m) 1 b 0 (d.length + 4) (d.length + 4) false (hi := d.length) (by omega) (by omega)
 have hC : (d.length : Int) + 4 = ((d.length + 4 : Nat) : Int) := by omega
 have hbs : BsAt m (.slice b 0 d.length (d.length + 4) false) d b := .row hb.r (by rw [List.length_append, hyl]; omega) (by rw [List.drop_zero, List.take_append_of_le_length (by omega), ← hyl, List.take_length])
 refine WpF.go at_g5 ?_
 simp -implicitDefEqProofs only [o_g5, r_g5_0, r_g5_1, r_g5_2, rs_len h, aD (d.length : Int) 4, hC, o_slr, hfull, ↓reduceIte, Nat.reduceEqDiff, Nat.reduceAdd, wA, wB, wC, wD]
 refine GX_loop (fun j fr mk => ∃ k, k ≤ 4 ∧ j = 4 - k ∧ (ev (tm 1) fr = s ∧ ev (tm 5) fr = .slice b 0 (d.length + 4) (d.length + 4) false ∧ ev (tm 6) fr = iv ((d.length + k : Nat) : Int)) ∧ mk = m) (k := 4) ⟨0, by omega, rfl, by simp -implicitDefEqProofs only [ev_tm, ↓reduceIte, Nat.reduceEqDiff, Nat.add_zero, and_self], rfl⟩ ?_
 rintro j fr mk ⟨k, hk, rfl, ⟨e1, e5, e6⟩, rfl⟩
 by_cases hlt : k < 4
 ·have hC2 : ((d.length + k : Nat) : Int) + 1 = ((d.length + (k + 1) : Nat) : Int) := by omega
  have hrd : mk.rd b (d.length + k) = some (.y 165) := by
   rw [hb.rd, List.getElem?_append_right (by omega), hyl, show d.length + k - d.length = k by omega, List.getElem?_replicate, if_pos hlt]
  simp -implicitDefEqProofs only [o_g5, r_g5_3, r_g5_5, r_g5_4, e5, e6, show (((d.length + k : Nat) : Int) < ((d.length + 4 : Nat) : Int)) = True from eq_true (by omega), v_iaS 1 b 0 (d.length + 4) (d.length + 4) false (show d.length + k < d.length + 4 by omega), Nat.mul_one, hrd, b_neY0, aD ((d.length + k : Nat) : Int) 1, ↓reduceIte, Nat.reduceEqDiff, wA, wB, wC, wD]
  exact LK_n (k' := 4 - (k + 1)) (by omega) ⟨k + 1, by omega, rfl, by simp -implicitDefEqProofs only [e1, e5, hC2, ev_tm, ↓reduceIte, Nat.reduceEqDiff, and_self], rfl⟩
 ·have hk4 : k = 4 := by omega
  subst hk4
  simp -implicitDefEqProofs only [o_g5, r_g5_3, r_g5_7, e1, e5, e6, show (((d.length + 4 : Nat) : Int) < ((d.length + 4 : Nat) : Int)) = False from eq_false (by omega), rs_len h, o_slr, hcut, hbs.run_b2s, rs_b2s h, ↓reduceIte, Nat.reduceEqDiff, Nat.reduceSub, List.getElem?_cons_succ, List.getElem?_cons_zero, exists_eq_left', wA, wB, wC, wD]
theorem Same_ran {s1 s2 : AV} {b : Nat} {d : Bs} {o : Option Nat} (h1 : BsAt m s1 d b) (h2 : RsAt m s2 (ycells d) o) : Ran Tryz.prog tb fn_g7 [s1, s2] m (.b true) m := by
 refine WpF.go at_g7 ?_
 simp -implicitDefEqProofs only [o_g7, r_g7_0, r_g7_1, r_g7_0, r_g7_1, r_g7_0, r_g7_1, h1.run_b2s, rs_b2s h2, ↓reduceIte, Nat.reduceEqDiff, Nat.reduceAdd, wA, wB, wC, wD]
end
theorem blk0 (S : PS) (k i n : Nat) : blkOf S (X0 k i) n = z64 := if_pos (nd0 S k i _)
theorem fs0 {k : Nat} (h : k = 1 ∨ k = 2) : FS (S0 (UInt8.ofNat k)) I2 (X0 k) :=
 ⟨inv0 h, fun i _ n _ h0 => absurd (nd0 _ k i _) h0, fun i _ o _ _ => by unfold fby; rw [blk0, z64_get], fun i _ => by unfold X0 x0; split <;> exact Nat.zero_le _⟩
theorem cnt0 : cntB (S0 2) = 0 := by decide +kernel
section
variable {m : M} {A : Ad} {S : PS} {own : Nat → Prop} {X : Nat → Ino} {tt aa i at' : Nat}
set_option maxHeartbeats 1000000 in
set_option maxRecDepth 20000 in
theorem Write_nil (hw : Wf m) (h : GAt m A S own) (ht : TAt m tt aa A.g) (hI : Inv S I2 X) (hi : i ∈ I2) {s : AV} (hs : lenK false s = some 0) (hc : cellsO s = some [s]) (hmx : at' ≤ 68096) : ∃ m', Keep m m' (fun _ => False) ∧ Ran Tryz.prog tb fn_f7 [.ptr A.o 0, .ptr tt 0, .agg planL, iv i, iv at', s] m (iv 0) m' := by
 obtain ⟨m1, e1, a1, k1, n1⟩ := addL_at hw ty_pgroup_Op 1 [.ptr A.o 0]
 obtain ⟨m2, e2, a2, k2, n2⟩ := addL_at k1.wf ty_pinode_Table 1 [.ptr tt 0]
 obtain ⟨m3, e3, a3, k3, n3⟩ := addL_at k2.wf ty_api_Plan 12 planL
 obtain ⟨m4, e4, a4, k4, n4⟩ := addL_at k3.wf ty_int 1 [iv i]
 obtain ⟨m5, e5, a5, k5, n5⟩ := addL_at k4.wf ty_int 1 [iv at']
 obtain ⟨m6, e6, a6, k6, n6⟩ := addL_at k5.wf ty_suint8 1 [s]
 obtain ⟨m7, e7, a7, k7, n7⟩ := addZ_at k6.wf ty_api_Errno 1 [iv 0]
 have k57 := k6.tf k7
 have k47 := k5.tf k57
 have k37 := k4.tf k47
 have k27 := k3.tf k37
 have k17 := k2.tf k27
 have k07 := k1.tf k17
 have rM : Ran Tryz.prog tb fn_plan_MaxSize [.agg planL] m7 (.tuple [iv 68096, iv 0]) m7 := known_ran Tryz.func57 rfl
 obtain ⟨m8, c, a8, k8, n8, r8⟩ := open_ran k07.wf (h.k0 hw k07) (ht.k0 hw k07) hI hi (iv 64) (iv 90) (iv 6) (iv 30) (iv 2) (iv 32) (iv 1) (iv 33) (iv 1) (iv 34) (iv 3) (iv 37)
 obtain ⟨m9, e9, a9, k9, n9⟩ := addZ_at k8.wf ty_pfile_content 1 [nilp]
 obtain ⟨m10, e10, a10, k10, n10⟩ := a9.st k9.wf 0 [.ptr c 0]
 have hn8 := k8.next
 have k80 : Keep m8 m10 fun _ => False := k9.trans k10 fun b hb e => by omega
 have k70 := k8.tf k80
 have k00 := k07.tf k70
 have q1 : m1.next = m.next + 1 := n1
 have q2 : m2.next = m.next + 2 := by omega
 have q3 : m3.next = m.next + 3 := by omega
 have q4 : m4.next = m.next + 4 := by omega
 have q5 : m5.next = m.next + 5 := by omega
 have q6 : m6.next = m.next + 6 := by omega
 have c6 : m7.rd m.next 0 = some (.ptr A.o 0) := by rw [(a1.keep k1.wf k17 id).rd]; rfl
 have c7 : m7.rd (m.next + 1) 0 = some (.ptr tt 0) := by rw [← q1, (a2.keep k2.wf k27 id).rd]; rfl
 have c8 : m7.rdN (m.next + 2) 0 12 = some planL := by rw [← q2]; exact (a3.keep k3.wf k37 id).rdN (by show 0 + 12 ≤ 12; omega)
 have c9 : m7.rd (m.next + 3) 0 = some (iv i) := by rw [← q3, (a4.keep k4.wf k47 id).rd]; rfl
 have c10 : m7.rd (m.next + 4) 0 = some (iv at') := by rw [← q4, (a5.keep k5.wf k57 id).rd]; rfl
 have b11 : At m7 (m.next + 5) ty_suint8 true [s] := by rw [← q5]; exact a6.keep k6.wf k7 id
 have c11 : m7.rd (m.next + 5) 0 = some s := by rw [b11.rd]; rfl
 have d11 : m10.rd (m.next + 5) 0 = some s := by rw [(b11.keep k07.wf k70 id).rd]; rfl
 have b12 : At m7 (m.next + 6) ty_api_Errno true [iv 0] := by rw [← q6]; exact a7
 obtain ⟨m11, e11, a11, k11, n11⟩ := (b12.keep k07.wf k70 id).st k00.wf 0 [iv 0]
 have hs1 : binS Tryz.prog .sub ty_int (iv 68096) (iv 0) = some (iv 68096) := by kernel_rfl
 refine ⟨m11, k00.trans k11 fun b hb e => by omega, ?_⟩
 refine WpF.body hb_file_Write_at hb_file_Write_full hb_file_Write_slots rfl hb_file_Write_res rfl ?_
 refine WpS.seq (WpS.code hc_file_Write_0 ?_)
 simp -implicitDefEqProofs only [o_cr_file_Write_0, r_f7_0, e1, e2, e3, e4, e5, hc, e6, e7, q1, q2, q3, q4, q5, q6, ↓reduceIte, Nat.reduceEqDiff, Nat.reduceAdd, wA, wB, wC, wD]
 refine WpS.seq (WpS.code hc_file_Write_1 ?_)
 simp -implicitDefEqProofs only [o_cr_file_Write_1, r_f7_1, c10, show ((at' : Int) < 0) = False from eq_false (by omega), ↓reduceIte, Nat.reduceEqDiff, wA, wB, wC, wD]
 refine WpS.seq (WpS.code hc_file_Write_2 ?_)
 simp -implicitDefEqProofs only [o_cr_file_Write_2, r_f7_3, r_f7_4, c8, rM.eq, c10, c11, hs, show ((4096 : Int) < 0) = False from eq_false (by omega), hs1, show ((68096 : Int) < (at' : Int)) = False from eq_false (by omega), ↓reduceIte, Nat.reduceEqDiff, List.getElem?_cons_succ, List.getElem?_cons_zero, wA, wB, wC, wD]
 refine WpS.seq (WpS.code hc_file_Write_3 ?_)
 simp -implicitDefEqProofs only [o_cr_file_Write_3, r_f7_6, c6, c7, c8, c9, r8.eq, e9, e10, ↓reduceIte, Nat.reduceEqDiff, List.getElem?_cons_succ, List.getElem?_cons_zero, wA, wB, wC, wD]
 refine WpS.seq (WpS.code hc_file_Write_4 ?_)
 simp -implicitDefEqProofs only [o_cr_file_Write_4, r_f7_7, r_f7_8, d11, hs, e11, ↓reduceIte, Nat.reduceEqDiff, wA, wB, wC, wD]
 exact ⟨.inr trivial, m11, rfl, [iv 0], ares_cell (b := m.next + 6) (off := 0) (by kernel_rfl) (by kernel_rfl) (by simp -implicitDefEqProofs only [ev_tm, ↓reduceIte, Nat.reduceEqDiff]) (by rw [a11.rd]; rfl), rfl, rfl⟩
theorem npc_le {at' n : Nat} (ha : at' ≤ 300) (hn : n ≤ 300) : npc at' n ≤ 6 := by
 unfold npc
 split <;> omega
theorem Write_any (hw : Wf m) (h : GAt m A S own) (ht : TAt m tt aa A.g) (hF : FS S I2 X) (hi : i ∈ I2) {d : Bs} {b : Nat} (hb : At m b ty_uint8 true (ycells d ++ List.replicate 4 (.y 165))) (ha : at' ≤ 300) (hl : d.length ≤ 300) (hc : cntB S + 18 < 53) :
  ∃ m' own' T Y, FS T I2 Y ∧ rdF T (Y i) at' d.length = d ∧ min d.length ((Y i).size - at') = d.length ∧ Step m m' A T own own' ∧ Ran Tryz.prog tb fn_f7 [.ptr A.o 0, .ptr tt 0, .agg planL, iv i, iv at', .slice b 0 d.length (d.length + 4) false] m (iv 0) m' := by
 have hyl : (ycells d).length = d.length := by simp [ycells]
 by_cases h0 : d = []
 ·subst h0
  obtain ⟨m', k, r⟩ := Write_nil (at' := at') (s := .slice b 0 0 4 false) hw h ht hF.inv hi rfl rfl (by omega)
  exact ⟨m', own, S, X, hF, rfl, by show min 0 _ = 0; omega, (Step.rf hw h).tf k, r⟩
 ·have hbs : BsAt m (.slice b 0 d.length (d.length + 4) false) d b := .row hb.r (by rw [List.length_append, hyl]; omega) (by rw [List.drop_zero, List.take_append_of_le_length (by omega), ← hyl, List.take_length])
  have hnp := npc_le ha hl
  have key : WpF Tryz.prog tb fn_f7 [.ptr A.o 0, .ptr tt 0, .agg planL, iv i, iv at', .slice b 0 d.length (d.length + 4) false] m fun v m' => ∃ own' T Y, v = iv 0 ∧ FS T I2 Y ∧ rdF T (Y i) at' d.length = d ∧ min d.length ((Y i).size - at') = d.length ∧ Step m m' A T own own' :=
   Write_ran (w := 3) hw h ht hF hi hbs (by omega) hb.kd (by decide) h0 (by omega) (by omega) (fun k _ _ => (way_len _).2) (fun m' own' T Y hW _ st => ⟨own', T, Y, rfl, hW.fs, rdF_all fun j hj => by rw [hW.by' _ (by omega), if_pos (by omega), show at' + j - at' = j by omega], by have := hW.sz; omega, st⟩) (fun h53 => by omega)
  obtain ⟨v, m', ⟨own', T, Y, rfl, h1, h2, h3, h4⟩, r⟩ := key.ran
  exact ⟨m', own', T, Y, h1, h2, h3, h4, r⟩
end
structure Fks (m : M) (x : AV) (d : Bs) (o : Option Nat) (S : PS) (own : Nat → Prop) (X : Nat → Ino) : Prop where
 wf : Wf m
 g : GAt m A2 S own
 t : TAt m 181 179 A2.g
 f : FS S I2 X
 x : RsAt m x (ycells d) o
 pl : At m 1 ty_api_Plan true planL
section
variable {m m' : M} {x : AV} {d : Bs} {o : Option Nat} {S : PS} {own : Nat → Prop} {X : Nat → Ino}
theorem Fks.keep (h : Fks m x d o S own X) (k : Keep m m' fun _ => False) : Fks m' x d o S own X := ⟨k.wf, h.g.k0 h.wf k, h.t.k0 h.wf k, h.f, h.x.keep h.wf k fun _ _ => id, h.pl.keep h.wf k id⟩
theorem Fks.step (h : Fks m x d o S own X) {T : PS} {own' : Nat → Prop} {Y : Nat → Ino} (st : Step m m' A2 T own own') (hY : FS T I2 Y) : Fks m' x d o T own' Y := ⟨st.kp.wf, st.at', h.t.kp h.wf st.kp, hY, h.x.kp h.wf st.kp, h.pl.kp h.wf st.kp⟩
theorem Fks.row (h : Fks m x d o S own X) {F : Nat → Prop} (k : Keep m m' F) (hF : ∀ b, F b → (kd m b (ty_uint8 + 1) ∨ kd m b (ty_int + 1)) ∧ ¬ own b ∧ o ≠ some b) : Fks m' x d o S own X := by
 have ne : ∀ {b j : Nat}, kd m b j → j ≠ ty_uint8 + 1 → j ≠ ty_int + 1 → ¬ F b := fun hb h1 h2 hf => by
  rcases (hF _ hf).1 with e | e
  ·exact h1 (hb.inj e)
  ·exact h2 (hb.inj e)
 refine ⟨k.wf, h.g.keep h.wf k (ne h.g.g.kd (by decide) (by decide)) (ne h.g.o.kd (by decide) (by decide)) (ne h.g.l.kd (by decide) (by decide)) (fun b hb => ne (h.g.kdm b hb) (by decide) (by decide)) (fun b hb hf => (hF b hf).2.1 hb), h.t.keep h.wf k fun b hb => ?_, h.f, h.x.keep h.wf k fun b hb hf => (hF b hf).2.2 hb, h.pl.keep h.wf k (ne h.pl.kd (by decide) (by decide))⟩
 rcases hb with hb | hb <;> exact ne hb (by decide) (by decide)
theorem wakesF_ran : Ran Tryz.prog tb 23 [] m (.b true) m := known_ran Tryz.func23 rfl
theorem smallF_ran : Ran Tryz.prog tb 24 [] m smallV m := known_ran Tryz.func24 rfl
theorem row_sle {e : TypeId} {b n k : Nat} {xt : Bool} {cells junk : List AV} (h : At m b e xt (cells ++ junk)) (hl : cells.length = n) (hj : junk.length = k) (hz : n + k = 0 → xt = true) : SlE m e (.slice b 0 n (n + k) false) n cells (some b) := by
 by_cases h0 : n + k = 0
 ·obtain rfl : n = 0 := by omega
  obtain rfl : k = 0 := by omega
  have e1 : cells = [] := List.length_eq_zero_iff.1 hl
  have e2 : junk = [] := List.length_eq_zero_iff.1 hj
  subst e1 e2
  obtain rfl := hz rfl
  exact .inr ⟨b, rfl, rfl, rfl, rfl, h⟩
 ·exact .inl (.row h (by rw [hl, Nat.mul_one]) (by rw [hj, Nat.mul_one]; omega) (by omega) (by omega))
set_option maxHeartbeats 4000000 in
set_option maxRecDepth 20000 in
theorem fkeeps_rest {at' rb : Nat} {cs : List AV} (hK : Fks m x d o S own X) (hrb : At m rb ty_uint8 true (cs ++ List.replicate 4 (.y 165))) (hcl : cs.length = d.length) (hro : o ≠ some rb) (hrw : ¬ own rb) (ho : ∀ b, o = some b → b < 1) (hn1 : 1 < m.next) (ha : at' ≤ 300) (hl : d.length ≤ 300) (hrd : rdF S (X 2) at' d.length = d) (hmin : min d.length ((X 2).size - at') = d.length)
  {fr : Go.Am.Fr} (e0 : ev (tm 0) fr = x) (e1 : ev (tm 1) fr = iv at') (e7 : ev (tm 7) fr = .ptr 1 0) (e9 : ev (tm 9) fr = .ptr 181 0) (e10 : ev (tm 10) fr = .ptr 430 0) (e11 : ev (tm 11) fr = .slice rb 0 d.length (d.length + 4) false) :
  GX Tryz.prog tb k_h1_28 (FK Tryz.prog [ResultVar.tmp 6] fun v _ => v = .b true) fr m := by
 have h2 : 2 ∈ I2 := by decide
 have hyl : (ycells d).length = d.length := by simp [ycells]
 have hsz := hK.f.sz 2 h2
 have pl : ∀ {mk}, At mk 1 ty_api_Plan true planL → mk.rdN 1 0 12 = some planL := fun h => h.rdN (by show 0 + 12 ≤ 12; omega)
 obtain ⟨m1, c1, C1, f1, k1, r1⟩ := Read_ran (n := d.length) hK.wf hK.g hK.t hK.f.inv hK.f.dat h2 (by omega) (by omega) hsz hmin
 have K1 := hK.keep k1
 obtain ⟨m2, c2, C2, f2, k2, r2⟩ := Read_ran (n := d.length) K1.wf K1.g K1.t hK.f.inv hK.f.dat h2 (by omega) (by omega) hsz hmin
 have K2 := K1.keep k2
 obtain ⟨m3, x3, o3, L3, hL3, D3, f3, k3, r3⟩ := Dirty_ran K2.wf K2.g K2.t hK.f.inv h2
 have K3 := K2.keep k3
 obtain ⟨m4, x4, o4, L4, hL4, D4, f4, k4, r4⟩ := Dirty_ran K3.wf K3.g K3.t hK.f.inv h2
 have K4 := K3.keep k4
 rw [hrd] at C1 C2
 have c2i : ((2 : Nat) : Int) = 2 := rfl
 rw [c2i] at r1 r2 r3 r4
 have A2o : (.ptr A2.o 0 : AV) = .ptr 430 0 := rfl
 rw [A2o] at r1 r2 r3 r4
 have hnn1 := k1.next
 have hnn2 := k2.next
 have hnn3 := k3.next
 have hnn4 := k4.next
 have C1' := (C1.keep k1.wf k2 id).keep k2.wf (k3.tf k4) id
 have C2' := C2.keep k2.wf (k3.tf k4) id
 have rb4 := hrb.keep hK.wf ((k1.tf k2).tf (k3.tf k4)) id
 have D3' := D3.keep k3.wf k4 fun _ _ => id
 have bsC : ∀ {mk : M} {b : Nat}, At mk b ty_uint8 true (ycells d) → BsAt mk (.slice b 0 d.length d.length false) d b := fun h => .row h.r (by rw [hyl]; omega) (by rw [List.drop_zero, ← hyl, List.take_length])
 have s1 := Same_ran (bsC C1') K4.x
 have s2 := Same_ran (bsC C2') K4.x
 obtain ⟨m5, e5, a5, k5, n5⟩ := addL_at K4.wf ty_suint8 3 [.slice c1 0 d.length d.length false, .slice c2 0 d.length d.length false, .slice rb 0 d.length (d.length + 4) false]
 have K5 := K4.keep k5
 have hz3 : repl 3 [nils] = [nils, nils, nils] := rfl
 have hz2 : repl 2 [nils] = [nils, nils] := rfl
 have hrl := hrb.lt hK.wf
 have hc1 := C1.lt k1.wf
 have hc2 := C2.lt k2.wf
 have hnd := dataL_len S (X 2)
 have hnD : nDirty S (X 2) ≤ 1064 := Nat.le_trans (List.length_filter_le _ _) hnd
 simp -implicitDefEqProofs only [o_h1, r_h1_15, r_h1_16, r_h1_17, r_h1_18, r_h1_19, r_h1_21, e0, e1, e7, e9, e10, e11, rs_len hK.x, pl hK.pl, pl K1.pl, r1.eq, r2.eq, r3.eq, r4.eq, s1.eq, s2.eq, hz3, e5, ↓reduceIte, Nat.reduceEqDiff, Nat.reduceAdd, Nat.reduceLeDiff, List.getElem?_cons_succ, List.getElem?_cons_zero, wA, wB, wC, wD]
 have hmem : ∀ {P : Lz → Prop} {zs : List Lz}, (∀ z ∈ zs, P z) → ∀ (j : Nat) (z : Lz), zs[j]? = some z → P z := fun h j z hj => h z (List.mem_of_getElem? hj)
 have hF : ∀ b, Lz.F [⟨.slice c1 0 d.length d.length false, d.length, some c1⟩, ⟨.slice c2 0 d.length d.length false, d.length, some c2⟩, ⟨.slice rb 0 d.length (d.length + 4) false, d.length, some rb⟩] b → b = c1 ∨ b = c2 ∨ b = rb := fun b ⟨j, z, h1, h2⟩ => by
  have hz := List.mem_of_getElem? h1
  simp only [List.mem_cons, List.not_mem_nil, or_false] at hz
  rcases hz with rfl | rfl | rfl <;> cases h2 <;> simp
 refine bytes_apart (zs := [⟨.slice c1 0 d.length d.length false, d.length, some c1⟩, ⟨.slice c2 0 d.length d.length false, d.length, some c2⟩, ⟨.slice rb 0 d.length (d.length + 4) false, d.length, some rb⟩]) K5.wf (by simp) a5 (hmem fun z hz => ?_) (hd_of ?_) (by simp) (by simp [Lz.S]; omega) (hmem fun z hz => ?_) fun m6 k6 => ?_
 ·simp only [List.mem_cons, List.not_mem_nil, or_false] at hz
  rcases hz with rfl | rfl | rfl
  ·exact ⟨_, row_sle (k := 0) (junk := []) (by rw [List.append_nil]; exact C1'.keep K4.wf k5 id) hyl rfl fun _ => rfl⟩
  ·exact ⟨_, row_sle (k := 0) (junk := []) (by rw [List.append_nil]; exact C2'.keep K4.wf k5 id) hyl rfl fun _ => rfl⟩
  ·exact ⟨_, row_sle (k := 4) (rb4.keep K4.wf k5 id) hcl rfl fun _ => rfl⟩
 ·simp only [List.pairwise_cons, List.mem_cons, List.not_mem_nil, or_false, forall_eq_or_imp, forall_eq, List.Pairwise.nil, and_true, false_implies, implies_true, Option.some.injEq, ne_eq]
  refine ⟨⟨fun b h e => ?_, fun b h e => ?_⟩, fun b h e => ?_⟩ <;> omega
 ·simp only [List.mem_cons, List.not_mem_nil, or_false] at hz
  rcases hz with rfl | rfl | rfl <;> (dsimp only; omega)
 have hown : ∀ b, own b → b < m.next := fun b hb => hK.g.lt hK.wf hb
 have hkd5 : ∀ b, b = c1 ∨ b = c2 ∨ b = rb → kd m5 b (ty_uint8 + 1) := fun b hb => by
  rcases hb with rfl | rfl | rfl
  ·exact (C1'.keep K4.wf k5 id).kd
  ·exact (C2'.keep K4.wf k5 id).kd
  ·exact (rb4.keep K4.wf k5 id).kd
 have K6 := K5.row k6 fun b hb => ⟨.inl (hkd5 b (hF b hb)), fun h => by
   rcases hF b hb with rfl | rfl | rfl
   ·have := hown _ h; omega
   ·have := hown _ h; omega
   ·exact hrw h, fun h => by
   rcases hF b hb with rfl | rfl | rfl
   ·have := ho _ h; omega
   ·have := ho _ h; omega
   ·exact hro h⟩
 obtain ⟨m7, e7', a7, k7, n7⟩ := addL_at K6.wf ty_sint 2 [x3, x4]
 have K7 := K6.keep k7
 have o3r : ∀ b, o3 = some b → kd m3 b (ty_int + 1) ∧ m2.next ≤ b ∧ b < m3.next := fun b e => by subst e; exact ⟨D3.kd, f3 _ rfl, D3.kd.lt k3.wf⟩
 have o4r : ∀ b, o4 = some b → kd m4 b (ty_int + 1) ∧ m3.next ≤ b ∧ b < m4.next := fun b e => by subst e; exact ⟨D4.kd, f4 _ rfl, D4.kd.lt k4.wf⟩
 have n6F : ∀ b, Lz.F [⟨.slice c1 0 d.length d.length false, d.length, some c1⟩, ⟨.slice c2 0 d.length d.length false, d.length, some c2⟩, ⟨.slice rb 0 d.length (d.length + 4) false, d.length, some rb⟩] b → b < m2.next := fun b hb => by
  rcases hF b hb with rfl | rfl | rfl <;> omega
 have D3'' := ((D3'.keep K4.wf k5 fun _ _ => id).keep K5.wf k6 fun b hb hf => by have := n6F b hf; have := (o3r b hb).2.1; omega).keep K6.wf k7 fun _ _ => id
 have D4'' := ((D4.keep K4.wf k5 fun _ _ => id).keep K5.wf k6 fun b hb hf => by have := n6F b hf; have := (o4r b hb).2.1; omega).keep K6.wf k7 fun _ _ => id
 simp -implicitDefEqProofs only [D3.cells1, D4.cells1, hz2, e7', ↓reduceIte, Nat.reduceEqDiff, Nat.reduceAdd, Nat.reduceLeDiff, wA, wB, wC, wD]
 refine ints_apart (zs := [⟨x3, nDirty S (X 2), o3⟩, ⟨x4, nDirty S (X 2), o4⟩]) K7.wf (by simp) a7 (hmem fun z hz => ?_) (hd_of ?_) (by simp) (by simp [Lz.S]; omega) (hmem fun z hz => ?_) fun m8 k8 => ?_
 ·simp only [List.mem_cons, List.not_mem_nil, or_false] at hz
  rcases hz with rfl | rfl
  ·exact ⟨_, .inl D3''⟩
  ·exact ⟨_, .inl D4''⟩
 ·simp only [List.pairwise_cons, List.mem_cons, List.not_mem_nil, or_false, forall_eq, List.Pairwise.nil, and_true, false_implies, implies_true, ne_eq]
  intro b h e
  have := o3r b h
  have := o4r b e
  omega
 ·simp only [List.mem_cons, List.not_mem_nil, or_false] at hz
  rcases hz with rfl | rfl <;> (dsimp only; omega)
 have K8 := K7.row k8 fun b hb => by
  obtain ⟨j, z, h1, h2⟩ := hb
  have hz := List.mem_of_getElem? h1
  simp only [List.mem_cons, List.not_mem_nil, or_false] at hz
  rcases hz with rfl | rfl
  ·have h2 : o3 = some b := h2
   have := o3r b h2
   subst h2
   exact ⟨.inr D3''.kd, fun h => by have := hown _ h; omega, fun h => by have := ho _ h; omega⟩
  ·have h2 : o4 = some b := h2
   have := o4r b h2
   subst h2
   exact ⟨.inr D4''.kd, fun h => by have := hown _ h; omega, fun h => by have := ho _ h; omega⟩
 obtain ⟨m9, c9, C9, f9, k9, r9⟩ := Read_ran (n := d.length) K8.wf K8.g K8.t hK.f.inv hK.f.dat h2 (by omega) (by omega) hsz hmin
 have K9 := K8.keep k9
 rw [hrd] at C9
 rw [c2i, A2o] at r9
 have s9 := Same_ran (bsC C9) K9.x
 simp -implicitDefEqProofs only [o_h1, r_h1_23, r_h1_24, e0, e1, e7, e9, e10, rs_len K8.x, pl K8.pl, r9.eq, s9.eq, ↓reduceIte, Nat.reduceEqDiff, List.getElem?_cons_succ, List.getElem?_cons_zero, wA, wB, wC, wD]
end
set_option maxHeartbeats 4000000 in
set_option maxRecDepth 20000 in
theorem fkeeps_spec {q : Option Blk} {x : AV} {d : Bs} {o : Option Nat} {at' : Int} {y : UInt8} (hx : RsAt (mS q) x (ycells d) o) : WpF Tryz.prog tb fn_h1 [x, iv at', .y y.toNat] (mS q) fun v _ => v = .b true := by
 have hyl : (ycells d).length = d.length := by simp [ycells]
 have hlen := rs_len hx
 by_cases hg : at' < 0 ∨ 300 < at' ∨ 300 < (d.length : Int)
 ·refine WpF.go at_h1 ?_
  by_cases h1 : at' < 0
  ·simp -implicitDefEqProofs only [o_h1, r_h1_0, r_h1_1, r_h1_3, r_h1_4, wakesF_ran.eq, eq_true h1, ↓reduceIte, Nat.reduceEqDiff, Nat.reduceAdd, wA, wB, wC, wD]
  ·by_cases h2 : 300 < at'
   ·simp -implicitDefEqProofs only [o_h1, r_h1_0, r_h1_1, r_h1_3, r_h1_4, wakesF_ran.eq, eq_false h1, eq_true h2, ↓reduceIte, Nat.reduceEqDiff, Nat.reduceAdd, wA, wB, wC, wD]
   ·have h3 : 300 < (d.length : Int) := by omega
    simp -implicitDefEqProofs only [o_h1, r_h1_0, r_h1_1, r_h1_3, r_h1_4, wakesF_ran.eq, eq_false h1, eq_false h2, eq_true h3, hlen, ↓reduceIte, Nat.reduceEqDiff, Nat.reduceAdd, wA, wB, wC, wD]
 ·obtain ⟨a, rfl⟩ : ∃ a : Nat, at' = a := ⟨at'.toNat, by omega⟩
  obtain ⟨m2, hm⟩ : ∃ m2, mQ q = some m2 := by
   obtain ⟨mz, ez, az, kz, nz⟩ := addZ_at (wf_mS q) ty_api_Plan 12 z12
   obtain ⟨mw, ew, aw, kw, nw⟩ := az.st kz.wf 0 planL
   have e1 : (mS q).next = 1 := rfl
   rw [e1] at ew
   refine ⟨mw, ?_⟩
   unfold mQ
   rw [ez, ew]
  obtain ⟨m1, hw1, k01, hpl, hG, hT, r1⟩ := made_ran hm
  have hm' : ((mS q).addZ ty_api_Plan 12 z12).wr 1 0 planL = some m2 := hm
  have e1 : (mS q).next = 1 := rfl
  have hpl2 : m2.rdN 1 0 12 = some planL := by
   obtain ⟨mz, ez, az, kz, nz⟩ := addZ_at (wf_mS q) ty_api_Plan 12 z12
   obtain ⟨mw, ew, aw, kw, nw⟩ := az.st kz.wf 0 planL
   rw [e1] at ew aw
   rw [ez, ew] at hm'
   cases hm'
   exact aw.rdN (by show 0 + 12 ≤ 12; omega)
  have K1 : Fks m1 x d o (S0 2) (own0 2) (X0 2) := ⟨hw1, hG, hT, fs0 (.inr rfl), hx.keep (wf_mS q) k01 fun _ _ => id, hpl⟩
  have hlo : ∀ b, o = some b → b < 1 := fun b hb => hx.lt (wf_mS q) hb
  obtain ⟨m3, rb, hrb, hrn, k3, r3⟩ := Roomy_ran K1.wf K1.x (by omega)
  have K3 := K1.keep k3
  have hg1 : 1 < m1.next := hpl.lt hw1
  obtain ⟨m4, own4, T, Y, f4, h1, h2, st, r4⟩ := Write_any (at' := a) (i := 2) K3.wf K3.g K3.t K3.f (by decide) hrb (by omega) (by omega) (by rw [cnt0]; omega)
  have K4 := K3.step st f4
  have hrb4 := hrb.kp K3.wf st.kp
  have hk4 := Kept_ran hrb4 K4.x (by omega)
  have c2i : ((2 : Nat) : Int) = 2 := rfl
  have A2o : (.ptr A2.o 0 : AV) = .ptr 430 0 := rfl
  rw [c2i, A2o] at r4
  have hown : ∀ b, own4 b → b < rb ∨ rb < b := fun b hb => by
   rcases st.ow b hb with h | h
   ·have := hG.lt hw1 h; omega
   ·have := hrb.lt k3.wf; omega
  have hrbo : o ≠ some rb := fun e => by have := hlo _ e; omega
  have hn4 := st.kp.next
  have hpl1 : m1.rdN 1 0 12 = some planL := K1.pl.rdN (by show 0 + 12 ≤ 12; omega)
  have hpl3 : m3.rdN 1 0 12 = some planL := K3.pl.rdN (by show 0 + 12 ≤ 12; omega)
  have hn3 := k3.next
  refine WpF.go at_h1 ?_
  simp -implicitDefEqProofs only [o_h1, r_h1_0, r_h1_1, r_h1_3, r_h1_5, r_h1_6, r_h1_7, r_h1_8, r_h1_9, r_h1_11, wakesF_ran.eq, smallF_ran.eq, smallV, hlen, show ((a : Int) < 0) = False from eq_false (by omega), show ((300 : Int) < (a : Int)) = False from eq_false (by omega), show ((300 : Int) < (d.length : Int)) = False from eq_false (by omega), e1, hm', hpl2, r1.eq, r3.eq, hpl3, r4.eq, hk4.eq, ↓reduceIte, Nat.reduceEqDiff, Nat.reduceAdd, List.getElem?_cons_succ, List.getElem?_cons_zero, wA, wB, wC, wD]
  generalize hR : SK Tryz.prog tb k_h1_28 (FK Tryz.prog [ResultVar.tmp 6] fun v _ => v = AV.b true) = RR
  refine GX_loop (fun j fr mk => ∃ k cs, k ≤ d.length ∧ j = d.length - k ∧ cs.length = d.length ∧ (ev (tm 0) fr = x ∧ ev (tm 1) fr = iv a ∧ ev (tm 2) fr = .y y.toNat ∧ ev (tm 7) fr = .ptr 1 0 ∧ ev (tm 9) fr = .ptr 181 0 ∧ ev (tm 10) fr = .ptr 430 0 ∧ ev (tm 11) fr = .slice rb 0 d.length (d.length + 4) false ∧ ev (tm 13) fr = iv (k : Nat)) ∧ At mk rb ty_uint8 true (cs ++ List.replicate 4 (.y 165)) ∧ Keep m4 mk (fun b => b = rb)) (k := d.length)
   ⟨0, ycells d, Nat.zero_le _, rfl, hyl, by simp -implicitDefEqProofs only [nc0, ev_tm, ↓reduceIte, Nat.reduceEqDiff, nc0, and_self], hrb4, Keep.refl K4.wf _⟩ ?_
  rintro j fr mk ⟨k, cs, hk, rfl, hcs, ⟨f0, f1, f2, f7, f9, f10, f11, f13⟩, hc, kk⟩
  by_cases hlt : k < d.length
  ·have hia := v_iaS (m := mk) 1 rb 0 d.length (d.length + 4) false hlt
   rw [Nat.zero_add, Nat.mul_one] at hia
   obtain ⟨m5, e5, a5, k5, n5⟩ := hc.st kk.wf k [.y y.toNat] (splice_set _ (by omega)) (by rw [List.length_append, hcs]; show k + 1 ≤ _; omega)
   simp -implicitDefEqProofs only [o_h1, r_h1_12, r_h1_14, r_h1_13, f2, f11, f13, show ((k : Int) < (d.length : Int)) = True from eq_true (by omega), hia, e5, aD (k : Int) 1, ↓reduceIte, Nat.reduceEqDiff, wA, wB, wC, wD]
   refine LK_n (k' := d.length - (k + 1)) (by omega) ⟨k + 1, cs.set k (.y y.toNat), by omega, rfl, by rw [List.length_set, hcs], by simp -implicitDefEqProofs only [f0, f1, f2, f7, f9, f10, f11, show (k : Int) + 1 = ((k + 1 : Nat) : Int) from rfl, ev_tm, ↓reduceIte, Nat.reduceEqDiff, and_self], a5, kk.trans k5 fun _ _ e => e⟩
  ·simp -implicitDefEqProofs only [o_h1, r_h1_12, f11, f13, show ((k : Int) < (d.length : Int)) = False from eq_false (by omega), ↓reduceIte, Nat.reduceEqDiff, wA, wB, wC, wD]
   rw [← hR]
   have hrw : ¬ own4 rb := fun h => by rcases hown rb h with h | h <;> omega
   have K5 := K4.row kk fun b hb => by
    subst hb
    exact ⟨.inl hrb4.kd, hrw, hrbo⟩
   have hn5 := kk.next
   show GX Tryz.prog tb k_h1_28 _ _ _
   exact fkeeps_rest K5 hc hcs hrbo hrw hlo (by omega) (by omega) (by omega) h1 h2 (by simp -implicitDefEqProofs only [f0, ev_tm, ↓reduceIte, Nat.reduceEqDiff]) (by simp -implicitDefEqProofs only [f1, ev_tm, ↓reduceIte, Nat.reduceEqDiff]) (by simp -implicitDefEqProofs only [f7, ev_tm, ↓reduceIte, Nat.reduceEqDiff]) (by simp -implicitDefEqProofs only [f9, ev_tm, ↓reduceIte, Nat.reduceEqDiff]) (by simp -implicitDefEqProofs only [f10, ev_tm, ↓reduceIte, Nat.reduceEqDiff]) (by simp -implicitDefEqProofs only [f11, ev_tm, ↓reduceIte, Nat.reduceEqDiff])
end Go.Proofs.YtooooiidpaecmaaGreat
