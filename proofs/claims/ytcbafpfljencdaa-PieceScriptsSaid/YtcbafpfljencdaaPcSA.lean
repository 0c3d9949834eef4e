import Derived.Test.YtcbafpfljencdaaPcBackA
set_option linter.unusedSimpArgs false
set_option linter.unusedVariables false
/- What the law 'skerrylaw20.PieceScripts' leans on: how many pieces there are. -/
namespace Go.Proofs.Ytcbafpfljencdaa
open Go Go.Am Pl

theorem split_len (ps : List Pc) (a : Nat) : (split ps a).1.length ≤ ps.length + 1 := by
  induction ps generalizing a with
  | nil => simp [split]
  | cons p ps ih =>
    unfold split
    split
    · simp
    · split
      · simp
      · have := ih (a - p.n)
        simp only [List.length_cons]
        omega
theorem split_zero : ∀ ps : List Pc, split ps 0 = (ps, 0)
  | [] => rfl
  | p :: ps => by unfold split; rw [if_pos rfl]
/-- At a beginning of a piece nothing is split. -/
theorem split_edge : ∀ (xs ys : List Pc), (∀ p ∈ xs, 0 < p.n) → split (xs ++ ys) (xs.map (·.n)).sum = (xs ++ ys, xs.length)
  | [], ys, _ => split_zero ys
  | p :: xs, ys, h => by
    have hp := h p (List.mem_cons_self ..)
    have ih := split_edge xs ys fun q hq => h q (List.mem_cons_of_mem _ hq)
    rw [List.map_cons, List.sum_cons, List.cons_append]
    unfold split
    rw [if_neg (by omega), if_neg (by omega), Nat.add_sub_cancel_left, ih]
    rfl
theorem rem_count {D : Doc} {c a n : Nat} (h : Good D c) (ha : a + n ≤ D.size) (hn : n ≠ 0) : (remD D a n).pcs.length ≤ D.pcs.length + 1 ∧ (split (remD D a n).pcs a).1 = (remD D a n).pcs := by
  have hs := h.size
  have htl : (txt D.texts D.pcs).length = D.size := hs.symm
  have hv1 := split_va (a := a) h.va
  have hv2 := split_va (a := a + n) hv1
  have hl1 := (split_le (a := a) h.va).1
  have hl2 := (split_le (a := a + n) hv1).1
  have ht1 : txt D.texts (split D.pcs a).1 = txt D.texts D.pcs := split_txt
  have htk := split2_take (ts := D.texts) (a := a) (b := a + n) h.va (by omega) (by omega)
  have e : (remD D a n).pcs = (split (split D.pcs a).1 (a + n)).1.take (split D.pcs a).2 ++ (split (split D.pcs a).1 (a + n)).1.drop (split (split D.pcs a).1 (a + n)).2 := by unfold remD; rw [if_neg hn]
  have hsum1 : (((split D.pcs a).1.take (split D.pcs a).2).map (·.n)).sum = a := by
    rw [sum_len (hv1.take _), split_take h.va (by omega), List.length_take]; omega
  have hsum2 : (((split (split D.pcs a).1 (a + n)).1.take (split (split D.pcs a).1 (a + n)).2).map (·.n)).sum = a + n := by
    rw [sum_len (hv2.take _), split_take hv1 (by rw [ht1]; omega), List.length_take, ht1]; omega
  have hlen1 := split_len D.pcs a
  have hlen2 := split_len (split D.pcs a).1 (a + n)
  generalize hP1 : (split D.pcs a).2 = k1 at *
  generalize hP2 : (split (split D.pcs a).1 (a + n)).1 = ps2 at *
  generalize (split (split D.pcs a).1 (a + n)).2 = k2 at *
  rw [← htk] at hsum1
  have hk1 : (ps2.take k1).length = k1 := by
    have := congrArg List.length htk
    simp only [List.length_take] at this ⊢
    omega
  have hlt : k1 < k2 := by
    rcases Nat.lt_or_ge k1 k2 with h' | h'
    · exact h'
    · exfalso
      have e2 : ps2.take k1 = ps2.take k2 ++ (ps2.drop k2).take (k1 - k2) := by
        rw [← List.take_add, Nat.add_sub_cancel' h']
      rw [e2, List.map_append, List.sum_append, hsum2] at hsum1
      omega
  refine ⟨?_, ?_⟩
  · rw [e, List.length_append, hk1, List.length_drop]
    omega
  · rw [e]
    have := split_edge (ps2.take k1) (ps2.drop k2) fun p hp => ((hv2.take k1) p hp).pos
    rw [hsum1] at this
    rw [this]
theorem ins_count {D : Doc} {a : Nat} {t : Bs} : (insD D a t).pcs.length ≤ (split D.pcs a).1.length + 1 ∨ (insD D a t).pcs.length = D.pcs.length := by
  unfold insD
  by_cases ht : t = []
  · rw [if_pos ht]; exact .inr rfl
  · rw [if_neg ht]
    refine .inl ?_
    simp only [List.length_append, List.length_take, List.length_cons, List.length_drop]
    omega
theorem ch_count {D : Doc} {c a n : Nat} (h : Good D c) (ha : a + n ≤ D.size) (t : Bs) : (chD D a n t).pcs.length ≤ D.pcs.length + 2 := by
  unfold chD
  by_cases hn : n = 0
  · have e : remD D a n = D := by unfold remD; rw [if_pos hn]
    rw [e]
    have := split_len D.pcs a
    rcases ins_count (D := D) (a := a) (t := t) with h' | h' <;> omega
  · obtain ⟨h1, h2⟩ := rem_count h ha hn
    rcases ins_count (D := remD D a n) (a := a) (t := t) with h' | h'
    · rw [h2] at h'; omega
    · omega
theorem new_count (t : Bs) : (newD t).pcs.length ≤ 1 := by
  unfold newD
  rcases ins_count (D := doc0) (a := 0) (t := t) with h' | h'
  · exact h'
  · rw [h']; exact Nat.zero_le _
theorem pcs_nil {D : Doc} {c : Nat} (h : Good D c) : (D.pcs.length = 0) ↔ D.txt = [] := by
  constructor
  · intro h0
    have : D.pcs = [] := List.length_eq_zero_iff.1 h0
    unfold Doc.txt
    rw [this]; rfl
  · intro h0
    have := len_le h.va
    rw [show Pl.txt D.texts D.pcs = [] from h0] at this
    simpa using this
end Go.Proofs.Ytcbafpfljencdaa
