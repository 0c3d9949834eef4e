/- Documents as pieces: the plain laws of splitting, inserting, removing and reading. -/
namespace Go.Proofs.Ytcbafpfljencdaa.Pl

abbrev Bs := List UInt8
structure Pc where
  of : Nat
  at' : Nat
  n : Nat
def pb (ts : List Bs) (p : Pc) : Bs := (((ts[p.of]?).getD []).drop p.at').take p.n
def txt (ts : List Bs) (ps : List Pc) : Bs := ps.flatMap (pb ts)
structure Vp (ts : List Bs) (p : Pc) : Prop where
  ok : ∃ t, ts[p.of]? = some t ∧ p.at' + p.n ≤ t.length
  pos : 0 < p.n
def Va (ts : List Bs) (ps : List Pc) : Prop := ∀ p ∈ ps, Vp ts p
def split : List Pc → Nat → List Pc × Nat
  | [], _ => ([], 0)
  | p :: ps, a => if a = 0 then (p :: ps, 0) else if a < p.n then (⟨p.of, p.at', a⟩ :: ⟨p.of, p.at' + a, p.n - a⟩ :: ps, 1) else (p :: (split ps (a - p.n)).1, (split ps (a - p.n)).2 + 1)
theorem pb_len {ts : List Bs} {p : Pc} (h : Vp ts p) : (pb ts p).length = p.n := by
  obtain ⟨t, h1, h2⟩ := h.ok
  unfold pb
  rw [h1]
  simp; omega
theorem txt_cons (ts : List Bs) (p : Pc) (ps : List Pc) : txt ts (p :: ps) = pb ts p ++ txt ts ps := rfl
theorem txt_append (ts : List Bs) (ps qs : List Pc) : txt ts (ps ++ qs) = txt ts ps ++ txt ts qs := by simp [txt]
theorem Va.tail {ts : List Bs} {p : Pc} {ps : List Pc} (h : Va ts (p :: ps)) : Va ts ps := fun q hq => h q (List.mem_cons_of_mem _ hq)
theorem Va.head {ts : List Bs} {p : Pc} {ps : List Pc} (h : Va ts (p :: ps)) : Vp ts p := h p (List.mem_cons_self ..)
theorem Va.cons {ts : List Bs} {p : Pc} {ps : List Pc} (h : Vp ts p) (k : Va ts ps) : Va ts (p :: ps) := by
  intro q hq
  rcases List.mem_cons.1 hq with rfl | hq
  · exact h
  · exact k q hq
theorem Va.append {ts : List Bs} {ps qs : List Pc} (h : Va ts ps) (k : Va ts qs) : Va ts (ps ++ qs) := by
  intro q hq
  rcases List.mem_append.1 hq with hq | hq
  · exact h q hq
  · exact k q hq
theorem Va.take {ts : List Bs} {ps : List Pc} (h : Va ts ps) (k : Nat) : Va ts (ps.take k) := fun q hq => h q (List.mem_of_mem_take hq)
theorem Va.drop {ts : List Bs} {ps : List Pc} (h : Va ts ps) (k : Nat) : Va ts (ps.drop k) := fun q hq => h q (List.mem_of_mem_drop hq)
theorem Vp.more {ts : List Bs} {p : Pc} (h : Vp ts p) (t : Bs) : Vp (ts ++ [t]) p := by
  obtain ⟨u, h1, h2⟩ := h.ok
  refine ⟨⟨u, ?_, h2⟩, h.pos⟩
  rw [List.getElem?_append_left (List.getElem?_eq_some_iff.1 h1).1]
  exact h1
theorem pb_more {ts : List Bs} {p : Pc} (h : Vp ts p) (t : Bs) : pb (ts ++ [t]) p = pb ts p := by
  obtain ⟨u, h1, h2⟩ := h.ok
  unfold pb
  rw [List.getElem?_append_left (List.getElem?_eq_some_iff.1 h1).1]
theorem txt_more {ts : List Bs} {ps : List Pc} (h : Va ts ps) (t : Bs) : txt (ts ++ [t]) ps = txt ts ps := by
  induction ps with
  | nil => rfl
  | cons p ps ih => rw [txt_cons, txt_cons, pb_more h.head, ih h.tail]
theorem Va.more {ts : List Bs} {ps : List Pc} (h : Va ts ps) (t : Bs) : Va (ts ++ [t]) ps := fun p hp => (h p hp).more t
theorem len_le {ts : List Bs} {ps : List Pc} (h : Va ts ps) : ps.length ≤ (txt ts ps).length := by
  induction ps with
  | nil => simp
  | cons p ps ih =>
    rw [txt_cons, List.length_append, pb_len h.head, List.length_cons]
    have := ih h.tail
    have := h.head.pos
    omega
theorem split_va {ts : List Bs} : ∀ {ps : List Pc} {a : Nat}, Va ts ps → Va ts (split ps a).1
  | [], _, h => h
  | p :: ps, a, h => by
    unfold split
    split
    · exact h
    · split
      · rename_i h1 h2
        obtain ⟨t, k1, k2⟩ := h.head.ok
        exact .cons ⟨⟨t, k1, by simp only []; omega⟩, by simp only []; omega⟩ (.cons ⟨⟨t, k1, by simp only []; omega⟩, by simp only []; omega⟩ h.tail)
      · exact .cons h.head (split_va h.tail)
theorem pb_cut (ts : List Bs) (p : Pc) {a : Nat} (h : a ≤ p.n) : pb ts ⟨p.of, p.at', a⟩ ++ pb ts ⟨p.of, p.at' + a, p.n - a⟩ = pb ts p := by
  unfold pb
  simp only []
  rw [← List.drop_drop, ← List.take_add]
  congr 1
  omega
theorem split_txt {ts : List Bs} : ∀ {ps : List Pc} {a : Nat}, txt ts (split ps a).1 = txt ts ps
  | [], _ => rfl
  | p :: ps, a => by
    unfold split
    split
    · rfl
    · split
      · rename_i h1 h2
        rw [txt_cons, txt_cons, txt_cons, ← List.append_assoc, pb_cut ts p (by omega)]
      · rw [txt_cons, txt_cons, split_txt]
theorem split_take {ts : List Bs} : ∀ {ps : List Pc} {a : Nat}, Va ts ps → a ≤ (txt ts ps).length → txt ts ((split ps a).1.take (split ps a).2) = (txt ts ps).take a
  | [], a, _, h => by simp [split, txt]
  | p :: ps, a, h, ha => by
    unfold split
    split
    · rename_i h1; subst h1; simp [txt]
    · have hl := pb_len h.head
      split
      · rename_i h1 h2
        rw [txt_cons, List.take_append_of_le_length (by omega)]
        show txt ts [⟨p.of, p.at', a⟩] = _
        rw [txt_cons]
        show pb ts ⟨p.of, p.at', a⟩ ++ [] = _
        rw [List.append_nil]
        unfold pb
        simp only []
        rw [List.take_take, Nat.min_eq_left (by omega)]
      · rename_i h1 h2
        rw [txt_cons, List.length_append] at ha
        rw [List.take_succ_cons, txt_cons, split_take h.tail (by omega), txt_cons, List.take_append]
        rw [List.take_of_length_le (show (pb ts p).length ≤ a by omega), hl]
theorem split_le {ts : List Bs} : ∀ {ps : List Pc} {a : Nat}, Va ts ps → (split ps a).2 ≤ (split ps a).1.length ∧ (split ps a).1.length ≤ ps.length + 1
  | [], _, _ => ⟨Nat.le_refl _, by simp [split]⟩
  | p :: ps, a, h => by
    unfold split
    split
    · exact ⟨Nat.zero_le _, by simp⟩
    · split
      · exact ⟨by simp, by simp⟩
      · have := split_le (a := a - p.n) h.tail
        simp only [List.length_cons]
        omega
theorem split_drop {ts : List Bs} {ps : List Pc} {a : Nat} (h : Va ts ps) (ha : a ≤ (txt ts ps).length) : txt ts ((split ps a).1.drop (split ps a).2) = (txt ts ps).drop a := by
  have h1 := split_take h ha
  have h2 : txt ts ((split ps a).1.take (split ps a).2) ++ txt ts ((split ps a).1.drop (split ps a).2) = txt ts ps := by
    rw [← txt_append, List.take_append_drop, split_txt]
  rw [h1] at h2
  have h3 : (txt ts ps).take a ++ (txt ts ps).drop a = txt ts ps := List.take_append_drop ..
  exact List.append_cancel_left (h2.trans h3.symm)
/-- The same split, begun behind some pieces. -/
theorem split_at (ps : List Pc) : ∀ (k : Nat) (a : Nat), k ≤ ps.length → ((ps.take k).map (·.n)).sum ≤ a → (∀ p ∈ ps, 0 < p.n) →
    split ps a = (ps.take k ++ (split (ps.drop k) (a - ((ps.take k).map (·.n)).sum)).1, (split (ps.drop k) (a - ((ps.take k).map (·.n)).sum)).2 + k) := by
  induction ps with
  | nil => intro k a hk _ _; have : k = 0 := by simpa using hk
           subst this; simp [split]
  | cons p ps ih =>
    intro k a hk ha hp
    cases k with
    | zero => simp
    | succ k =>
      have hp0 := hp p (List.mem_cons_self ..)
      simp only [List.take_succ_cons, List.map_cons, List.sum_cons] at ha ⊢
      have h1 : ¬ a = 0 := by omega
      have h2 : ¬ a < p.n := by omega
      have := ih k (a - p.n) (by simpa using hk) (by omega) (fun q hq => hp q (List.mem_cons_of_mem _ hq))
      conv => lhs; unfold split
      rw [if_neg h1, if_neg h2, this]
      simp only [List.drop_succ_cons, List.cons_append, Prod.mk.injEq, List.cons.injEq, true_and]
      rw [show a - p.n - (List.map (fun x => x.n) (List.take k ps)).sum = a - (p.n + (List.map (fun x => x.n) (List.take k ps)).sum) by omega]
      exact ⟨rfl, by omega⟩
end Go.Proofs.Ytcbafpfljencdaa.Pl
