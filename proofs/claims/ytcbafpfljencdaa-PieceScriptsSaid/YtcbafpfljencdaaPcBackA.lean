import Derived.Test.YtcbafpfljencdaaPcJ
set_option linter.unusedSimpArgs false
set_option linter.unusedVariables false
/- What the law 'skerrylaw20.PieceBack' leans on: an edit and its inverse, all undos. -/
namespace Go.Proofs.Ytcbafpfljencdaa
open Go Go.Am Pl

theorem want_some {t : Nat} {w : Bool} {fr : Fr} : want (some (pth t, w)) fr = wantV w (ev (tm t) fr) := rfl
theorem ceq_iv (i : Int) : ceq 0 (iv i) (iv i) = some true := by
  unfold ceq
  rw [toI_iv]
  simp
theorem ceq_tv (l : Bs) : ceq 1 (tv l) (tv l) = some true := by
  unfold ceq
  rw [toS_tv]
  show some (lbeq _ _) = _
  rw [lbeq_dec]
  simp
theorem b_ed (a n : Int) (t : Bs) : binS Try.prog .neq 31 (.agg [iv a, iv n, tv t]) (.agg [iv a, iv n, tv t]) = some (.b false) := by
  have h : aggEq Try.prog 31 (.agg [iv a, iv n, tv t]) (.agg [iv a, iv n, tv t]) = some true := by
    unfold aggEq
    rw [v_elAgg, v_elAgg, show (!Try.prog.eqGuardType Try.prog.depth 31) = true from by kernel_rfl, bc_true, show tsize Try.prog 31 = some 3 from by kernel_rfl, v_ob, show (tagg Try.prog 31 == some true) = true from by kernel_rfl,
      show leaves Try.prog 40 31 0 = some [(0, 0), (1, 0), (2, 1)] from by kernel_rfl]
    show ceqs [iv a, iv n, tv t] [iv a, iv n, tv t] [(0, 0), (1, 0), (2, 1)] = some true
    show (ob (ceq 0 (iv a) (iv a)) fun r => ob (ob (ceq 0 (iv n) (iv n)) fun r => ob (ob (ceq 1 (tv t) (tv t)) fun r => ob (some true) fun s => some (r && s)) fun s => some (r && s)) fun s => some (r && s)) = _
    rw [ceq_iv, ceq_iv, ceq_tv]
    rfl
  show (((eqAll Try.prog (Try.prog.underlying 31) _ _).or (aggEq Try.prog 31 _ _)).or (txtEq _ _)).map (fun c => AV.b (!c)) = _
  rw [h, Try.underlying31]
  rfl

theorem b_nn24 : binS Try.prog .eql 24 nilp nilp = some (.b true) := rfl

/-! ### An edit that falls, or one that is made -/
def errI (D : Doc) (e : Ed) (v : Int) : Prop := ∀ (m : M) (d : Nat) (xt xp xu : AV) (bt bp bu : Option Nat), Wf m → DocAt m d D xt xp xu bt bp bu → ∀ Q : AV → M → Prop, (∀ m', Keep m m' (fun _ => False) → Q (.tuple [.agg [iv 0, iv 0, tv []], iv v]) m') → WpF Try.prog tb 15 [.ptr d 0, .agg (ecell e)] m Q
def errA (D : Doc) (e : Ed) (v : Int) : Prop := ∀ (m : M) (d : Nat) (xt xp xu : AV) (bt bp bu : Option Nat), Wf m → DocAt m d D xt xp xu bt bp bu → ∀ Q : AV → M → Prop, (∀ m', Keep m m' (fun _ => False) → Q (iv v) m') → WpF Try.prog tb 11 [.ptr d 0, .agg (ecell e)] m Q
theorem both_any {D : Doc} {c : Nat} (hg : Good D c) (e : Ed) : (∃ v, v ≠ 0 ∧ errI D e v ∧ errA D e v) ∨ ∃ a n : Nat, e.at' = a ∧ e.n = n ∧ a + n ≤ D.size ∧ D.size - n + e.text.length ≤ 65536 := by
  have hb := hg.big
  rcases any_case hb e with hbad | ⟨a, n, ha, hn, han, hl | hl⟩
  · exact .inl ⟨2, by omega, fun m d xt xp xu bt bp bu hw h Q hQ => inverse_bad hw h hb hbad hQ, fun m d xt xp xu bt bp bu hw h Q hQ => apply_bad hw h hb hbad hQ⟩
  · refine .inl ⟨5, by omega, fun m d xt xp xu bt bp bu hw h Q hQ => ?_, fun m d xt xp xu bt bp bu hw h Q hQ => ?_⟩
    · unfold ecell
      rw [ha, hn]
      exact inverse_large hw h hg han hl hQ
    · unfold ecell
      rw [ha, hn]
      exact apply_large hw h hg han hl hQ
  · exact .inr ⟨a, n, ha, hn, han, hl⟩

/-! ### The way back -/
inductive Ch (t0 : Bs) : Bs → List Ed → List Bs → Prop where
  | nil : Ch t0 t0 [] []
  | snoc {cur was : Bs} {u : List Ed} {T : List Bs} {a n : Nat} {t : Bs} (h : Ch t0 was u T) (h1 : a + n ≤ cur.length) (h2 : cur.length - n + t.length ≤ 65536) (h3 : cur.take a ++ (t ++ cur.drop (a + n)) = was) : Ch t0 cur (u ++ [⟨a, n, t⟩]) (T ++ [was])
theorem Ch.len {t0 cur : Bs} {u : List Ed} {T : List Bs} (h : Ch t0 cur u T) : u.length = T.length := by
  induction h with
  | nil => rfl
  | snoc _ _ _ _ ih => simp [ih]
theorem Ch.last {t0 cur was : Bs} {u : List Ed} {T : List Bs} (h : Ch t0 cur u (T ++ [was])) : ∃ (u' : List Ed) (a n : Nat) (t : Bs), u = u' ++ [⟨a, n, t⟩] ∧ Ch t0 was u' T ∧ a + n ≤ cur.length ∧ cur.length - n + t.length ≤ 65536 ∧ cur.take a ++ (t ++ cur.drop (a + n)) = was := by
  generalize hT : T ++ [was] = T' at h
  cases h with
  | nil => simp at hT
  | @snoc _ was' u T2 a n t h h1 h2 h3 =>
    have := List.append_inj' hT rfl
    obtain ⟨rfl, h5⟩ := this
    cases h5
    exact ⟨u, a, n, t, rfl, h, h1, h2, h3⟩
theorem Ch.empty {t0 cur : Bs} {u : List Ed} (h : Ch t0 cur u []) : u = [] ∧ cur = t0 := by
  generalize hT : ([] : List Bs) = T' at h
  cases h with
  | nil => exact ⟨rfl, rfl⟩
  | snoc => simp at hT
/-- An edit, and then its inverse. -/
theorem back_txt (x t : Bs) {a n : Nat} (h : a + n ≤ x.length) : (x.take a ++ (t ++ x.drop (a + n))).take a ++ ((x.drop a).take n ++ (x.take a ++ (t ++ x.drop (a + n))).drop (a + t.length)) = x := by
  have hl : (x.take a).length = a := by rw [List.length_take]; omega
  rw [List.take_append_of_le_length (by omega), List.take_of_length_le (by omega)]
  rw [← List.append_assoc (x.take a) t, List.drop_append_of_le_length (by rw [List.length_append, hl]; omega), List.drop_of_length_le (l := x.take a ++ t) (by rw [List.length_append, hl]; omega), List.nil_append]
  rw [← List.drop_drop, List.take_append_drop, List.take_append_drop]
theorem mid_txt (x t : Bs) {a n : Nat} (h : a + n ≤ x.length) : ((x.take a ++ (t ++ x.drop (a + n))).drop a).take t.length = t := by
  have hl : (x.take a).length = a := by rw [List.length_take]; omega
  rw [List.drop_append_of_le_length (by omega), List.drop_of_length_le (by omega), List.nil_append, List.take_append_of_le_length (Nat.le_refl _), List.take_length]
theorem elem1_of' {m : M} {x : AV} {len : Nat} {cells : List AV} {o : Option Nat} (h : SlAt m 9 1 x len cells o) {k : Nat} (hk : k < len) :
    ∃ b cap, x = .slice b 0 len cap false ∧ o = some b ∧ m.rd b k = cells[k]? := by
  cases h with
  | nil => omega
  | row h hl hj hc h0 =>
    refine ⟨_, _, rfl, rfl, ?_⟩
    rw [h.rd, List.getElem?_append_left (by omega)]
end Go.Proofs.Ytcbafpfljencdaa
