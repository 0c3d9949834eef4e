import Derived.Test.YtcbafpfljencdaaPcH
set_option linter.unusedSimpArgs false
set_option linter.unusedVariables false
namespace Go.Proofs.Ytcbafpfljencdaa
open Go Go.Am Pl

/-! ### The list that is handed in -/
inductive LsAt (m : M) : AV → List Ed → Option Nat → Prop where
  | nil : LsAt m nils [] none
  | empty {b cap : Nat} {lim : Bool} : LsAt m (.slice b 0 0 cap lim) [] none
  | row {b cap : Nat} {lim : Bool} {es : List Ed} (h : AtR m b (es.flatMap ecell)) : LsAt m (.slice b 0 es.length cap lim) es (some b)
theorem LsAt.keep {m m' : M} {x : AV} {es : List Ed} {o : Option Nat} {F : Nat → Prop} (h : LsAt m x es o) (hw : Wf m) (k : Keep m m' F) (hf : ∀ b, o = some b → ¬ F b) : LsAt m' x es o := by
  cases h with
  | nil => exact .nil
  | empty => exact .empty
  | row h => exact .row (h.keep hw k (hf _ rfl))
theorem LsAt.lt {m : M} {x : AV} {es : List Ed} {o : Option Nat} (h : LsAt m x es o) (hw : Wf m) {b : Nat} (hb : o = some b) : b < m.next := by
  cases h with
  | nil => cases hb
  | empty => cases hb
  | row h => cases hb; exact h.lt hw
theorem LsAt.len {m : M} {x : AV} {es : List Ed} {o : Option Nat} (h : LsAt m x es o) : lenK false x = some es.length := by cases h <;> rfl
theorem LsAt.elem {m : M} {x : AV} {es : List Ed} {o : Option Nat} (h : LsAt m x es o) {k : Nat} {e : Ed} (hk : es[k]? = some e) :
    ∃ b cap lim, x = .slice b 0 es.length cap lim ∧ k < es.length ∧ m.rdN b (k * 3) 3 = some (ecell e) ∧ ∀ i, i < 3 → m.rd b (k * 3 + i) = (ecell e)[i]? := by
  cases h with
  | nil => cases hk
  | empty => cases hk
  | @row b cap lim es h =>
    have hlt := (List.getElem?_eq_some_iff.1 hk).1
    have he : (es.flatMap ecell).drop (k * 3) = ecell e ++ (es.drop (k + 1)).flatMap ecell := by
      have h1 : es = es.take k ++ (e :: es.drop (k + 1)) := by
        conv => lhs; rw [← List.take_append_drop k es]
        congr 1
        rw [List.drop_eq_getElem_cons hlt]
        congr 1
        exact (List.getElem?_eq_some_iff.1 hk).2
      have hl : ((es.take k).flatMap ecell).length = k * 3 := by rw [uflat_len, List.length_take, Nat.min_eq_left (by omega)]
      conv => lhs; rw [h1, List.flatMap_append, ← hl, List.drop_left]
      rfl
    refine ⟨b, cap, lim, rfl, hlt, ?_, fun i hi => ?_⟩
    · rw [h.rdN (by rw [uflat_len]; omega), he]
      rfl
    · rw [h.rd, ← List.getElem?_drop, he, List.getElem?_append_left (by show i < 3; exact hi)]

/-! ### Any edit -/
theorem any_case {s : Nat} (_hs : s ≤ 65536) (e : Ed) : (e.at' < 0 ∨ e.n < 0 ∨ (s : Int) < e.at' ∨ (s : Int) - e.at' < e.n) ∨ ∃ a n : Nat, e.at' = a ∧ e.n = n ∧ a + n ≤ s ∧ ((65536 : Int) - ((s : Int) - (n : Int)) < (e.text.length : Int) ∨ s - n + e.text.length ≤ 65536) := by
  by_cases h : e.at' < 0 ∨ e.n < 0 ∨ (s : Int) < e.at' ∨ (s : Int) - e.at' < e.n
  · exact .inl h
  · refine .inr ⟨e.at'.toNat, e.n.toNat, by omega, by omega, by omega, ?_⟩
    omega
theorem apply_any {m : M} {d : Nat} {D : Doc} {xt xp xu : AV} {bt bp bu : Option Nat} {c : Nat} {e : Ed} (hw : Wf m) (h : DocAt m d D xt xp xu bt bp bu) (hg : Good D c) (hc : c ≤ 3900000000000) {Q : AV → M → Prop}
    (hQ1 : ∀ v m', v ≠ 0 → Keep m m' (fun _ => False) → Q (iv v) m')
    (hQ2 : ∀ a n m' xt' xp' xu' bt' bp' bu', e.at' = (a : Nat) → e.n = (n : Nat) → a + n ≤ D.size → D.size - n + e.text.length ≤ 65536 → DocAt m' d (apD D a n e.text) xt' xp' xu' bt' bp' bu' → Keep m m' (own3 d bt bp bu) → Fs m bt bt' → Fs m bp bp' → Fs m bu bu' → Q (iv 0) m') : WpF Try.prog tb 11 [.ptr d 0, .agg (ecell e)] m Q := by
  have hb := hg.big
  rcases any_case hb e with hbad | ⟨a, n, ha, hn, han, hl | hl⟩
  · exact apply_bad hw h hb hbad fun m' hk => hQ1 2 m' (by omega) hk
  · unfold ecell
    rw [ha, hn]
    exact apply_large hw h hg han hl fun m' hk => hQ1 5 m' (by omega) hk
  · unfold ecell
    rw [ha, hn]
    exact apply_ok hw h hg hc han hl fun m' xt' xp' xu' bt' bp' bu' h1 h2 h3 h4 h5 => hQ2 a n m' xt' xp' xu' bt' bp' bu' ha hn han hl h1 h2 h3 h4 h5
theorem own_next {m : M} {d : Nat} {bt bp bu bt' bp' bu' : Option Nat} (h1 : Fs m bt bt') (h2 : Fs m bp bp') (h3 : Fs m bu bu') {b : Nat} (h : own3 d bt' bp' bu' b) : own3 d bt bp bu b ∨ m.next ≤ b := by
  rcases h with h | h | h | h
  · exact .inl (.inl h)
  · exact (h1.own h).imp (fun h => .inr (.inl h)) id
  · exact (h2.own h).imp (fun h => .inr (.inr (.inl h))) id
  · exact (h3.own h).imp (fun h => .inr (.inr (.inr h))) id
theorem wakes_spec {m : M} {Q : AV → M → Prop} (h : Q (.b true) m) : WpF Try.prog tb 8 [] m Q := WpF_known (tab_get Try.func8) rfl h
theorem DocAt.lt {m : M} {d : Nat} {D : Doc} {xt xp xu : AV} {bt bp bu : Option Nat} (h : DocAt m d D xt xp xu bt bp bu) (hw : Wf m) {b : Nat} (hb : own3 d bt bp bu b) : b < m.next := by
  rcases hb with rfl | hb | hb | hb
  · exact h.doc.lt hw
  · exact h.texts.blk_lt hw hb
  · exact h.pcs.blk_lt hw hb
  · exact h.und.blk_lt hw hb
theorem DocAt.keep3 {m m' : M} {d : Nat} {D : Doc} {xt xp xu : AV} {bt bp bu : Option Nat} (h : DocAt m d D xt xp xu bt bp bu) (hw : Wf m) {F : Nat → Prop} (k : Keep m m' F) (hd : ∀ b, own3 d bt bp bu b → ¬ F b) : DocAt m' d D xt xp xu bt bp bu :=
  h.keep hw k (hd _ (.inl rfl)) (fun b hb => hd b (.inr (.inl hb))) (fun b hb => hd b (.inr (.inr (.inl hb)))) (fun b hb => hd b (.inr (.inr (.inr hb))))

end Go.Proofs.Ytcbafpfljencdaa
