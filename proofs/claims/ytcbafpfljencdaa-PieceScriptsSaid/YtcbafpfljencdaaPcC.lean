import Derived.Test.YtcbafpfljencdaaPcB
set_option linter.unusedSimpArgs false
namespace Go.Proofs.Ytcbafpfljencdaa
open Go Go.Am Pl

/-! ### What insert and remove make of a document -/
def insD (D : Doc) (a : Nat) (t : Bs) : Doc := if t = [] then D else { D with texts := D.texts ++ [t], pcs := (split D.pcs a).1.take (split D.pcs a).2 ++ ⟨D.texts.length, 0, t.length⟩ :: (split D.pcs a).1.drop (split D.pcs a).2, size := D.size + t.length }
def remD (D : Doc) (a n : Nat) : Doc := if n = 0 then D else { D with pcs := (split (split D.pcs a).1 (a + n)).1.take (split D.pcs a).2 ++ (split (split D.pcs a).1 (a + n)).1.drop (split (split D.pcs a).1 (a + n)).2, size := D.size - n }
def Doc.txt (D : Doc) : Bs := Pl.txt D.texts D.pcs
structure Good (D : Doc) (c : Nat) : Prop where
  va : Va D.texts D.pcs
  size : D.size = D.txt.length
  big : D.size ≤ 65536
  tl : ∀ t ∈ D.texts, t.length ≤ 65536
  nt : D.texts.length ≤ c
  nu : D.und.length ≤ c
theorem Good.of {D : Doc} {c : Nat} (h : Good D c) : ∀ p ∈ D.pcs, p.at' + p.n ≤ 200000 := by
  intro p hp
  obtain ⟨t, h1, h2⟩ := (h.va p hp).ok
  have := h.tl t (List.mem_of_getElem? h1)
  omega
theorem sum_len {ts : List Bs} : ∀ {ps : List Pc}, Va ts ps → (ps.map (·.n)).sum = (Pl.txt ts ps).length
  | [], _ => rfl
  | p :: ps, h => by
    rw [List.map_cons, List.sum_cons, sum_len h.tail, txt_cons, List.length_append, pb_len h.head]
theorem ins_txt {D : Doc} {c a : Nat} (h : Good D c) (ha : a ≤ D.size) (t : Bs) : (insD D a t).txt = D.txt.take a ++ (t ++ D.txt.drop a) := by
  unfold insD
  by_cases ht : t = []
  · rw [if_pos ht, ht]; simp
  · rw [if_neg ht]
    show Pl.txt (D.texts ++ [t]) _ = _
    have hs := split_va (a := a) h.va
    have ha : a ≤ (Pl.txt D.texts D.pcs).length := by rw [h.size] at ha; exact ha
    rw [txt_append, txt_cons, txt_more (hs.take _), txt_more (hs.drop _), split_take h.va ha, split_drop h.va ha]
    congr 2
    unfold pb
    simp
theorem ins_good {D : Doc} {c a : Nat} (h : Good D c) (ha : a ≤ D.size) {t : Bs} (ht : D.size + t.length ≤ 65536) : Good (insD D a t) (c + 1) := by
  have htx := ins_txt h ha t
  by_cases h0 : t = []
  · have e : insD D a t = D := by unfold insD; rw [if_pos h0]
    rw [e]
    exact ⟨h.va, h.size, h.big, h.tl, Nat.le_succ_of_le h.nt, Nat.le_succ_of_le h.nu⟩
  · have e : insD D a t = { D with texts := D.texts ++ [t], pcs := (split D.pcs a).1.take (split D.pcs a).2 ++ ⟨D.texts.length, 0, t.length⟩ :: (split D.pcs a).1.drop (split D.pcs a).2, size := D.size + t.length } := by unfold insD; rw [if_neg h0]
    have hpos : 0 < t.length := List.length_pos_iff.2 h0
    have hs := split_va (a := a) h.va
    refine ⟨?_, ?_, ?_, ?_, ?_, ?_⟩
    · rw [e]
      exact ((hs.take _).more t).append (.cons ⟨⟨t, by simp, by simp⟩, hpos⟩ ((hs.drop _).more t))
    · rw [htx]
      have : (insD D a t).size = D.size + t.length := by rw [e]
      rw [this, h.size]
      simp only [List.length_append, List.length_take, List.length_drop]
      have := h.size
      omega
    · rw [e]; exact ht
    · rw [e]
      intro u hu
      rcases List.mem_append.1 hu with hu | hu
      · exact h.tl u hu
      · have : u = t := by simpa using hu
        subst this; omega
    · rw [e]; have := h.nt; simp; omega
    · rw [e]; have := h.nu; show D.und.length ≤ _; omega
theorem split2_take {ts : List Bs} {ps : List Pc} (h : Va ts ps) {a b : Nat} (hab : a ≤ b) (ha : a ≤ (Pl.txt ts ps).length) : (split (split ps a).1 b).1.take (split ps a).2 = (split ps a).1.take (split ps a).2 := by
  have hs := split_va (a := a) h
  have hl := (split_le (a := a) h).1
  have hsum : (((split ps a).1.take (split ps a).2).map (·.n)).sum = a := by
    rw [sum_len (hs.take _), split_take h ha, List.length_take]; omega
  rw [split_at (split ps a).1 (split ps a).2 b hl (by rw [hsum]; exact hab) (fun p hp => (hs p hp).pos)]
  rw [List.take_append_of_le_length (by simp; omega), List.take_take, Nat.min_self]
theorem rem_txt {D : Doc} {c a n : Nat} (h : Good D c) (ha : a + n ≤ D.size) : (remD D a n).txt = D.txt.take a ++ D.txt.drop (a + n) := by
  unfold remD
  by_cases hn : n = 0
  · rw [if_pos hn, hn]; simp
  · rw [if_neg hn]
    show Pl.txt D.texts _ = _
    have ha : a + n ≤ (Pl.txt D.texts D.pcs).length := by rw [h.size] at ha; exact ha
    have hs := split_va (a := a) h.va
    rw [txt_append, split2_take h.va (by omega) (by omega), split_take h.va (by omega), split_drop hs (by rw [split_txt]; exact ha), split_txt]
    rfl
theorem rem_good {D : Doc} {c a n : Nat} (h : Good D c) (ha : a + n ≤ D.size) : Good (remD D a n) c := by
  have htx := rem_txt h ha
  by_cases h0 : n = 0
  · have e : remD D a n = D := by unfold remD; rw [if_pos h0]
    rw [e]; exact h
  · have e : remD D a n = { D with pcs := (split (split D.pcs a).1 (a + n)).1.take (split D.pcs a).2 ++ (split (split D.pcs a).1 (a + n)).1.drop (split (split D.pcs a).1 (a + n)).2, size := D.size - n } := by unfold remD; rw [if_neg h0]
    have hs := split_va (a := a + n) (split_va (a := a) h.va)
    refine ⟨?_, ?_, ?_, ?_, ?_, ?_⟩
    · rw [e]; exact (hs.take _).append (hs.drop _)
    · rw [htx]
      have : (remD D a n).size = D.size - n := by rw [e]
      rw [this, h.size]
      simp only [List.length_append, List.length_take, List.length_drop]
      have := h.size
      omega
    · rw [e]; have := h.big; show D.size - n ≤ _; omega
    · rw [e]; exact h.tl
    · rw [e]; exact h.nt
    · rw [e]; exact h.nu
theorem rem_size {D : Doc} {a n : Nat} : (remD D a n).size = D.size - n := by
  unfold remD
  by_cases hn : n = 0
  · rw [if_pos hn, hn]; rfl
  · rw [if_neg hn]
theorem ins_size {D : Doc} {a : Nat} {t : Bs} : (insD D a t).size = D.size + t.length := by
  unfold insD
  by_cases hn : t = []
  · rw [if_pos hn, hn]; rfl
  · rw [if_neg hn]
theorem ins_und {D : Doc} {a : Nat} {t : Bs} : (insD D a t).und = D.und := by
  unfold insD
  by_cases hn : t = []
  · rw [if_pos hn]
  · rw [if_neg hn]
theorem rem_und {D : Doc} {a n : Nat} : (remD D a n).und = D.und := by
  unfold remD
  by_cases hn : n = 0
  · rw [if_pos hn]
  · rw [if_neg hn]

/-! ### Blocks: the same as before, or new -/
def Fs (m : M) (o o' : Option Nat) : Prop := o' = o ∨ ∃ b, o' = some b ∧ m.next ≤ b
theorem Fs.refl (m : M) (o : Option Nat) : Fs m o o := .inl rfl
theorem Fs.trans {m m' : M} {o o' o'' : Option Nat} (h : Fs m o o') (k : Fs m' o' o'') (hm : m.next ≤ m'.next) : Fs m o o'' := by
  rcases k with rfl | ⟨b, rfl, hb⟩
  · exact h
  · exact .inr ⟨b, rfl, Nat.le_trans hm hb⟩
theorem Fs.up {m m' : M} {o o' : Option Nat} (h : Fs m' o o') (hm : m.next ≤ m'.next) : Fs m o o' := (Fs.refl m o).trans h hm
theorem Fs.ne {m : M} {o o' : Option Nat} {d : Nat} (h : Fs m o o') (hd : d < m.next) (ho : o ≠ some d) : o' ≠ some d := by
  rcases h with rfl | ⟨b, rfl, hb⟩
  · exact ho
  · intro e; cases e; omega
theorem Fs.own {m : M} {o o' : Option Nat} {b : Nat} (h : Fs m o o') (hb : o' = some b) : o = some b ∨ m.next ≤ b := by
  rcases h with rfl | ⟨b', rfl, hb'⟩
  · exact .inl hb
  · cases hb; exact .inr hb'
theorem DocAt.store {m : M} {d i : Nat} {l vs : List AV} (doc : At m d 52 true l) (hi : i + vs.length ≤ l.length) {D : Doc} {xt xp xu : AV} {bt bp bu : Option Nat} (hl : splice l i vs = [xt, xp, iv D.size, xu])
    (texts : SlAt m 9 1 xt D.texts.length (D.texts.map tv) bt) (pcs : SlAt m 60 3 xp D.pcs.length (D.pcs.flatMap pcell) bp) (und : SlAt m 31 3 xu D.und.length (D.und.flatMap ecell) bu)
    (nt : bt ≠ some d) (np : bp ≠ some d) (nu : bu ≠ some d) (tp : ∀ b, bt = some b → bp ≠ some b) (tu : ∀ b, bt = some b → bu ≠ some b) (pu : ∀ b, bp = some b → bu ≠ some b) : DocAt (m.upd d i vs) d D xt xp xu bt bp bu :=
  ⟨by rw [← hl]; exact doc.upd hi, texts.of_get fun b hb => M.get_upd_ne (fun e => nt (by rw [hb, e])), pcs.of_get fun b hb => M.get_upd_ne (fun e => np (by rw [hb, e])), und.of_get fun b hb => M.get_upd_ne (fun e => nu (by rw [hb, e])), nt, np, nu, tp, tu, pu⟩
theorem Keep.updAt {m : M} (hw : Wf m) (d i : Nat) (vs : List AV) : Keep m (m.upd d i vs) fun b => b = d := Keep.upd hw fun _ => rfl
end Go.Proofs.Ytcbafpfljencdaa
