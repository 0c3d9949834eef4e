import Derived.Test.YtmkbjcjlnidjiaaCaC
set_option linter.unusedSimpArgs false
set_option linter.unusedVariables false
/- A cache in memory: its lines, what is held, who goes. -/
namespace Go.Proofs.Ytmkbjcjlnidjiaa
open Go Go.Am

/-! ### Picks -/
inductive IsAt (m : M) : AV → List Int → Option Nat → Prop where
  | nil : IsAt m nils [] none
  | row {b off cap : Nat} {zs : List Int} {cells : List AV} {e : TypeId} {xt : Bool} (h : At m b e xt cells) (hl : off + zs.length ≤ cells.length) (hc : (cells.drop off).take zs.length = zs.map iv) (hcap : zs.length ≤ cap) : IsAt m (.slice b off zs.length cap false) zs (some b)
  | fin {b off adv : Nat} {cells : List AV} {e : TypeId} {xt : Bool} (h : At m b e xt cells) : IsAt m (.sliceE b off adv) [] (some b)
theorem IsAt.keep {m m' : M} {x : AV} {zs : List Int} {o : Option Nat} {F : Nat → Prop} (h : IsAt m x zs o) (hw : Wf m) (k : Keep m m' F) (hf : ∀ b, o = some b → ¬ F b) : IsAt m' x zs o := by
  cases h with
  | nil => exact .nil
  | row h hl hc hcap => exact .row (h.keep hw k (hf _ rfl)) hl hc hcap
  | fin h => exact .fin (h.keep hw k (hf _ rfl))
theorem IsAt.lt {m : M} {x : AV} {zs : List Int} {o : Option Nat} (h : IsAt m x zs o) (hw : Wf m) {b : Nat} (hb : o = some b) : b < m.next := by
  cases h with
  | nil => cases hb
  | row h => cases hb; exact h.lt hw
  | fin h => cases hb; exact h.lt hw
theorem IsAt.len {m : M} {x : AV} {zs : List Int} {o : Option Nat} (h : IsAt m x zs o) : lenK false x = some zs.length := by cases h <;> rfl
theorem IsAt.cells1 {m : M} {x : AV} {zs : List Int} {o : Option Nat} (h : IsAt m x zs o) : cellsO x = some [x] := by cases h <;> rfl
theorem IsAt.aq {m : M} {x : AV} {zs : List Int} {o : Option Nat} (h : IsAt m x zs o) : aveq 40 x x = true := by
  cases h with
  | nil => rfl
  | row => simp [aveq, Nat.beq_refl]
  | fin => simp [aveq, Nat.beq_refl]
theorem IsAt.tail {m : M} {x : AV} {z : Int} {zs : List Int} {o : Option Nat} (h : IsAt m x (z :: zs) o) :
    ∃ b off cap, x = .slice b off (zs.length + 1) cap false ∧ m.rd b (off + 0) = some (iv z) ∧ ∃ y, (∀ m', m'.get b = m.get b → rSl 1 false (.cst x) (some (.cst (iv 1))) none none .leaf m' = some (y, m')) ∧ IsAt m y zs o := by
  generalize hzs : z :: zs = zz at h
  cases h with
  | nil => cases hzs
  | fin h => cases hzs
  | @row b off cap _ cells e xt h hl hc hcap =>
    subst hzs
    simp only [List.length_cons] at hl hc hcap ⊢
    have hd : cells.drop off = iv z :: cells.drop (off + 1) ∧ (cells.drop (off + 1)).take zs.length = zs.map iv := by
      have hlt : off < cells.length := by omega
      rw [List.drop_eq_getElem_cons hlt] at hc
      rw [List.drop_eq_getElem_cons hlt]
      have hc' : cells[off] :: (cells.drop (off + 1)).take zs.length = iv z :: zs.map iv := hc
      rw [List.cons.injEq] at hc'
      exact ⟨by rw [hc'.1], hc'.2⟩
    refine ⟨b, off, cap, rfl, ?_, ?_⟩
    · rw [Nat.add_zero, h.rd]
      have := congrArg (·[0]?) hd.1
      simpa using this
    · obtain ⟨c, c1, c2, c3, c4, c5, c6, c7⟩ := h.row
      have e0 : ∀ m', rSl 1 false (.cst (.slice b off (zs.length + 1) cap false)) (some (.cst (iv 1))) none none .leaf m' = bc (Nat.beq cap 1 && !Nat.beq 1 0) (slEnd m' b off 1 false) (some (.slice b (off + 1) zs.length (cap - 1) false, m')) := by
        intro m'
        rw [rSl_eq, evo_none, bnd_none, ob_some', evo_some, ev_cst, show iv 1 = iv ((1 : Nat) : Int) from rfl, bnd_iv (show 1 ≤ zs.length + 1 by omega), ob_some', nble, decide_eq_true hcap]
        simp only [bc_true, fc_eq, Bool.or_self]
        rfl
      by_cases h1 : cap = 1
      · have hz0 : zs = [] := List.length_eq_zero_iff.1 (by omega)
        subst hz0
        subst h1
        cases hx : c.exact with
        | true =>
          refine ⟨.slice b off 0 0 false, fun m' hg => ?_, .row (zs := []) h (by show off + 0 ≤ _; omega) (by show List.take 0 _ = _; rw [List.take_zero]; rfl) (Nat.le_refl _)⟩
          rw [e0]
          show slEnd m' b off 1 false = _
          unfold slEnd
          rw [M.cel_some.2 (hg.trans c1)]
          show bc c.mv.isNone (bc c.exact _ _) none = _
          rw [c4, hx]; rfl
        | false =>
          refine ⟨.sliceE b off 1, fun m' hg => ?_, .fin h⟩
          rw [e0]
          show slEnd m' b off 1 false = _
          unfold slEnd
          rw [M.cel_some.2 (hg.trans c1)]
          show bc c.mv.isNone (bc c.exact _ _) none = _
          rw [c4, hx]; rfl
      · refine ⟨.slice b (off + 1) zs.length (cap - 1) false, fun m' hg => ?_, .row h (by omega) hd.2 (by omega)⟩
        rw [e0, nbeq, decide_eq_false h1]; rfl

/-! ### The cache -/
structure Ln where
  b : Nat
  p : Nat
  dv : AV
  dl : Bs
  db : Nat
  dirty : Bool
  pins : Nat
def al (ls : List Ln) : Al := ls.map fun l => (l.b, .ptr l.p 0)
def fl (ls : List Ln) (k : Nat) : Option Ln := ls.find? fun l => decide (l.b = k)
theorem lkp_al (k : Nat) : ∀ ls : List Ln, lkp (al ls) k = (fl ls k).map fun l => .ptr l.p 0
  | [] => rfl
  | l :: ls => by
    show (if l.b = k then some (AV.ptr l.p 0) else lkp (al ls) k) = _
    unfold fl
    rw [List.find?_cons]
    by_cases h : l.b = k
    · rw [if_pos h, decide_eq_true h]; rfl
    · rw [if_neg h, decide_eq_false h, lkp_al k ls]; rfl
theorem fl_some {ls : List Ln} {k : Nat} {l : Ln} (h : fl ls k = some l) : l ∈ ls ∧ l.b = k := by
  unfold fl at h
  exact ⟨List.mem_of_find?_eq_some h, by simpa using List.find?_some h⟩
theorem fl_mem {ls : List Ln} (hn : (ls.map (·.b)).Nodup) {l : Ln} (h : l ∈ ls) : fl ls l.b = some l := by
  induction ls with
  | nil => cases h
  | cons x ls ih =>
    rw [List.map_cons, List.nodup_cons] at hn
    unfold fl
    rw [List.find?_cons]
    rcases List.mem_cons.1 h with rfl | h
    · simp
    · have : x.b ≠ l.b := fun e => hn.1 (by rw [e]; exact List.mem_map_of_mem h)
      rw [decide_eq_false this]
      exact ih hn.2 h
theorem fl_none {ls : List Ln} {k : Nat} (h : fl ls k = none) : ∀ l ∈ ls, l.b ≠ k := by
  unfold fl at h
  intro l hl e
  have := List.find?_eq_none.1 h l hl
  simp [e] at this
theorem put_al {ls : List Ln} {k p : Nat} (h : fl ls k = none) {l : Ln} (hb : l.b = k) (hp : l.p = p) : putL (al ls) k (.ptr p 0) = al (ls ++ [l]) := by
  have hk := fl_none h
  clear h
  subst hb hp
  induction ls with
  | nil => rfl
  | cons x ls ih =>
    show (if x.b = l.b then _ else (x.b, AV.ptr x.p 0) :: putL (al ls) l.b (.ptr l.p 0)) = _
    rw [if_neg (hk x (List.mem_cons_self ..)), ih fun y hy => hk y (List.mem_cons_of_mem _ hy)]
    rfl
def rm (ls : List Ln) (k : Nat) : List Ln := ls.filter fun l => !decide (l.b = k)
theorem del_al : ∀ {ls : List Ln} {k : Nat}, (ls.map (·.b)).Nodup → delL (al ls) k = al (rm ls k)
  | [], k, _ => rfl
  | x :: ls, k, hn => by
    rw [List.map_cons, List.nodup_cons] at hn
    show (if x.b = k then al ls else (x.b, AV.ptr x.p 0) :: delL (al ls) k) = _
    unfold rm
    rw [List.filter_cons]
    by_cases h : x.b = k
    · rw [if_pos h, decide_eq_true h]
      have : ls.filter (fun l => !decide (l.b = k)) = ls := List.filter_eq_self.2 fun y hy => by
        have : y.b ≠ k := fun e => hn.1 (by rw [h, ← e]; exact List.mem_map_of_mem hy)
        simp [this]
      simp [this]
    · rw [if_neg h, decide_eq_false h, del_al hn.2]
      rfl
theorem len_al (ls : List Ln) : (al ls).length = ls.length := List.length_map ..
structure CaAt (m : M) (c d cap mb : Nat) (pv : AV) (zs : List Int) (po : Option Nat) (ls : List Ln) : Prop where
  ca : At m c ty_cache_Cache true [.ptr d 0, iv cap, pv, .map mb]
  mp : MpAt m mb (al ls)
  ln : ∀ l ∈ ls, At m l.p ty_cache_line true [l.dv, .b l.dirty, iv l.pins]
  da : ∀ l ∈ ls, BsAt m l.dv l.dl l.db
  pk : IsAt m pv zs po
  nb : (ls.map (·.b)).Nodup
  np : (ls.map (·.p)).Nodup
  cp : ∀ l ∈ ls, l.p ≠ c
  dw : ∀ l ∈ ls, l.db ≠ c ∧ ∀ l' ∈ ls, l'.p ≠ l.db
  pw : ∀ b, po = some b → b ≠ c ∧ ∀ l ∈ ls, l.p ≠ b
def cOwn (c mb : Nat) (po : Option Nat) (ls : List Ln) (b : Nat) : Prop := b = c ∨ b = mb ∨ po = some b ∨ ∃ l ∈ ls, l.p = b ∨ l.db = b
theorem CaAt.keep {m m' : M} {c d cap mb : Nat} {pv : AV} {zs : List Int} {po : Option Nat} {ls : List Ln} (h : CaAt m c d cap mb pv zs po ls) (hw : Wf m) {F : Nat → Prop} (k : Keep m m' F) (hf : ∀ b, cOwn c mb po ls b → ¬ F b) : CaAt m' c d cap mb pv zs po ls :=
  ⟨h.ca.keep hw k (hf _ (.inl rfl)), h.mp.keep hw k (hf _ (.inr (.inl rfl))), fun l hl => (h.ln l hl).keep hw k (hf _ (.inr (.inr (.inr ⟨l, hl, .inl rfl⟩)))), fun l hl => (h.da l hl).keep hw k (hf _ (.inr (.inr (.inr ⟨l, hl, .inr rfl⟩)))), h.pk.keep hw k fun b hb => hf _ (.inr (.inr (.inl hb))), h.nb, h.np, h.cp, h.dw, h.pw⟩
theorem CaAt.keep0 {m m' : M} {c d cap mb : Nat} {pv : AV} {zs : List Int} {po : Option Nat} {ls : List Ln} (h : CaAt m c d cap mb pv zs po ls) (hw : Wf m) (k : Keep m m' fun _ => False) : CaAt m' c d cap mb pv zs po ls := h.keep hw k fun _ _ h => h
theorem CaAt.lt {m : M} {c d cap mb : Nat} {pv : AV} {zs : List Int} {po : Option Nat} {ls : List Ln} (h : CaAt m c d cap mb pv zs po ls) (hw : Wf m) {b : Nat} (hb : cOwn c mb po ls b) : b < m.next := by
  rcases hb with rfl | rfl | hb | ⟨l, hl, rfl | rfl⟩
  · exact h.ca.lt hw
  · exact h.mp.lt hw
  · exact h.pk.lt hw hb
  · exact (h.ln l hl).lt hw
  · exact (h.da l hl).lt hw
/-- What is a row is no map. -/
theorem ne_map {m : M} {b b' : Nat} {e : TypeId} {xt : Bool} {l : List AV} {L : Al} (h : At m b e xt l) (h' : MpAt m b' L) : b ≠ b' := by
  intro e
  subst e
  obtain ⟨c, h1, _⟩ := h.row
  obtain ⟨st, h2⟩ := h'
  rw [h1] at h2
  cases h2
theorem ne_mapB {m : M} {b b' : Nat} {s : AV} {l : Bs} {L : Al} (h : BsAt m s l b) (h' : MpAt m b' L) : b ≠ b' := by
  intro e
  subst e
  cases h with
  | row h _ _ =>
    obtain ⟨c, h1, _⟩ := h.row
    obtain ⟨st, h2⟩ := h'
    rw [h1] at h2
    cases h2
theorem ne_mapI {m : M} {b b' : Nat} {x : AV} {zs : List Int} {L : Al} (h : IsAt m x zs (some b)) (h' : MpAt m b' L) : b ≠ b' := by
  cases h with
  | row h => exact ne_map h h'
  | fin h => exact ne_map h h'
end Go.Proofs.Ytmkbjcjlnidjiaa
