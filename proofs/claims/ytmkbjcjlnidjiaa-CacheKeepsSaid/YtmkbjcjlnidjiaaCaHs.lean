import Derived.Test.YtmkbjcjlnidjiaaCaC
set_option linter.unusedSimpArgs false
set_option linter.unusedVariables false
/- A cache in memory: its lines, what is held, who goes. -/
namespace Go.Proofs.Ytmkbjcjlnidjiaa
open Go Go.Am

/-! ### Picks -/
inductive IsAt (m : M) : AV → List Int → Option Nat → Prop where
  | nil : IsAt m nils [] none
  | row {b off cap : Nat} {zs : List Int} {cells : List AV} {e : TypeId} {xt : Bool} (h : At m b e xt cells) (hl : off + zs.length ≤ cells.length) (hc : (cells.drop off).take zs.length = zs.map iv) (hcap : zs.length ≤ cap) : IsAt m (.slice b off zs.length cap false) zs (some b)
  | fin {b off adv : Nat} {cells : List AV} {e : TypeId} {xt : Bool} (h : At m b e xt cells) : IsAt m (.sliceE b off adv) [] (some b)
theorem IsAt.keep {m m' : M} {x : AV} {zs : List Int} {o : Option Nat} {F : Nat → Prop} (h : IsAt m x zs o) (hw : Wf m) (k : Keep m m' F) (hf : ∀ b, o = some b → ¬ F b) : IsAt m' x zs o := by
  cases h with
  | nil => exact .nil
  | row h hl hc hcap => exact .row (h.keep hw k (hf _ rfl)) hl hc hcap
  | fin h => exact .fin (h.keep hw k (hf _ rfl))
theorem IsAt.lt {m : M} {x : AV} {zs : List Int} {o : Option Nat} (h : IsAt m x zs o) (hw : Wf m) {b : Nat} (hb : o = some b) : b < m.next := by
  cases h with
  | nil => cases hb
  | row h => cases hb; exact h.lt hw
  | fin h => cases hb; exact h.lt hw
theorem IsAt.len {m : M} {x : AV} {zs : List Int} {o : Option Nat} (h : IsAt m x zs o) : lenK false x = some zs.length := by cases h <;> rfl
theorem IsAt.cells1 {m : M} {x : AV} {zs : List Int} {o : Option Nat} (h : IsAt m x zs o) : cellsO x = some [x] := by cases h <;> rfl
theorem IsAt.aq {m : M} {x : AV} {zs : List Int} {o : Option Nat} (h : IsAt m x zs o) : aveq 40 x x = true := by
  cases h with
  | nil => rfl
  | row => simp [aveq, Nat.beq_refl]
  | fin => simp [aveq, Nat.beq_refl]
theorem IsAt.tail {m : M} {x : AV} {z : Int} {zs : List Int} {o : Option Nat} (h : IsAt m x (z :: zs) o) :
    ∃ b off cap, x = .slice b off (zs.length + 1) cap false ∧ m.rd b (off + 0) = some (iv z) ∧ ∃ y, (∀ m', m'.get b = m.get b → rSl 1 false (.cst x) (some (.cst (iv 1))) none none .leaf m' = some (y, m')) ∧ IsAt m y zs o := by
  generalize hzs : z :: zs = zz at h
  cases h with
  | nil => cases hzs
  | fin h => cases hzs
  | @row b off cap _ cells e xt h hl hc hcap =>
    subst hzs
    simp only [List.length_cons] at hl hc hcap ⊢
    have hd : cells.drop off = iv z :: cells.drop (off + 1) ∧ (cells.drop (off + 1)).take zs.length = zs.map iv := by
      have hlt : off < cells.length := by omega
      rw [List.drop_eq_getElem_cons hlt] at hc
      rw [List.drop_eq_getElem_cons hlt]
      have hc' : cells[off] :: (cells.drop (off + 1)).take zs.length = iv z :: zs.map iv := hc
      rw [List.cons.injEq] at hc'
      exact ⟨by rw [hc'.1], hc'.2⟩
    refine ⟨b, off, cap, rfl, ?_, ?_⟩
    · rw [Nat.add_zero, h.rd]
      have := congrArg (·[0]?) hd.1
      simpa using this
    · obtain ⟨c, c1, c2, c3, c4, c5, c6, c7⟩ := h.row
      have e0 : ∀ m', rSl 1 false (.cst (.slice b off (zs.length + 1) cap false)) (some (.cst (iv 1))) none none .leaf m' = bc (Nat.beq cap 1 && !Nat.beq 1 0) (slEnd m' b off 1 false) (some (.slice b (off + 1) zs.length (cap - 1) false, m')) := by
        intro m'
        rw [rSl_eq, evo_none, bnd_none, ob_some', evo_some, ev_cst, show iv 1 = iv ((1 : Nat) : Int) from rfl, bnd_iv (show 1 ≤ zs.length + 1 by omega), ob_some', nble, decide_eq_true hcap]
        simp only [bc_true, fc_eq, Bool.or_self]
        rfl
      by_cases h1 : cap = 1
      · have hz0 : zs = [] := List.length_eq_zero_iff.1 (by omega)
        subst hz0
        subst h1
        cases hx : c.exact with
        | true =>
          refine ⟨.slice b off 0 0 false, fun m' hg => ?_, .row (zs := []) h (by show off + 0 ≤ _; omega) (by show List.take 0 _ = _; rw [List.take_zero]; rfl) (Nat.le_refl _)⟩
          rw [e0]
          show slEnd m' b off 1 false = _
          unfold slEnd
          rw [M.cel_some.2 (hg.trans c1)]
          show bc c.mv.isNone (bc c.exact _ _) none = _
          rw [c4, hx]; rfl
        | false =>
          refine ⟨.sliceE b off 1, fun m' hg => ?_, .fin h⟩
          rw [e0]
          show slEnd m' b off 1 false = _
          unfold slEnd
          rw [M.cel_some.2 (hg.trans c1)]
          show bc c.mv.isNone (bc c.exact _ _) none = _
          rw [c4, hx]; rfl
      · refine ⟨.slice b (off + 1) zs.length (cap - 1) false, fun m' hg => ?_, .row h (by omega) hd.2 (by omega)⟩
        rw [e0, nbeq, decide_eq_false h1]; rfl

/-! ### The cache -/
structure Ln where
  b : Nat
  p : Nat
  dv : AV
  dl : Bs
  db : Nat
  dirty : Bool
  pins : Nat
def al (ls : List Ln) : Al := ls.map fun l => (l.b, .ptr l.p 0)
def fl (ls : List Ln) (k : Nat) : Option Ln := ls.find? fun l => decide (l.b = k)
theorem lkp_al (k : Nat) : ∀ ls : List Ln, lkp (al ls) k = (fl ls k).map fun l => .ptr l.p 0
  | [] => rfl
  | l :: ls => by
    show (if l.b = k then some (AV.ptr l.p 0) else lkp (al ls) k) = _
    unfold fl
    rw [List.find?_cons]
    by_cases h : l.b = k
    · rw [if_pos h, decide_eq_true h]; rfl
    · rw [if_neg h, decide_eq_false h, lkp_al k ls]; rfl
theorem fl_some {ls : List Ln} {k : Nat} {l : Ln} (h : fl ls k = some l) : l ∈ ls ∧ l.b = k := by
  unfold fl at h
  exact ⟨List.mem_of_find?_eq_some h, by simpa using List.find?_some h⟩
theorem fl_mem {ls : List Ln} (hn : (ls.map (·.b)).Nodup) {l : Ln} (h : l ∈ ls) : fl ls l.b = some l := by
  induction ls with
  | nil => cases h
  | cons x ls ih =>
    rw [List.map_cons, List.nodup_cons] at hn
    unfold fl
    rw [List.find?_cons]
    rcases List.mem_cons.1 h with rfl | h
    · simp
    · have : x.b ≠ l.b := fun e => hn.1 (by rw [e]; exact List.mem_map_of_mem h)
      rw [decide_eq_false this]
      exact ih hn.2 h
theorem fl_none {ls : List Ln} {k : Nat} (h : fl ls k = none) : ∀ l ∈ ls, l.b ≠ k := by
  unfold fl at h
  intro l hl e
  have := List.find?_eq_none.1 h l hl
  simp [e] at this
theorem put_al {ls : List Ln} {k p : Nat} (h : fl ls k = none) {l : Ln} (hb : l.b = k) (hp : l.p = p) : putL (al ls) k (.ptr p 0) = al (ls ++ [l]) := by
  have hk := fl_none h
  clear h
  subst hb hp
  induction ls with
  | nil => rfl
  | cons x ls ih =>
    show (if x.b = l.b then _ else (x.b, AV.ptr x.p 0) :: putL (al ls) l.b (.ptr l.p 0)) = _
    rw [if_neg (hk x (List.mem_cons_self ..)), ih fun y hy => hk y (List.mem_cons_of_mem _ hy)]
    rfl
def rm (ls : List Ln) (k : Nat) : List Ln := ls.filter fun l => !decide (l.b = k)
theorem del_al : ∀ {ls : List Ln} {k : Nat}, (ls.map (·.b)).Nodup → delL (al ls) k = al (rm ls k)
  | [], k, _ => rfl
  | x :: ls, k, hn => by
    rw [List.map_cons, List.nodup_cons] at hn
    show (if x.b = k then al ls else (x.b, AV.ptr x.p 0) :: delL (al ls) k) = _
    unfold rm
    rw [List.filter_cons]
    by_cases h : x.b = k
    · rw [if_pos h, decide_eq_true h]
      have : ls.filter (fun l => !decide (l.b = k)) = ls := List.filter_eq_self.2 fun y hy => by
        have : y.b ≠ k := fun e => hn.1 (by rw [h, ← e]; exact List.mem_map_of_mem hy)
        simp [this]
      simp [this]
    · rw [if_neg h, decide_eq_false h, del_al hn.2]
      rfl
theorem len_al (ls : List Ln) : (al ls).length = ls.length := List.length_map ..
structure CaAt (m : M) (c d cap mb : Nat) (pv : AV) (zs : List Int) (po : Option Nat) (ls : List Ln) : Prop where
  ca : At m c ty_cache_Cache true [.ptr d 0, iv cap, pv, .map mb]
  mp : MpAt m mb (al ls)
  ln : ∀ l ∈ ls, At m l.p ty_cache_line true [l.dv, .b l.dirty, iv l.pins]
  da : ∀ l ∈ ls, BsAt m l.dv l.dl l.db
  pk : IsAt m pv zs po
  nb : (ls.map (·.b)).Nodup
  np : (ls.map (·.p)).Nodup
  cp : ∀ l ∈ ls, l.p ≠ c
  dw : ∀ l ∈ ls, l.db ≠ c ∧ ∀ l' ∈ ls, l'.p ≠ l.db
  pw : ∀ b, po = some b → b ≠ c ∧ ∀ l ∈ ls, l.p ≠ b
def cOwn (c mb : Nat) (po : Option Nat) (ls : List Ln) (b : Nat) : Prop := b = c ∨ b = mb ∨ po = some b ∨ ∃ l ∈ ls, l.p = b ∨ l.db = b
theorem CaAt.keep {m m' : M} {c d cap mb : Nat} {pv : AV} {zs : List Int} {po : Option Nat} {ls : List Ln} (h : CaAt m c d cap mb pv zs po ls) (hw : Wf m) {F : Nat → Prop} (k : Keep m m' F) (hf : ∀ b, cOwn c mb po ls b → ¬ F b) : CaAt m' c d cap mb pv zs po ls :=
  ⟨h.ca.keep hw k (hf _ (.inl rfl)), h.mp.keep hw k (hf _ (.inr (.inl rfl))), fun l hl => (h.ln l hl).keep hw k (hf _ (.inr (.inr (.inr ⟨l, hl, .inl rfl⟩)))), fun l hl => (h.da l hl).keep hw k (hf _ (.inr (.inr (.inr ⟨l, hl, .inr rfl⟩)))), h.pk.keep hw k fun b hb => hf _ (.inr (.inr (.inl hb))), h.nb, h.np, h.cp, h.dw, h.pw⟩
theorem CaAt.keep0 {m m' : M} {c d cap mb : Nat} {pv : AV} {zs : List Int} {po : Option Nat} {ls : List Ln} (h : CaAt m c d cap mb pv zs po ls) (hw : Wf m) (k : Keep m m' fun _ => False) : CaAt m' c d cap mb pv zs po ls := h.keep hw k fun _ _ h => h
theorem CaAt.lt {m : M} {c d cap mb : Nat} {pv : AV} {zs : List Int} {po : Option Nat} {ls : List Ln} (h : CaAt m c d cap mb pv zs po ls) (hw : Wf m) {b : Nat} (hb : cOwn c mb po ls b) : b < m.next := by
  rcases hb with rfl | rfl | hb | ⟨l, hl, rfl | rfl⟩
  · exact h.ca.lt hw
  · exact h.mp.lt hw
  · exact h.pk.lt hw hb
  · exact (h.ln l hl).lt hw
  · exact (h.da l hl).lt hw
/-- What is a row is no map. -/
theorem ne_map {m : M} {b b' : Nat} {e : TypeId} {xt : Bool} {l : List AV} {L : Al} (h : At m b e xt l) (h' : MpAt m b' L) : b ≠ b' := by
  intro e
  subst e
  obtain ⟨c, h1, _⟩ := h.row
  obtain ⟨st, h2⟩ := h'
  rw [h1] at h2
  cases h2
theorem ne_mapB {m : M} {b b' : Nat} {s : AV} {l : Bs} {L : Al} (h : BsAt m s l b) (h' : MpAt m b' L) : b ≠ b' := by
  intro e
  subst e
  cases h with
  | row h _ _ =>
    obtain ⟨c, h1, _⟩ := h.row
    obtain ⟨st, h2⟩ := h'
    rw [h1] at h2
    cases h2
theorem ne_mapI {m : M} {b b' : Nat} {x : AV} {zs : List Int} {L : Al} (h : IsAt m x zs (some b)) (h' : MpAt m b' L) : b ≠ b' := by
  cases h with
  | row h => exact ne_map h h'
  | fin h => exact ne_map h h'
end Go.Proofs.Ytmkbjcjlnidjiaa
set_option linter.unusedVariables false
set_option linter.unusedVariables false
/- The cache: what is held, who goes. -/
namespace Go.Proofs.Ytmkbjcjlnidjiaa
open Go Go.Am
section
variable {m : M} {c d cb cap mb : Nat} {pv : AV} {zs : List Int} {po : Option Nat} {ls : List Ln} {L : List Cw} {fused dead : Bool} {fuse writes : Int}
theorem known_spec (h : CaAt m c d cap mb pv zs po ls) (hd : DevAt m d cb L fused dead fuse writes) {k : Nat} (hk : k < L.length) : WpF Try.prog tb fn_Ca_known [.ptr c 0, iv k] m fun v m' => v = iv 0 ∧ m' = m := by
  refine WpF_intro at_Ca_known rfl rfl ?_
  unfold c_Ca_known
  refine C_sr fun Q' hQ => ?_
  simp only [r_Ca_known_0, WpO_op, WpO_nil, WpON_some, o_mv, ev_cst, putD_some, fill_cons, fill_nil, Nat.reduceAdd, Nat.zero_add]
  refine hQ _ _ (WpC_seq (WpC_block (C_sr fun Q' hQ => ?_)))
  simp only [r_Ca_known_1, b_np28, WpO_op, WpO_nil, WpON_some, o_mv, o_eqp, v_rto, v_eqp_n, ev_tm, ev_cst, putD_some, reduceIte, Nat.reduceEqDiff]
  refine hQ _ _ (WpC_cond (t := false) ?_ (C_sr fun Q' hQ => ?_))
  · simp only [ev_tm, reduceIte, Nat.reduceEqDiff]
  simp only [r_Ca_known_3, h.ca.rd, show ((k : Int) < 0) = False from eq_false (by omega), WpO_op, WpO_opG, WpO_callW, WpOCG_true, WpON_some, WpOG_true, o_mv, o_load, o_nil, o_lt, o_fa, v_elPtr, v_rto, v_nil, v_fa, b_lt, ev_tm, ev_cst, evs_cons, evs_nil, putD_some, want_b, bc_false, reduceIte, Nat.reduceEqDiff, Nat.zero_add, decide_false, Bool.not_false, List.getElem?_cons_zero]
  refine WpOC.to ((blocks_spec hd).mono ?_)
  rintro v m' ⟨rfl, rfl⟩
  simp only [show ((L.length : Int) ≤ (k : Int)) = False from eq_false (by omega), WpO_op, WpO_opG, WpO_nil, WpON_some, WpOG_true, o_mv, o_pick, o_ge, v_elB, v_rto, b_ge, ev_tm, ev_cst, putD_some, want_b, bc_false, reduceIte, Nat.reduceEqDiff, decide_false, Bool.not_false]
  refine hQ _ _ (WpC_cond (t := false) ?_ (WpC_skip ?_))
  · simp only [ev_tm, reduceIte, Nat.reduceEqDiff]
  clear hQ
  refine C_sr fun Q' hQ => ?_
  simp only [r_Ca_known_5, WpO_op, WpO_nil, WpON_some, o_mv, ev_cst, putD_some]
  refine hQ _ _ (WpC_ret ⟨.inr rfl, _, ares1, ?_⟩)
  simp only [and_self, ev_tm, one_1, reduceIte, Nat.reduceEqDiff]
theorem heldl_spec (h : CaAt m c d cap mb pv zs po ls) (hd : DevAt m d cb L fused dead fuse writes) {k : Nat} (hk : k < L.length) : WpF Try.prog tb fn_Ca_held [.ptr c 0, iv k] m fun v m' => v = (match fl ls k with | some l => .tuple [.ptr l.p 0, iv 0] | none => .tuple [nilp, iv 11]) ∧ m' = m := by
  refine WpF_intro at_Ca_held rfl rfl ?_
  unfold c_Ca_held
  refine C_sr fun Q' hQ => ?_
  simp only [r_Ca_held_0, WpO_op, WpO_nil, WpON_some, o_mv, ev_cst, putD_some, fill_cons, fill_nil, Nat.reduceAdd, Nat.zero_add]
  refine hQ _ _ (WpC_seq (C_sr fun Q' hQ => ?_))
  simp only [r_Ca_held_1, WpO_op, WpO_call, WpON_some, o_mv, ev_tm, evs_cons, evs_nil, putD_some, reduceIte, Nat.reduceEqDiff]
  refine WpOC.to ((known_spec h hd hk).mono ?_)
  rintro v m' ⟨rfl, rfl⟩
  simp only [WpO_op, WpO_nil, WpON_some, o_mv, ev_tm, putD_some, reduceIte, Nat.reduceEqDiff]
  refine hQ _ _ (C_sr fun Q' hQ => ?_)
  simp only [r_Ca_held_2, WpO_op, WpO_nil, WpON_some, o_mv, o_ne, v_rto, b_ne, ev_tm, ev_cst, putD_some, reduceIte, Nat.reduceEqDiff, decide_true, Bool.not_true]
  refine hQ _ _ (WpC_cond (t := false) ?_ (WpC_skip (C_sr fun Q' hQ => ?_)))
  · simp only [ev_tm, reduceIte, Nat.reduceEqDiff]
  cases hf : fl ls k with
  | none =>
    simp only [r_Ca_held_4, h.ca.rd, h.mp.look, lkp_al, hf, Option.map_none, Option.getD_none, WpO_op, o_look, WpO_nil, WpON_some, o_mv, o_load, o_nil, o_fa, v_elPtr, v_rto, v_nil, v_fa, ev_tm, putD_some, reduceIte, Nat.reduceEqDiff, Nat.zero_add, List.getElem?_cons_succ, List.getElem?_cons_zero]
    refine hQ _ _ (WpC_seq (C_sr fun Q' hQ => ?_))
    simp only [r_Ca_held_5, b_nn63, WpO_op, WpO_nil, WpON_some, o_mv, o_eqp, v_rto, v_eqp_nn, ev_tm, ev_cst, putD_some, reduceIte, Nat.reduceEqDiff]
    refine hQ _ _ (WpC_cond (t := true) ?_ (C_sr fun Q' hQ => ?_))
    · simp only [ev_tm, reduceIte, Nat.reduceEqDiff]
    simp only [r_Ca_held_6, WpO_op, WpO_nil, WpON_some, o_mv, ev_cst, putD_some]
    refine hQ _ _ (WpC_ret ⟨.inr rfl, _, ares2, ?_⟩)
    simp only [hf, and_self, ev_tm, one_2, reduceIte, Nat.reduceEqDiff]
  | some l =>
    simp only [r_Ca_held_4, h.ca.rd, h.mp.look, lkp_al, hf, Option.map_some, Option.getD_some, WpO_op, o_look, WpO_nil, WpON_some, o_mv, o_load, o_nil, o_fa, v_elPtr, v_rto, v_nil, v_fa, ev_tm, putD_some, reduceIte, Nat.reduceEqDiff, Nat.zero_add, List.getElem?_cons_succ, List.getElem?_cons_zero]
    refine hQ _ _ (WpC_seq (C_sr fun Q' hQ => ?_))
    simp only [r_Ca_held_5, b_np63, WpO_op, WpO_nil, WpON_some, o_mv, o_eqp, v_rto, v_eqp_n, ev_tm, ev_cst, putD_some, reduceIte, Nat.reduceEqDiff]
    refine hQ _ _ (WpC_cond (t := false) ?_ (WpC_skip (C_sr fun Q' hQ => ?_)))
    · simp only [ev_tm, reduceIte, Nat.reduceEqDiff]
    simp only [r_Ca_held_7, WpO_op, WpO_nil, WpON_some, o_mv, ev_tm, ev_cst, putD_some, reduceIte, Nat.reduceEqDiff]
    refine hQ _ _ (WpC_ret ⟨.inr rfl, _, ares2, ?_⟩)
    simp only [hf, and_self, ev_tm, one_2, reduceIte, Nat.reduceEqDiff]
theorem keys_spec (hw : Wf m) {Q : AV → M → Prop} (hQ0 : ∀ m' B, At m' B ty_map_int_pcache_line true [.map mb] → Keep m m' (fun _ => False) → m.next ≤ B → Q (.func fn_Keys_line_1 [.ptr B 0]) m') : WpF Try.prog tb fn_Keys_line [.map mb] m Q := by
  refine WpF_intro at_Keys_line rfl rfl ?_
  unfold c_Keys_line
  refine C_sr fun Q' hQ => ?_
  simp only [r_Keys_line_0, WpO_op, cells_map, WpO_nil, WpON_some, o_mv, o_box, v_ob, ev_tm, ev_cst, putD_some, fill_cons, fill_nil, reduceIte, List.length_cons, List.length_nil, Nat.zero_add]
  refine hQ _ _ (C_sr fun Q' hQ => ?_)
  simp only [r_Keys_line_1, WpO_op, o_fn, WpO_nil, WpON_some, o_mv, ev_tm, evs_cons, evs_nil, putD_some, reduceIte, Nat.reduceEqDiff]
  refine hQ _ _ (WpC_ret ⟨.inr rfl, _, ares1, ?_⟩)
  simp only [ev_tm, one_1, reduceIte, Nat.reduceEqDiff]
  exact hQ0 _ m.next (At.addL rfl) (Keep.addL hw) (Nat.le_refl _)
theorem held_spec (hw : Wf m) (h : CaAt m c d cap mb pv zs po ls) (h0 : ls ≠ []) (hl : ls.length ≤ 1000000) (hb : ∀ l ∈ ls, l.b ≤ 1000000) {Q : AV → M → Prop}
    (hQ0 : ∀ m' B, At m' B ty_int false ((Sk (al ls)).map iv) → Keep m m' (fun _ => False) → m.next ≤ B → Q (.slice B 0 ls.length ls.length false) m') : WpF Try.prog tb fn_Ca_Held [.ptr c 0] m Q := by
  refine WpF_intro at_Ca_Held rfl rfl ?_
  unfold c_Ca_Held
  refine C_sr fun Q' hQ => ?_
  simp only [r_Ca_Held_0, WpO_op, WpO_nil, WpON_some, o_mv, ev_cst, putD_some, fill_cons, fill_nil, Nat.zero_add]
  refine hQ _ _ (WpC_seq (C_sr fun Q' hQ => ?_))
  simp only [r_Ca_Held_1, b_np28, WpO_op, WpO_nil, WpON_some, o_mv, o_eqp, v_rto, v_eqp_n, ev_tm, ev_cst, putD_some, reduceIte, Nat.reduceEqDiff]
  refine hQ _ _ (WpC_cond (t := false) ?_ (WpC_skip (C_sr fun Q' hQ => ?_)))
  · simp only [ev_tm, reduceIte, Nat.reduceEqDiff]
  simp only [r_Ca_Held_3, h.ca.rd, WpO_op, WpO_call, WpON_some, o_mv, o_load, o_nil, o_fa, v_elPtr, v_rto, v_nil, v_fa, ev_tm, evs_cons, evs_nil, putD_some, reduceIte, Nat.reduceEqDiff, Nat.zero_add, List.getElem?_cons_succ, List.getElem?_cons_zero]
  refine WpOC.to (keys_spec hw fun m1 B1 hB1 hk1 hn1 => ?_)
  have hw1 := hk1.wf
  have h1 := h.keep0 hw hk1
  have h0' : al ls ≠ [] := fun e => h0 (List.map_eq_nil_iff.1 e)
  obtain ⟨m2, hr, ha, hk2⟩ := sortedR_at (L := al ls) 3 h0' (by rw [len_al]; exact hl) (fun e he => by
    obtain ⟨l, hl, rfl⟩ := List.mem_map.1 he
    exact hb l hl) hw1
  simp only [WpO_call, ev_tm, evs_cons, evs_nil, putD_some, reduceIte, Nat.reduceEqDiff]
  have hkn : tb.it 31 [.func 51 [.ptr B1 0]] m1 = some (some (.slice m1.next 0 (al ls).length (al ls).length false, m2)) := by
    have := sorted_known (P := Try.prog) (g := 31) (et := 3) (kf := 51) hB1 h1.mp
    rw [hr] at this
    exact this
  refine WpOC.to (WpF_known (tab_get Try.func31) hkn ?_)
  simp only [WpO_op, WpO_nil, WpON_some, o_mv, ev_tm, putD_some, reduceIte, Nat.reduceEqDiff]
  refine hQ _ _ (WpC_ret ⟨.inr rfl, _, ares1, ?_⟩)
  simp only [ev_tm, one_1, reduceIte, Nat.reduceEqDiff]
  rw [len_al]
  exact hQ0 m2 m1.next ha (hk1.trans hk2 fun _ _ h => h) (by have := hk1.next; omega)
/-- Is the block of a number pinned? -/
def pinned (ls : List Ln) (z : Int) : Bool := match ls.find? fun l => decide ((l.b : Int) = z) with
  | some l => decide (0 < l.pins)
  | none => false
theorem find_cast (ls : List Ln) (k : Nat) : (ls.find? fun l => decide ((l.b : Int) = (k : Int))) = fl ls k := by
  unfold fl
  congr 1
  funext l
  exact decide_eq_decide.2 (by omega)
theorem pinned_spec (h : CaAt m c d cap mb pv zs po ls) {V : Nat} (hV : At m V ty_pcache_Cache true [.ptr c 0]) {l : Ln} {k : Nat} (hf : fl ls k = some l) : WpF Try.prog tb fn_Ca_victim_1 [iv k, .ptr V 0] m fun v m' => v = .b (pinned ls k) ∧ m' = m := by
  have hl := (h.ln l (fl_some hf).1).rd
  have hp : pinned ls k = decide ((0 : Int) < (l.pins : Int)) := by
    unfold pinned
    rw [find_cast, hf]
    exact decide_eq_decide.2 (by omega)
  refine WpF_intro at_Ca_victim_1 rfl rfl ?_
  unfold c_Ca_victim_1
  refine C_sr fun Q' hQ => ?_
  simp only [r_Ca_victim_1_0, WpO_op, WpO_nil, WpON_some, o_mv, ev_cst, putD_some, fill_cons, fill_nil, Nat.reduceAdd, Nat.zero_add]
  refine hQ _ _ (C_sr fun Q' hQ => ?_)
  simp only [r_Ca_victim_1_1, hV.rd, h.ca.rd, h.mp.look, lkp_al, hf, Option.map_some, Option.getD_some, hl, WpO_op, o_look, WpO_nil, WpON_some, o_mv, o_load, o_nil, o_gt, o_fa, v_elPtr, v_rto, v_nil, v_fa, b_gt, ev_tm, ev_cst, putD_some, reduceIte, Nat.reduceEqDiff, Nat.zero_add, List.getElem?_cons_succ, List.getElem?_cons_zero]
  refine hQ _ _ (WpC_ret ⟨.inr rfl, _, ares1, ?_⟩)
  simp only [hp, and_self, ev_tm, one_1, reduceIte, Nat.reduceEqDiff]
end
end Go.Proofs.Ytmkbjcjlnidjiaa
set_option linter.unusedVariables false
set_option linter.unusedVariables false
/- The cache: who goes, and the room that is made. -/
namespace Go.Proofs.Ytmkbjcjlnidjiaa
open Go Go.Am
section
variable {m : M} {c d cb cap mb : Nat} {pv : AV} {zs : List Int} {po : Option Nat} {ls : List Ln} {L : List Cw} {fused dead : Bool} {fuse writes : Int}
theorem pinned_at (h : CaAt m c d cap mb pv zs po ls) {l : Ln} (hl : l ∈ ls) : pinned ls (l.b : Int) = decide (0 < l.pins) := by
  unfold pinned
  rw [find_cast, fl_mem h.nb hl]
theorem CaAt.setpk {m' : M} {pv' : AV} {zs' : List Int} (h : CaAt m c d cap mb pv zs po ls) (hw : Wf m) (hk : Keep m m' fun b => b = c) (hc : At m' c ty_cache_Cache true [.ptr d 0, iv cap, pv', .map mb]) (hp : IsAt m pv' zs' po) : CaAt m' c d cap mb pv' zs' po ls :=
  ⟨hc, h.mp.keep hw hk fun e => ne_map h.ca h.mp e.symm, fun l hl => (h.ln l hl).keep hw hk (h.cp l hl), fun l hl => (h.da l hl).keep hw hk (h.dw l hl).1, hp.keep hw hk fun b hb => (h.pw b hb).1, h.nb, h.np, h.cp, h.dw, h.pw⟩
set_option maxHeartbeats 2000000 in
theorem victim_spec (hw : Wf m) (h : CaAt m c d cap mb pv zs po ls) (h0 : ls ≠ []) (hl : ls.length ≤ 1000000) (hb : ∀ l ∈ ls, l.b ≤ 1000000) {Q : AV → M → Prop}
    (hQ1 : (∀ l ∈ ls, 0 < l.pins) → ∀ m', Keep m m' (fun _ => False) → Q (.tuple [iv 0, .b false]) m')
    (hQ2 : ∀ m' l pv' zs', l ∈ ls → l.pins = 0 → CaAt m' c d cap mb pv' zs' po ls → Keep m m' (fun b => b = c) → Q (.tuple [iv l.b, .b true]) m') : WpF Try.prog tb fn_Ca_victim [.ptr c 0] m Q := by
  have hcl := h.ca.lt hw
  refine WpF_intro at_Ca_victim rfl rfl ?_
  unfold c_Ca_victim
  have hV : At (m.addL ty_pcache_Cache 1 [.ptr c 0]) m.next ty_pcache_Cache true [.ptr c 0] := At.addL rfl
  have hk1 : Keep m (m.addL ty_pcache_Cache 1 [.ptr c 0]) fun _ => False := Keep.addL hw
  refine C_sr fun Q' hQ => ?_
  simp only [r_Ca_victim_0, WpO_op, WpO_nil, WpON_some, o_mv, o_box, v_ob, cells_ptr, ev_tm, ev_cst, putD_some, fill_cons, fill_nil, reduceIte, List.length_cons, List.length_nil, Nat.zero_add]
  refine hQ _ _ (C_sr fun Q' hQ => ?_)
  generalize m.addL ty_pcache_Cache 1 [.ptr c 0] = m1 at hV hk1 ⊢
  have hw1 := hk1.wf
  have h1 := h.keep0 hw hk1
  have hVn : m.next < m1.next := hV.lt hw1
  simp only [r_Ca_victim_1, hV.rd, WpO_op, WpO_call, WpON_some, o_load, v_elPtr, v_rto, ev_tm, evs_cons, evs_nil, putD_some, reduceIte, Nat.reduceEqDiff, List.getElem?_cons_zero]
  refine WpOC.to (held_spec hw1 h1 h0 hl hb fun m2 B hB hk2 hBn => ?_)
  have hw2 := hk2.wf
  have h2 := h1.keep0 hw1 hk2
  have hV2 := hV.keep hw1 hk2 fun h => h
  have hSl : (Sk (al ls)).length = ls.length := by rw [len_Sk, len_al]
  have hS0 : Sk (al ls) ≠ [] := fun e => h0 (List.length_eq_zero_iff.1 (by rw [← hSl, e]; rfl))
  have hSm : ∀ z ∈ Sk (al ls), ∃ l ∈ ls, (l.b : Int) = z := by
    intro z hz
    obtain ⟨e, he, rfl⟩ := mem_Sk.1 hz
    obtain ⟨l, hl, rfl⟩ := List.mem_map.1 he
    exact ⟨l, hl, rfl⟩
  have hBo : ¬ cOwn c mb po ls B := fun hx => by have := h1.lt hw1 hx; omega
  have hT : Tells m2 (fun x => x = B) (.func fn_Ca_victim_1 [.ptr m.next 0]) (Sk (al ls)) (pinned ls) := by
    refine ⟨_, _, rfl, fun z hz m' hk' => ?_⟩
    obtain ⟨l, hlm, rfl⟩ := hSm z hz
    have h' := h2.keep hw2 hk' fun b hb e => hBo (e ▸ hb)
    exact pinned_spec h' (hV2.keep hw2 hk' fun e => by omega) (fl_mem h.nb hlm)
  simp only [WpO_op, o_fn, WpO_call, WpON_some, ev_tm, evs_cons, evs_nil, putD_some, reduceIte, Nat.reduceEqDiff]
  rw [← hSl]
  refine WpOC.to (del_spec hw2 hB hS0 (by omega) hT fun m3 k hB3 hk hk3 => ?_)
  have hw3 := hk3.wf
  have h3 := h2.keep hw2 hk3 fun b hb e => hBo (e ▸ hb)
  have hV3 := hV2.keep hw2 hk3 fun e => by omega
  have hk03 : Keep m m3 fun _ => False := (hk1.trans hk2 fun _ _ h => h).trans hk3 fun b hb e => by have := hk1.next; omega
  have hfree : ∀ z ∈ (Sk (al ls)).filter (fun y => !pinned ls y), ∃ l ∈ ls, (l.b : Int) = z ∧ l.pins = 0 := by
    intro z hz
    rw [List.mem_filter] at hz
    obtain ⟨l, hlm, rfl⟩ := hSm z hz.1
    have := hz.2
    rw [pinned_at h hlm] at this
    refine ⟨l, hlm, rfl, ?_⟩
    simp at this
    exact this
  have hkl : k ≤ (Sk (al ls)).length := by rw [hk]; exact List.length_filter_le _ _
  generalize hF : (Sk (al ls)).filter (fun y => !pinned ls y) = free at hB3 hk hfree
  simp only [WpO_op, WpO_nil, WpON_some, o_mv, ev_tm, putD_some, reduceIte, Nat.reduceEqDiff]
  refine hQ _ _ (WpC_seq (C_sr fun Q' hQ => ?_))
  by_cases hk0 : k = 0
  · subst hk0
    simp only [r_Ca_victim_2, show (((0 : Nat) : Int) = 0) = True from eq_true rfl, WpO_op, WpO_nil, WpON_some, o_mv, o_eq, o_len, v_ob, v_rto, b_eq, len_sl, ev_tm, ev_cst, putD_some, reduceIte, Nat.reduceEqDiff, decide_true]
    refine hQ _ _ (WpC_cond (t := true) ?_ (C_sr fun Q' hQ => ?_))
    · simp only [ev_tm, reduceIte, Nat.reduceEqDiff]
    simp only [r_Ca_victim_3, WpO_op, WpO_nil, WpON_some, o_mv, ev_cst, putD_some]
    refine hQ _ _ (WpC_ret ⟨.inr rfl, _, ares2, ?_⟩)
    simp only [ev_tm, one_2, reduceIte, Nat.reduceEqDiff]
    refine hQ1 (fun l hlm => ?_) m3 hk03
    have hz : (l.b : Int) ∈ Sk (al ls) := mem_Sk.2 ⟨(l.b, .ptr l.p 0), List.mem_map_of_mem hlm, rfl⟩
    rcases Nat.eq_zero_or_pos l.pins with hp | hp
    · have : (l.b : Int) ∈ free := by
        rw [← hF, List.mem_filter]
        exact ⟨hz, by rw [pinned_at h hlm, hp]; rfl⟩
      rw [List.length_eq_zero_iff.1 hk.symm] at this
      cases this
    · exact hp
  simp only [r_Ca_victim_2, show ((k : Int) = 0) = False from eq_false (by omega), WpO_op, WpO_nil, WpON_some, o_mv, o_eq, o_len, v_ob, v_rto, b_eq, len_sl, ev_tm, ev_cst, putD_some, reduceIte, Nat.reduceEqDiff, decide_false]
  refine hQ _ _ (WpC_cond (t := false) ?_ (WpC_skip (C_sr fun Q' hQ => ?_)))
  · simp only [ev_tm, reduceIte, Nat.reduceEqDiff]
  simp only [r_Ca_victim_4, WpO_op, WpO_nil, WpON_some, o_mv, ev_cst, putD_some]
  have hA : (k : Int) - 1 = ((k - 1 : Nat) : Int) := by omega
  -- what comes behind the pick
  have fin : ∀ (fr : Fr) (m4 : M) (pick : Int) (pv' : AV) (zs' : List Int), ev (tm 4) fr = .slice B 0 k (Sk (al ls)).length false → ev (tm 5) fr = iv pick → At m4 B ty_int false (free.map iv ++ List.replicate ((Sk (al ls)).length - k) (iv 0)) → CaAt m4 c d cap mb pv' zs' po ls → Keep m m4 (fun b => b = c) →
      WpC Try.prog tb (.seq (.reg r_Ca_victim_7) .ret) fr m4 fun x fr' m' => (x = .normal ∨ x = .ret) ∧ ∃ l, ares Try.prog ⟨fr', m', [], none⟩ [.tmp 2, .tmp 3] = some l ∧ Q (one l) m' := by
    intro fr m4 pick pv' zs' e4 e5 hB4 h4 hk4
    obtain ⟨j, hj, hjl⟩ : ∃ j : Nat, max 0 (min pick ((k - 1 : Nat) : Int)) = (j : Int) ∧ j < k := ⟨(max 0 (min pick ((k - 1 : Nat) : Int))).toNat, by omega, by omega⟩
    have hz : free[j]? = some (free[j]'(by omega)) := List.getElem?_eq_getElem _
    obtain ⟨l, hlm, hlb, hlp⟩ := hfree _ (List.mem_of_getElem? hz)
    have hr : m4.rd B j = some (iv l.b) := by
      rw [hB4.rd, List.getElem?_append_left (by simp; omega), List.getElem?_map, hz, ← hlb]; rfl
    refine C_sr fun Q' hQ => ?_
    simp only [r_Ca_victim_7, e4, e5, b_sub ty_int (show -9223372036854775808 ≤ (k : Int) - 1 by omega) (show (k : Int) - 1 ≤ 9223372036854775807 by omega), hA, hj, v_iaS 1 B 0 k (Sk (al ls)).length false hjl, Nat.mul_one, hr, WpO_op, WpO_nil, WpON_some, o_mv, o_load, o_sub, o_iaS, o_len, o_min, o_max, v_elPtr, v_ob, v_rto, v_min, v_max, len_sl, ev_tm, ev_cst, putD_some, reduceIte, Nat.reduceEqDiff, Nat.zero_add]
    refine hQ _ _ (WpC_ret ⟨.inr rfl, _, ares2, ?_⟩)
    simp only [ev_tm, one_2, reduceIte, Nat.reduceEqDiff]
    exact hQ2 m4 l pv' zs' hlm hlp h4 hk4
  refine hQ _ _ (WpC_seq (WpC_seq (C_reg fun Q' hQ => ?_)))
  cases zs with
  | nil =>
    have hz0 : lenK false pv = some 0 := h3.pk.len
    simp only [r_Ca_victim_5, hV3.rd, h3.ca.rd, hz0, show ((0 : Int) < ((0 : Nat) : Int)) = False from eq_false (by omega), WpO_op, WpO_nil, WpON_some, o_load, o_nil, o_gt, o_fa, o_len, v_elPtr, v_ob, v_rto, v_nil, v_fa, b_gt, ev_tm, ev_cst, putD_some, reduceIte, Nat.reduceEqDiff, Nat.zero_add, decide_false, List.getElem?_cons_succ, List.getElem?_cons_zero]
    refine hQ _ _ (WpC_cond (t := false) ?_ (WpC_skip ?_))
    · simp only [ev_tm, reduceIte, Nat.reduceEqDiff]
    refine fin _ _ 0 pv [] ?_ ?_ hB3 h3 (hk03.mono fun _ _ h => h.elim)
    all_goals simp only [ev_tm, reduceIte, Nat.reduceEqDiff]
  | cons z zs =>
    obtain ⟨pb, off, pc, hx, hr, y, hy, hIs⟩ := h3.pk.tail
    have hz1 : lenK false pv = some (zs.length + 1) := h3.pk.len
    simp only [r_Ca_victim_5, hV3.rd, h3.ca.rd, hz1, show ((0 : Int) < ((zs.length + 1 : Nat) : Int)) = True from eq_true (by omega), WpO_op, WpO_nil, WpON_some, o_load, o_nil, o_gt, o_fa, o_len, v_elPtr, v_ob, v_rto, v_nil, v_fa, b_gt, ev_tm, ev_cst, putD_some, reduceIte, Nat.reduceEqDiff, Nat.zero_add, decide_true, List.getElem?_cons_succ, List.getElem?_cons_zero]
    have hwr := h3.ca.wr (i := 2) (vs := [y]) (by show 2 + 1 ≤ 4; omega)
    have hup := h3.ca.upd (i := 2) (vs := [y]) (by show 2 + 1 ≤ 4; omega)
    have hk4 : Keep m3 (m3.upd c 2 [y]) fun b => b = c := Keep.upd hw3 fun _ => rfl
    have hq := h3.pk.aq
    have hrs : rSl 1 false (.cst (.slice pb off (zs.length + 1) pc false)) (some (.cst (iv 1))) none none .leaf m3 = some (y, m3) := by rw [← hx]; exact hy m3 rfl
    rw [hx] at hq
    have hia : rIaS 1 (.cst (.slice pb off (zs.length + 1) pc false)) (.cst (iv 0)) .leaf m3 = some (.ptr pb (off + 0), m3) := by
      have := v_iaS (m := m3) 1 pb off (zs.length + 1) pc false (show 0 < zs.length + 1 by omega)
      rw [Nat.zero_mul] at this
      exact this
    refine hQ _ _ (WpC_cond (t := true) ?_ (C_drawn fun Q' hQ => ?_))
    · simp only [ev_tm, reduceIte, Nat.reduceEqDiff]
    simp only [r_Ca_victim_6, hV3.rd, h3.ca.rd, hx, hia, hr, hrs, hIs.cells1, hwr, WpT_op, WpT_nil, WpTN_some, o_mv, o_load, o_store, o_nil, o_drop, o_fa, o_iaS, v_elPtr, v_ob, v_rto, v_nil, v_fa, ev_tm, ev_cst, putD_none, putD_some, bc_true, nbeq, reduceIte, Nat.reduceEqDiff, List.length_cons, List.length_nil, Nat.zero_add, decide_true, List.nil_append, List.cons_append, List.getElem?_cons_succ, List.getElem?_cons_zero]
    refine hQ _ ⟨?_, _, rfl, ?_⟩
    · simp only [List.all_cons, List.all_nil, again0, want_none, r_Ca_victim_6, hV3.rd, h3.ca.rd, hx, hr, hrs, hIs.aq, hq, aq_iv, show ∀ (b o : Nat), aveq 40 (.ptr b o) (.ptr b o) = true from fun b o => by simp [aveq, Nat.beq_refl], o_load, o_drop, v_elPtr, v_ob, v_rto, ev_tm, ev_cst, bc_true, reduceIte, Nat.reduceEqDiff, Bool.and_self, List.getElem?_cons_succ, List.getElem?_cons_zero]
    refine fin _ _ z y zs ?_ ?_ (hB3.keep hw3 hk4 fun e => hBo (.inl e)) (h3.setpk hw3 hk4 hup hIs) ((hk03.mono fun _ _ h => h.elim).trans hk4 fun _ _ h => h)
    all_goals simp only [ev_tm, reduceIte, Nat.reduceEqDiff]
theorem clean_spec (h : CaAt m c d cap mb pv zs po ls) {l : Ln} {k : Nat} (hf : fl ls k = some l) (hd : l.dirty = false) : WpF Try.prog tb fn_Ca_write [.ptr c 0, iv k] m fun v m' => v = iv 0 ∧ m' = m := by
  have hr := (h.ln l (fl_some hf).1).rd
  rw [hd] at hr
  refine WpF_intro at_Ca_write rfl rfl ?_
  unfold c_Ca_write
  refine C_sr fun Q' hQ => ?_
  simp only [r_Ca_write_0, WpO_op, WpO_nil, WpON_some, o_mv, ev_cst, putD_some, fill_cons, fill_nil, Nat.reduceAdd, Nat.zero_add]
  refine hQ _ _ (C_sr fun Q' hQ => ?_)
  simp only [r_Ca_write_1, h.ca.rd, h.mp.look, lkp_al, hf, Option.map_some, Option.getD_some, WpO_op, o_look, WpO_nil, WpON_some, o_mv, o_load, o_nil, o_fa, v_elPtr, v_rto, v_nil, v_fa, ev_tm, putD_some, reduceIte, Nat.reduceEqDiff, Nat.zero_add, List.getElem?_cons_succ, List.getElem?_cons_zero]
  refine hQ _ _ (WpC_seq (C_sr fun Q' hQ => ?_))
  simp only [r_Ca_write_2, b_np63, hr, WpO_op, WpO_opG, WpO_nil, WpON_some, WpOG_true, o_mv, o_pick, o_load, o_nil, o_eqp, o_un, o_fa, v_elB, v_elPtr, v_rto, v_nil, v_eqp_n, v_not, v_fa, ev_tm, ev_cst, putD_some, want_b, bc_false, reduceIte, Nat.reduceEqDiff, Nat.zero_add, Bool.not_false, List.getElem?_cons_succ, List.getElem?_cons_zero]
  refine hQ _ _ (WpC_cond (t := true) ?_ (C_sr fun Q' hQ => ?_))
  · simp only [ev_tm, reduceIte, Nat.reduceEqDiff]
  simp only [r_Ca_write_3, WpO_op, WpO_nil, WpON_some, o_mv, ev_cst, putD_some]
  refine hQ _ _ (WpC_ret ⟨.inr rfl, _, ares1, ?_⟩)
  simp only [and_self, ev_tm, one_1, reduceIte, Nat.reduceEqDiff]
theorem rm_mem {ls : List Ln} {k : Nat} {l : Ln} (h : l ∈ rm ls k) : l ∈ ls ∧ l.b ≠ k := by
  unfold rm at h
  rw [List.mem_filter] at h
  exact ⟨h.1, by simpa using h.2⟩
theorem CaAt.rmv {m' : M} {k : Nat} (h : CaAt m c d cap mb pv zs po ls) (hw : Wf m) (hk : Keep m m' fun b => b = mb) (hm : MpAt m' mb (al (rm ls k))) : CaAt m' c d cap mb pv zs po (rm ls k) :=
  ⟨h.ca.keep hw hk (ne_map h.ca h.mp), hm, fun l hl => (h.ln l (rm_mem hl).1).keep hw hk (ne_map (h.ln l (rm_mem hl).1) h.mp), fun l hl => (h.da l (rm_mem hl).1).keep hw hk (ne_mapB (h.da l (rm_mem hl).1) h.mp), h.pk.keep hw hk fun b hb => by
      have hp := h.pk
      rw [hb] at hp
      exact ne_mapI hp h.mp,
    h.nb.sublist (List.Sublist.map _ List.filter_sublist), h.np.sublist (List.Sublist.map _ List.filter_sublist), fun l hl => h.cp l (rm_mem hl).1, fun l hl => ⟨(h.dw l (rm_mem hl).1).1, fun l' hl' => (h.dw l (rm_mem hl).1).2 l' (rm_mem hl').1⟩, fun b hb => ⟨(h.pw b hb).1, fun l hl => (h.pw b hb).2 l (rm_mem hl).1⟩⟩
theorem room_spec (hw : Wf m) (h : CaAt m c d cap mb pv zs po ls) (hcap : 1 ≤ cap) (hl : ls.length ≤ 1000000) (hb : ∀ l ∈ ls, l.b ≤ 1000000) (hcl : ∀ l ∈ ls, l.pins = 0 → l.dirty = false) {Q : AV → M → Prop}
    (hQ1 : ls.length < cap → Q (iv 0) m)
    (hQ2 : ¬ ls.length < cap → (∀ l ∈ ls, 0 < l.pins) → ∀ m', Keep m m' (fun _ => False) → Q (iv 8) m')
    (hQ3 : ¬ ls.length < cap → ∀ m' l pv' zs', l ∈ ls → l.pins = 0 → CaAt m' c d cap mb pv' zs' po (rm ls l.b) → Keep m m' (fun b => b = c ∨ b = mb) → Q (iv 0) m') : WpF Try.prog tb fn_Ca_room [.ptr c 0] m Q := by
  have hml := h.mp.mlen
  rw [len_al] at hml
  refine WpF_intro at_Ca_room rfl rfl ?_
  unfold c_Ca_room
  refine C_sr fun Q' hQ => ?_
  simp only [r_Ca_room_0, WpO_op, WpO_nil, WpON_some, o_mv, ev_cst, putD_some, fill_cons, fill_nil, Nat.zero_add]
  refine hQ _ _ (WpC_seq (C_sd fun Q' hQ => ?_))
  have hqm : aveq 40 (.map mb) (.map mb) = true := by simp [aveq, Nat.beq_refl]
  by_cases hlt : ls.length < cap
  · simp only [r_Ca_room_1, h.ca.rd, hml, show ((ls.length : Int) < (cap : Int)) = True from eq_true (by omega), o_mlen, WpT_op, WpT_nil, WpTN_some, o_mv, o_load, o_nil, o_lt, o_fa, v_elPtr, v_rto, v_nil, v_fa, b_lt, ev_tm, putD_some, reduceIte, Nat.reduceEqDiff, Nat.zero_add, decide_true, List.nil_append, List.cons_append, List.getElem?_cons_succ, List.getElem?_cons_zero]
    refine hQ _ ⟨?_, _, rfl, ?_⟩
    · simp only [List.all_cons, List.all_nil, again0, want_none, r_Ca_room_1, h.ca.rd, hml, hqm, aq_iv, o_mlen, o_load, v_elPtr, v_ob, v_rto, ev_tm, bc_true, reduceIte, Nat.reduceEqDiff, Bool.and_self, List.getElem?_cons_succ, List.getElem?_cons_zero]
    refine WpC_cond (t := true) ?_ (C_sr fun Q' hQ => ?_)
    · simp only [ev_tm, reduceIte, Nat.reduceEqDiff]
    simp only [r_Ca_room_2, WpO_op, WpO_nil, WpON_some, o_mv, ev_cst, putD_some]
    refine hQ _ _ (WpC_ret ⟨.inr rfl, _, ares1, ?_⟩)
    simp only [ev_tm, one_1, reduceIte, Nat.reduceEqDiff]
    exact hQ1 hlt
  simp only [r_Ca_room_1, h.ca.rd, hml, show ((ls.length : Int) < (cap : Int)) = False from eq_false (by omega), o_mlen, WpT_op, WpT_nil, WpTN_some, o_mv, o_load, o_nil, o_lt, o_fa, v_elPtr, v_rto, v_nil, v_fa, b_lt, ev_tm, putD_some, reduceIte, Nat.reduceEqDiff, Nat.zero_add, decide_false, List.nil_append, List.cons_append, List.getElem?_cons_succ, List.getElem?_cons_zero]
  refine hQ _ ⟨?_, _, rfl, ?_⟩
  · simp only [List.all_cons, List.all_nil, again0, want_none, r_Ca_room_1, h.ca.rd, hml, hqm, aq_iv, o_mlen, o_load, v_elPtr, v_ob, v_rto, ev_tm, bc_true, reduceIte, Nat.reduceEqDiff, Bool.and_self, List.getElem?_cons_succ, List.getElem?_cons_zero]
  refine WpC_cond (t := false) ?_ (WpC_skip (C_sr fun Q' hQ => ?_))
  · simp only [ev_tm, reduceIte, Nat.reduceEqDiff]
  have h0 : ls ≠ [] := fun e => by rw [e] at hlt; simp at hlt; omega
  simp only [r_Ca_room_3, WpO_op, WpO_call, WpON_some, o_mv, ev_tm, evs_cons, evs_nil, putD_some, reduceIte, Nat.reduceEqDiff]
  refine WpOC.to (victim_spec hw h h0 hl hb (fun hall m1 hk1 => ?_) (fun m1 l pv' zs' hlm hlp h1 hk1 => ?_))
  · simp only [WpO_op, WpO_nil, WpON_some, o_mv, o_ext, v_elTup, v_rto, ev_tm, putD_some, reduceIte, Nat.reduceEqDiff, List.getElem?_cons_succ, List.getElem?_cons_zero]
    refine hQ _ _ (WpC_seq (C_sr fun Q' hQ => ?_))
    simp only [r_Ca_room_4, WpO_op, WpO_nil, WpON_some, o_mv, o_un, v_rto, v_not, ev_tm, putD_some, reduceIte, Nat.reduceEqDiff, Bool.not_false]
    refine hQ _ _ (WpC_cond (t := true) ?_ (C_sr fun Q' hQ => ?_))
    · simp only [ev_tm, reduceIte, Nat.reduceEqDiff]
    simp only [r_Ca_room_5, WpO_op, WpO_nil, WpON_some, o_mv, ev_cst, putD_some]
    refine hQ _ _ (WpC_ret ⟨.inr rfl, _, ares1, ?_⟩)
    simp only [ev_tm, one_1, reduceIte, Nat.reduceEqDiff]
    exact hQ2 hlt hall m1 hk1
  · have hw1 := hk1.wf
    simp only [WpO_op, WpO_nil, WpON_some, o_mv, o_ext, v_elTup, v_rto, ev_tm, putD_some, reduceIte, Nat.reduceEqDiff, List.getElem?_cons_succ, List.getElem?_cons_zero]
    refine hQ _ _ (WpC_seq (C_sr fun Q' hQ => ?_))
    simp only [r_Ca_room_4, WpO_op, WpO_nil, WpON_some, o_mv, o_un, v_rto, v_not, ev_tm, putD_some, reduceIte, Nat.reduceEqDiff, Bool.not_true]
    refine hQ _ _ (WpC_cond (t := false) ?_ (WpC_skip (WpC_seq (C_sr fun Q' hQ => ?_))))
    · simp only [ev_tm, reduceIte, Nat.reduceEqDiff]
    simp only [r_Ca_room_6, WpO_op, WpO_call, WpON_some, o_mv, ev_tm, evs_cons, evs_nil, putD_some, reduceIte, Nat.reduceEqDiff]
    refine WpOC.to ((clean_spec h1 (fl_mem h.nb hlm) (hcl l hlm hlp)).mono ?_)
    rintro v m2 ⟨rfl, rfl⟩
    simp only [WpO_op, WpO_nil, WpON_some, o_mv, ev_tm, putD_some, reduceIte, Nat.reduceEqDiff]
    refine hQ _ _ (C_sr fun Q' hQ => ?_)
    simp only [r_Ca_room_7, WpO_op, WpO_nil, WpON_some, o_mv, o_ne, v_rto, b_ne, ev_tm, ev_cst, putD_some, reduceIte, Nat.reduceEqDiff, decide_true, Bool.not_true]
    refine hQ _ _ (WpC_cond (t := false) ?_ (WpC_skip (C_sr fun Q' hQ => ?_)))
    · simp only [ev_tm, reduceIte, Nat.reduceEqDiff]
    obtain ⟨m3, hr3, hm3, hk3, hn3⟩ := h1.mp.del hw1 l.b
    rw [del_al h1.nb] at hm3
    simp only [r_Ca_room_9, h1.ca.rd, hr3, WpO_op, o_mdel, WpO_nil, WpON_some, o_mv, o_load, o_nil, o_fa, v_elPtr, v_rto, v_nil, v_fa, ev_tm, putD_none, putD_some, reduceIte, Nat.reduceEqDiff, Nat.zero_add, List.getElem?_cons_succ, List.getElem?_cons_zero]
    refine hQ _ _ (C_sr fun Q' hQ => ?_)
    simp only [r_Ca_room_10, WpO_op, WpO_nil, WpON_some, o_mv, ev_cst, putD_some]
    refine hQ _ _ (WpC_ret ⟨.inr rfl, _, ares1, ?_⟩)
    simp only [ev_tm, one_1, reduceIte, Nat.reduceEqDiff]
    exact hQ3 hlt m3 l pv' zs' hlm hlp (h1.rmv hw1 hk3 hm3) ((hk1.mono fun _ _ h => .inl h).trans hk3 fun _ _ h => .inr h)
end
end Go.Proofs.Ytmkbjcjlnidjiaa
set_option linter.unusedVariables false
set_option linter.unusedVariables false
/- Lines that take other values; bytes compared. -/
namespace Go.Proofs.Ytmkbjcjlnidjiaa
open Go Go.Am
section
variable {m : M} {c d cb cap mb : Nat} {pv : AV} {zs : List Int} {po : Option Nat} {ls : List Ln} {L : List Cw} {fused dead : Bool} {fuse writes : Int}
theorem map_inj {α : Type} {f : α → Nat} : ∀ {l : List α}, (l.map f).Nodup → ∀ {x y : α}, x ∈ l → y ∈ l → f x = f y → x = y
  | [], _, x, y, hx, _, _ => by cases hx
  | a :: l, h, x, y, hx, hy, e => by
    rw [List.map_cons, List.nodup_cons] at h
    rcases List.mem_cons.1 hx with e1 | hx' <;> rcases List.mem_cons.1 hy with e2 | hy'
    · rw [e1, e2]
    · exact absurd (by rw [← e1, e]; exact List.mem_map_of_mem hy') h.1
    · exact absurd (by rw [← e2, ← e]; exact List.mem_map_of_mem hx') h.1
    · exact map_inj h.2 hx' hy' e
def setl (ls : List Ln) (n : Ln) : List Ln := ls.map fun l => if l.b = n.b then n else l
theorem setl_mem {ls : List Ln} {n x : Ln} (h : x ∈ setl ls n) : ∃ y ∈ ls, (y.b = n.b ∧ x = n) ∨ (y.b ≠ n.b ∧ x = y) := by
  obtain ⟨y, hy, rfl⟩ := List.mem_map.1 h
  refine ⟨y, hy, ?_⟩
  by_cases e : y.b = n.b
  · rw [if_pos e]; exact .inl ⟨e, rfl⟩
  · rw [if_neg e]; exact .inr ⟨e, rfl⟩
theorem setl_b (ls : List Ln) (n : Ln) : (setl ls n).map (·.b) = ls.map (·.b) := by
  unfold setl
  rw [List.map_map]
  refine List.map_congr_left fun y hy => ?_
  show (if y.b = n.b then n else y).b = y.b
  split
  · rename_i h; exact h.symm
  · rfl
theorem CaAt.setl_p (h : CaAt m c d cap mb pv zs po ls) {n l : Ln} (hl : fl ls n.b = some l) (hp : n.p = l.p) : (setl ls n).map (·.p) = ls.map (·.p) := by
  obtain ⟨hlm, hlb⟩ := fl_some hl
  unfold setl
  rw [List.map_map]
  refine List.map_congr_left fun y hy => ?_
  show (if y.b = n.b then n else y).p = y.p
  split
  · rename_i e
    rw [hp, map_inj h.nb hy hlm (by rw [e, hlb])]
  · rfl
theorem CaAt.setl_al (h : CaAt m c d cap mb pv zs po ls) {n l : Ln} (hl : fl ls n.b = some l) (hp : n.p = l.p) : al (setl ls n) = al ls := by
  obtain ⟨hlm, hlb⟩ := fl_some hl
  unfold setl al
  rw [List.map_map]
  refine List.map_congr_left fun y hy => ?_
  show (((if y.b = n.b then n else y).b, AV.ptr (if y.b = n.b then n else y).p 0) : Nat × AV) = (y.b, .ptr y.p 0)
  split
  · rename_i e
    rw [hp, ← e, map_inj h.nb hy hlm (by rw [e, hlb])]
  · rfl
theorem cells_sl (b off len cap : Nat) (lim : Bool) : cellsO (.slice b off len cap lim) = some [.slice b off len cap lim] := rfl
theorem cells_nils : cellsO nils = some [nils] := rfl
theorem cells_y (n : Nat) : cellsO (.y n) = some [.y n] := rfl
theorem same_spec {s1 s2 : AV} {t1 t2 : Bs} {b1 b2 : Nat} (h1 : BsAt m s1 t1 b1) (h2 : BsAt m s2 t2 b2) : WpF Try.prog tb fn_k1_SameBytes [s1, s2] m fun v m' => v = .b (decide (t1 = t2)) ∧ m' = m := by
  refine WpF_intro at_k1_SameBytes rfl rfl ?_
  unfold c_k1_SameBytes
  refine C_sr fun Q' hQ => ?_
  simp only [r_k1_SameBytes_0, WpO_op, WpO_nil, WpON_some, o_mv, ev_cst, putD_some, fill_cons, fill_nil, Nat.reduceAdd, Nat.zero_add]
  refine hQ _ _ (C_sr fun Q' hQ => ?_)
  simp only [r_k1_SameBytes_1, h1.run_b2s, h2.run_b2s, WpO_op, o_b2s, WpO_nil, WpON_some, o_mv, o_eq, v_rto, bs_eq, ev_tm, putD_some, reduceIte, Nat.reduceEqDiff]
  refine hQ _ _ (WpC_ret ⟨.inr rfl, _, ares1, ?_⟩)
  simp only [and_self, ev_tm, one_1, reduceIte, Nat.reduceEqDiff]
theorem rep_flat (n : Nat) (a : AV) : (List.replicate n [a]).flatten = List.replicate n a := by
  induction n with
  | zero => rfl
  | succ n ih => rw [List.replicate_succ, List.flatten_cons, ih]; rfl
theorem ycells_rep (n : Nat) (x : UInt8) : ycells (List.replicate n x) = List.replicate n (.y x.toNat) := by
  unfold ycells
  rw [List.map_replicate]
theorem splice_rep {k n : Nat} (hk : k < n) (x z : AV) : splice (List.replicate k x ++ List.replicate (n - k) z) k [x] = List.replicate (k + 1) x ++ List.replicate (n - (k + 1)) z := by
  unfold splice
  rw [List.take_append_of_le_length (by simp), List.take_of_length_le (by simp), show [x].length = 1 from rfl, List.drop_append, List.drop_of_length_le (by simp), List.length_replicate, List.nil_append, show k + 1 - k = 1 by omega, List.drop_replicate, List.replicate_succ' , List.append_assoc, show n - k - 1 = n - (k + 1) by omega]
theorem _root_.Go.Am.RsAt.notnil {x : AV} {l : List AV} {o : Option Nat} (h : RsAt m x l o) (hn : x ≠ nils) : ∃ b n c q, x = .slice b 0 n c q := by
  cases h with
  | nil => exact absurd rfl hn
  | empty => exact ⟨_, _, _, _, rfl⟩
  | row => exact ⟨_, _, _, _, rfl⟩
end
end Go.Proofs.Ytmkbjcjlnidjiaa
