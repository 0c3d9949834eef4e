import Derived.Test.YtmkbjcjlnidjiaaCaG
set_option linter.unusedVariables false
set_option linter.unusedVariables false
/- The cache: Put, Pin, Unpin, Drop. -/
namespace Go.Proofs.Ytmkbjcjlnidjiaa
open Go Go.Am
section
variable {m : M} {c d cb cap mb : Nat} {pv : AV} {zs : List Int} {po : Option Nat} {ls : List Ln} {L : List Cw} {fused dead : Bool} {fuse writes : Int}
theorem map_inj {α : Type} {f : α → Nat} : ∀ {l : List α}, (l.map f).Nodup → ∀ {x y : α}, x ∈ l → y ∈ l → f x = f y → x = y
  | [], _, x, y, hx, _, _ => by cases hx
  | a :: l, h, x, y, hx, hy, e => by
    rw [List.map_cons, List.nodup_cons] at h
    rcases List.mem_cons.1 hx with e1 | hx' <;> rcases List.mem_cons.1 hy with e2 | hy'
    · rw [e1, e2]
    · exact absurd (by rw [← e1, e]; exact List.mem_map_of_mem hy') h.1
    · exact absurd (by rw [← e2, ← e]; exact List.mem_map_of_mem hx') h.1
    · exact map_inj h.2 hx' hy' e
def setl (ls : List Ln) (n : Ln) : List Ln := ls.map fun l => if l.b = n.b then n else l
theorem setl_mem {ls : List Ln} {n x : Ln} (h : x ∈ setl ls n) : ∃ y ∈ ls, (y.b = n.b ∧ x = n) ∨ (y.b ≠ n.b ∧ x = y) := by
  obtain ⟨y, hy, rfl⟩ := List.mem_map.1 h
  refine ⟨y, hy, ?_⟩
  by_cases e : y.b = n.b
  · rw [if_pos e]; exact .inl ⟨e, rfl⟩
  · rw [if_neg e]; exact .inr ⟨e, rfl⟩
theorem setl_b (ls : List Ln) (n : Ln) : (setl ls n).map (·.b) = ls.map (·.b) := by
  unfold setl
  rw [List.map_map]
  refine List.map_congr_left fun y hy => ?_
  show (if y.b = n.b then n else y).b = y.b
  split
  · rename_i h; exact h.symm
  · rfl
theorem CaAt.setl_p (h : CaAt m c d cap mb pv zs po ls) {n l : Ln} (hl : fl ls n.b = some l) (hp : n.p = l.p) : (setl ls n).map (·.p) = ls.map (·.p) := by
  obtain ⟨hlm, hlb⟩ := fl_some hl
  unfold setl
  rw [List.map_map]
  refine List.map_congr_left fun y hy => ?_
  show (if y.b = n.b then n else y).p = y.p
  split
  · rename_i e
    rw [hp, map_inj h.nb hy hlm (by rw [e, hlb])]
  · rfl
theorem CaAt.setl_al (h : CaAt m c d cap mb pv zs po ls) {n l : Ln} (hl : fl ls n.b = some l) (hp : n.p = l.p) : al (setl ls n) = al ls := by
  obtain ⟨hlm, hlb⟩ := fl_some hl
  unfold setl al
  rw [List.map_map]
  refine List.map_congr_left fun y hy => ?_
  show (((if y.b = n.b then n else y).b, AV.ptr (if y.b = n.b then n else y).p 0) : Nat × AV) = (y.b, .ptr y.p 0)
  split
  · rename_i e
    rw [hp, ← e, map_inj h.nb hy hlm (by rw [e, hlb])]
  · rfl
theorem CaAt.setl {m' : M} {n l : Ln} (h : CaAt m c d cap mb pv zs po ls) (hw : Wf m) (hl : fl ls n.b = some l) (hp : n.p = l.p) (hk : Keep m m' fun b => b = n.p) (hln : At m' n.p ty_cache_line true [n.dv, .b n.dirty, iv n.pins]) (hda : BsAt m' n.dv n.dl n.db) (hd : n.db = l.db ∨ ¬ cOwn c mb po ls n.db ) : CaAt m' c d cap mb pv zs po (setl ls n) := by
  obtain ⟨hlm, hlb⟩ := fl_some hl
  have hcp : c ≠ n.p := fun e => h.cp l hlm (by rw [← hp, e])
  have hdc : n.db ≠ c := fun e => by
    rcases hd with hd | hd
    · exact (h.dw l hlm).1 (hd ▸ e)
    · exact hd (.inl e)
  have hdp : ∀ y ∈ ls, y.p ≠ n.db := fun y hy e => by
    rcases hd with hd | hd
    · exact (h.dw l hlm).2 y hy (hd ▸ e)
    · exact hd (.inr (.inr (.inr ⟨y, hy, .inl e⟩)))
  have hpp : ∀ y ∈ ls, y.b ≠ n.b → y.p ≠ n.p := fun y hy hb e => hb (by rw [map_inj h.np hy hlm (by rw [e, hp]), hlb])
  refine ⟨h.ca.keep hw hk hcp, ?_, fun x hx => ?_, fun x hx => ?_, h.pk.keep hw hk fun b hb e => (h.pw b hb).2 l hlm (by rw [e, hp]), ?_, ?_, fun x hx => ?_, fun x hx => ⟨?_, fun x' hx' => ?_⟩, fun b hb => ⟨(h.pw b hb).1, fun x hx => ?_⟩⟩
  · rw [h.setl_al hl hp]
    exact h.mp.keep hw hk fun e => ne_map (h.ln l hlm) h.mp (by rw [← hp, e])
  · obtain ⟨y, hy, ⟨e, rfl⟩ | ⟨e, rfl⟩⟩ := setl_mem hx
    · exact hln
    · exact (h.ln x hy).keep hw hk (hpp x hy e)
  · obtain ⟨y, hy, ⟨e, rfl⟩ | ⟨e, rfl⟩⟩ := setl_mem hx
    · exact hda
    · exact (h.da x hy).keep hw hk fun e' => (h.dw x hy).2 l hlm (by rw [← hp, e'])
  · rw [setl_b]; exact h.nb
  · rw [h.setl_p hl hp]; exact h.np
  · obtain ⟨y, hy, ⟨e, rfl⟩ | ⟨e, rfl⟩⟩ := setl_mem hx
    · exact fun e => hcp e.symm
    · exact h.cp x hy
  · obtain ⟨y, hy, ⟨e, rfl⟩ | ⟨e, rfl⟩⟩ := setl_mem hx
    · exact hdc
    · exact (h.dw x hy).1
  · obtain ⟨y, hy, ⟨e, rfl⟩ | ⟨e, rfl⟩⟩ := setl_mem hx <;> obtain ⟨y', hy', ⟨e', rfl⟩ | ⟨e', rfl⟩⟩ := setl_mem hx'
    · rw [hp]; exact hdp l hlm
    · exact hdp x' hy'
    · rw [hp]; exact (h.dw x hy).2 l hlm
    · exact (h.dw x hy).2 x' hy'
  · obtain ⟨y, hy, ⟨e, rfl⟩ | ⟨e, rfl⟩⟩ := setl_mem hx
    · rw [hp]; exact (h.pw b hb).2 l hlm
    · exact (h.pw b hb).2 x hy
theorem CaAt.addl2 {m' : M} {n : Ln} (h : CaAt m c d cap mb pv zs po ls) (hw : Wf m) (hk : Keep m m' fun b => b = mb ∨ b = n.p) (hm : MpAt m' mb (al (ls ++ [n]))) (hln : At m' n.p ty_cache_line true [n.dv, .b n.dirty, iv n.pins]) (hda : BsAt m' n.dv n.dl n.db) (hp : ¬ cOwn c mb po ls n.p) (hd : ¬ cOwn c mb po ls n.db) (hpd : n.p ≠ n.db) (hn : fl ls n.b = none) : CaAt m' c d cap mb pv zs po (ls ++ [n]) := by
  have hnb := fl_none hn
  refine ⟨h.ca.keep hw hk fun e => ?_, hm, fun l hl => ?_, fun l hl => ?_, h.pk.keep hw hk fun b hb e => ?_, ?_, ?_, fun l hl => ?_, fun l hl => ⟨?_, fun l' hl' => ?_⟩, fun b hb => ⟨(h.pw b hb).1, fun l hl => ?_⟩⟩
  · rcases e with e | e
    · exact ne_map h.ca h.mp e
    · exact hp (.inl e.symm)
  · rcases List.mem_append.1 hl with hl | hl
    · refine (h.ln l hl).keep hw hk fun e => ?_
      rcases e with e | e
      · exact ne_map (h.ln l hl) h.mp e
      · exact hp (.inr (.inr (.inr ⟨l, hl, .inl e⟩)))
    · cases List.mem_singleton.1 hl
      exact hln
  · rcases List.mem_append.1 hl with hl | hl
    · refine (h.da l hl).keep hw hk fun e => ?_
      rcases e with e | e
      · exact ne_mapB (h.da l hl) h.mp e
      · exact hp (.inr (.inr (.inr ⟨l, hl, .inr e⟩)))
    · cases List.mem_singleton.1 hl
      exact hda
  · have hp' := h.pk
    rw [hb] at hp'
    rcases e with e | e
    · exact ne_mapI hp' h.mp e
    · exact hp (.inr (.inr (.inl (e ▸ hb))))
  · rw [List.map_append, List.nodup_append]
    refine ⟨h.nb, by simp, fun a ha b hb => ?_⟩
    obtain ⟨l, hl, rfl⟩ := List.mem_map.1 ha
    cases List.mem_singleton.1 hb
    exact hnb l hl
  · rw [List.map_append, List.nodup_append]
    refine ⟨h.np, by simp, fun a ha b hb => ?_⟩
    obtain ⟨l, hl, rfl⟩ := List.mem_map.1 ha
    cases List.mem_singleton.1 hb
    exact fun e => hp (.inr (.inr (.inr ⟨l, hl, .inl e⟩)))
  · rcases List.mem_append.1 hl with hl | hl
    · exact h.cp l hl
    · cases List.mem_singleton.1 hl
      exact fun e => hp (.inl e)
  · rcases List.mem_append.1 hl with hl | hl
    · exact (h.dw l hl).1
    · cases List.mem_singleton.1 hl
      exact fun e => hd (.inl e)
  · rcases List.mem_append.1 hl with hl | hl <;> rcases List.mem_append.1 hl' with hl' | hl'
    · exact (h.dw l hl).2 l' hl'
    · cases List.mem_singleton.1 hl'
      exact fun e => hp (.inr (.inr (.inr ⟨l, hl, .inr e.symm⟩)))
    · cases List.mem_singleton.1 hl
      exact fun e => hd (.inr (.inr (.inr ⟨l', hl', .inl e⟩)))
    · cases List.mem_singleton.1 hl
      cases List.mem_singleton.1 hl'
      exact hpd
  · rcases List.mem_append.1 hl with hl | hl
    · exact (h.pw b hb).2 l hl
    · cases List.mem_singleton.1 hl
      exact fun e => hp (.inr (.inr (.inl (e ▸ hb))))
set_option maxHeartbeats 2000000 in
theorem put_tail {fr : Fr} {k p : Nat} {s : AV} {t : Bs} {bt : Nat} {A : Al} {x1 x2 x3 : AV} (e0 : ev (tm 0) fr = .ptr c 0) (e1 : ev (tm 1) fr = iv k) (e2 : ev (tm 2) fr = s) (hw : Wf m) (hc : At m c ty_cache_Cache true [.ptr d 0, iv cap, pv, .map mb]) (hm : MpAt m mb A) (hA : lkp A k = some (.ptr p 0)) (hp : At m p ty_cache_line true [x1, x2, x3]) (hs : BsAt m s t bt) (ht : t ≠ []) (ht1 : t.length ≤ 1000000) {Q : AV → M → Prop}
    (hQ0 : ∀ m' s' b', At m' p ty_cache_line true [s', .b true, x3] → BsAt m' s' t b' → Keep m m' (fun b => b = p) → m.next ≤ b' → Q (iv 0) m') :
    WpC Try.prog tb (.seq (.drawn r_Ca_Put_9 [(3, 0), (3, 14), (5, 0), (5, 14), (9, 0), (9, 14), (11, 0), (11, 14)]) (.seq (.reg r_Ca_Put_10) .ret)) fr m fun x fr' m' => (x = .normal ∨ x = .ret) ∧ ∃ l, ares Try.prog ⟨fr', m', [], none⟩ [.tmp 6] = some l ∧ Q (one l) m' := by
  refine C_sd fun Q' hQ => ?_
  simp only [r_Ca_Put_9, WpT_call, e0, e1, e2, hc.rd, hm.look, hA, Option.getD_some, o_look, WpT_op, WpT_call, WpTN_some, o_mv, o_load, o_nil, o_fa, v_elPtr, v_rto, v_nil, v_fa, ev_tm, evs_cons, evs_nil, putD_some, reduceIte, Nat.reduceEqDiff, Nat.zero_add, List.nil_append, List.cons_append, List.getElem?_cons_succ, List.getElem?_cons_zero]
  refine WpTC.to (cloneB_spec hw hs ht ht1 fun m1 s' b' hb hk1 hn => ?_)
  have hw1 := hk1.wf
  have hc1 := hc.keep hw hk1 fun h => h
  have hm1 := hm.keep hw hk1 fun h => h
  have hp1 := hp.keep hw hk1 fun h => h
  have hpl := hp.lt hw
  have hwr := hp1.wr (i := 0) (vs := [s']) (by show 0 + 1 ≤ 3; omega)
  have hup : At (m1.upd p 0 [s']) p ty_cache_line true [s', x2, x3] := hp1.upd (i := 0) (vs := [s']) (by show 0 + 1 ≤ 3; omega)
  have hk2 : Keep m1 (m1.upd p 0 [s']) fun b => b = p := Keep.upd hw1 fun _ => rfl
  simp only [hb.cells1, hwr, WpT_op, WpTN_some, o_store, o_nil, o_fa, v_elPtr, v_ob, v_nil, v_fa, cells_b, ev_tm, ev_cst, putD_none, putD_some, bc_true, nbeq, reduceIte, Nat.reduceEqDiff, List.length_cons, List.length_nil, Nat.zero_add, decide_true, List.nil_append, List.cons_append]
  generalize m1.upd p 0 [s'] = m2 at hup hk2 hwr ⊢
  have hw2 := hk2.wf
  have hwr2 := hup.wr (i := 1) (vs := [.b true]) (by show 1 + 1 ≤ 3; omega)
  have hup2 : At (m2.upd p 1 [.b true]) p ty_cache_line true [s', .b true, x3] := hup.upd (i := 1) (vs := [.b true]) (by show 1 + 1 ≤ 3; omega)
  have hk3 : Keep m2 (m2.upd p 1 [.b true]) fun b => b = p := Keep.upd hw2 fun _ => rfl
  simp only [hwr2, WpT_nil, WpTN_some, v_ob, putD_none, List.nil_append, List.cons_append]
  generalize m2.upd p 1 [.b true] = m3 at hup2 hk3 hwr2 ⊢
  refine hQ _ ⟨?_, _, rfl, ?_⟩
  · simp only [List.all_cons, List.all_nil, again0, want_none, r_Ca_Put_9, hc.rd, hm.look, hc1.rd, hm1.look, hA, Option.getD_some, show ∀ (b : Nat), aveq 40 (.map b) (.map b) = true from fun b => by simp [aveq, Nat.beq_refl], show ∀ (b o : Nat), aveq 40 (.ptr b o) (.ptr b o) = true from fun b o => by simp [aveq, Nat.beq_refl], o_look, o_load, v_elPtr, v_ob, v_rto, ev_tm, bc_true, reduceIte, Nat.reduceEqDiff, Bool.and_self, List.getElem?_cons_succ, List.getElem?_cons_zero]
  clear hQ
  refine C_sr fun Q' hQ => ?_
  simp only [r_Ca_Put_10, WpO_op, WpO_nil, WpON_some, o_mv, ev_cst, putD_some]
  refine hQ _ _ (WpC_ret ⟨.inr rfl, _, ares1, ?_⟩)
  simp only [ev_tm, one_1, reduceIte, Nat.reduceEqDiff]
  refine hQ0 m3 s' b' hup2 ((hb.keep hw1 hk2 (by omega)).keep hw2 hk3 (by omega)) ?_ hn
  exact ((hk1.mono fun _ _ h => h.elim).trans hk2 fun _ _ h => h).trans hk3 fun _ _ h => h
set_option maxHeartbeats 2000000 in
theorem put_spec (hw : Wf m) (h : CaAt m c d cap mb pv zs po ls) (hd : DevAt m d cb L fused dead fuse writes) (hcap : 1 ≤ cap) (hl : ls.length ≤ 1000000) (hb : ∀ l ∈ ls, l.b ≤ 1000000) (hcl : ∀ l ∈ ls, l.pins = 0 → l.dirty = false)
    {k : Nat} (hkL : k < L.length) {s : AV} {t : Bs} {bt : Nat} (hs : BsAt m s t bt) (h64 : t.length = 64) (hsc : bt ≠ c ∧ bt ≠ mb) (hsl : ∀ l ∈ ls, l.p ≠ bt) {Q : AV → M → Prop}
    (hQ1 : ∀ l, fl ls k = some l → ∀ m' n, n.b = k → n.p = l.p → n.pins = l.pins → n.dirty = true → n.dl = t → m.next ≤ n.db → CaAt m' c d cap mb pv zs po (setl ls n) → Keep m m' (fun b => b = l.p) → Q (iv 0) m')
    (hQ2 : fl ls k = none → ¬ ls.length < cap → (∀ l ∈ ls, 0 < l.pins) → ∀ m', Keep m m' (fun _ => False) → Q (iv 8) m')
    (hQ3 : fl ls k = none → ∀ m' ls0 n pv' zs', (ls.length < cap ∧ ls0 = ls ∨ ¬ ls.length < cap ∧ ∃ v ∈ ls, v.pins = 0 ∧ ls0 = rm ls v.b) → n.b = k → n.pins = 0 → n.dirty = true → n.dl = t → m.next ≤ n.p → m.next ≤ n.db → CaAt m' c d cap mb pv' zs' po (ls0 ++ [n]) → Keep m m' (fun b => b = c ∨ b = mb) → Q (iv 0) m') : WpF Try.prog tb fn_Ca_Put [.ptr c 0, iv k, s] m Q := by
  have ht0 : t ≠ [] := fun e => by rw [e] at h64; cases h64
  refine WpF_intro at_Ca_Put rfl rfl ?_
  unfold c_Ca_Put
  refine C_sr fun Q' hQ => ?_
  simp only [r_Ca_Put_0, WpO_op, WpO_nil, WpON_some, o_mv, ev_cst, putD_some, fill_cons, fill_nil, Nat.reduceAdd, Nat.zero_add]
  refine hQ _ _ (WpC_seq (C_sr fun Q' hQ => ?_))
  simp only [r_Ca_Put_1, WpO_op, WpO_call, WpON_some, o_mv, ev_tm, evs_cons, evs_nil, putD_some, reduceIte, Nat.reduceEqDiff]
  refine WpOC.to ((fits_spec h hd hkL hs h64).mono ?_)
  rintro v m' ⟨rfl, hm⟩
  rw [hm]
  clear hm m'
  simp only [WpO_op, WpO_nil, WpON_some, o_mv, ev_tm, putD_some, reduceIte, Nat.reduceEqDiff]
  refine hQ _ _ (C_sr fun Q' hQ => ?_)
  simp only [r_Ca_Put_2, WpO_op, WpO_nil, WpON_some, o_mv, o_ne, v_rto, b_ne, ev_tm, ev_cst, putD_some, reduceIte, Nat.reduceEqDiff, decide_true, Bool.not_true]
  refine hQ _ _ (WpC_cond (t := false) ?_ (WpC_skip (WpC_seq (C_sr fun Q' hQ => ?_))))
  · simp only [ev_tm, reduceIte, Nat.reduceEqDiff]
  cases hf : fl ls k with
  | some l =>
    obtain ⟨hlm, hlb⟩ := fl_some hf
    simp only [r_Ca_Put_4, h.ca.rd, h.mp.look, lkp_al, hf, Option.map_some, Option.getD_some, b_np63, WpO_op, o_look, WpO_nil, WpON_some, o_mv, o_load, o_nil, o_eqp, o_fa, v_elPtr, v_rto, v_nil, v_eqp_n, v_fa, ev_tm, ev_cst, putD_some, reduceIte, Nat.reduceEqDiff, Nat.zero_add, List.getElem?_cons_succ, List.getElem?_cons_zero]
    refine hQ _ _ (WpC_cond (t := false) ?_ (WpC_skip ?_))
    · simp only [ev_tm, reduceIte, Nat.reduceEqDiff]
    refine put_tail (k := k) (p := l.p) (s := s) (A := al ls) ?_ ?_ ?_ hw h.ca h.mp (by rw [lkp_al, hf]; rfl) (h.ln l hlm) hs ht0 (by omega) fun m' s' b' hln hb' hk hn => ?_
    · simp only [ev_tm, reduceIte, Nat.reduceEqDiff]
    · simp only [ev_tm, reduceIte, Nat.reduceEqDiff]
    · simp only [ev_tm, reduceIte, Nat.reduceEqDiff]
    have hbo : ¬ cOwn c mb po ls b' := fun hx => by have := h.lt hw hx; omega
    exact hQ1 l hf m' ⟨k, l.p, s', t, b', true, l.pins⟩ rfl rfl rfl rfl rfl hn (h.setl hw (n := ⟨k, l.p, s', t, b', true, l.pins⟩) hf rfl hk hln hb' (.inr hbo)) hk
  | none =>
    simp only [r_Ca_Put_4, h.ca.rd, h.mp.look, lkp_al, hf, Option.map_none, Option.getD_none, b_nn63, WpO_op, o_look, WpO_nil, WpON_some, o_mv, o_load, o_nil, o_eqp, o_fa, v_elPtr, v_rto, v_nil, v_eqp_nn, v_fa, ev_tm, ev_cst, putD_some, reduceIte, Nat.reduceEqDiff, Nat.zero_add, List.getElem?_cons_succ, List.getElem?_cons_zero]
    refine hQ _ _ (WpC_cond (t := true) ?_ (WpC_seq (C_sr fun Q' hQ => ?_)))
    · simp only [ev_tm, reduceIte, Nat.reduceEqDiff]
    simp only [r_Ca_Put_5, WpO_op, WpO_call, WpON_some, o_mv, ev_tm, evs_cons, evs_nil, putD_some, reduceIte, Nat.reduceEqDiff]
    have hR : WpF Try.prog tb fn_Ca_room [.ptr c 0] m fun v m1 => (v = iv 0 ∧ ∃ ls0 pv' zs', (ls.length < cap ∧ ls0 = ls ∨ ¬ ls.length < cap ∧ ∃ v ∈ ls, v.pins = 0 ∧ ls0 = rm ls v.b) ∧ fl ls0 k = none ∧ (∀ l ∈ ls0, l ∈ ls) ∧ CaAt m1 c d cap mb pv' zs' po ls0 ∧ Keep m m1 (fun b => b = c ∨ b = mb)) ∨ (v = iv 8 ∧ ¬ ls.length < cap ∧ (∀ l ∈ ls, 0 < l.pins) ∧ Keep m m1 (fun _ => False)) := by
      refine room_spec hw h hcap hl hb hcl (fun hlt => ?_) (fun hlt hall m1 hk1 => ?_) (fun hlt m1 l pv' zs' hlm hlp h1 hk1 => ?_)
      · exact .inl ⟨rfl, ls, pv, zs, .inl ⟨hlt, rfl⟩, hf, fun _ h => h, h, Keep.refl hw _⟩
      · exact .inr ⟨rfl, hlt, hall, hk1⟩
      · exact .inl ⟨rfl, _, pv', zs', .inr ⟨hlt, l, hlm, hlp, rfl⟩, rm_none hf, fun _ h => (rm_mem h).1, h1, hk1⟩
    refine WpOC.to (hR.mono ?_)
    rintro v m1 (⟨rfl, ls0, pv', zs', hls, hf0, hsub, h1, hk1⟩ | ⟨rfl, hlt, hall, hk1⟩)
    · have hw1 := hk1.wf
      have hn1 := hk1.next
      have hs1 := hs.keep hw hk1 fun hx => by
        rcases hx with hx | hx
        · exact hsc.1 hx
        · exact hsc.2 hx
      have hbm := hs.lt hw
      simp only [WpO_op, WpO_nil, WpON_some, o_mv, ev_tm, putD_some, reduceIte, Nat.reduceEqDiff]
      refine hQ _ _ (C_sr fun Q' hQ => ?_)
      simp only [r_Ca_Put_6, WpO_op, WpO_nil, WpON_some, o_mv, o_ne, v_rto, b_ne, ev_tm, ev_cst, putD_some, reduceIte, Nat.reduceEqDiff, decide_true, Bool.not_true]
      refine hQ _ _ (WpC_cond (t := false) ?_ (WpC_skip (C_reg fun Q' hQ => ?_)))
      · simp only [ev_tm, reduceIte, Nat.reduceEqDiff]
      have hk2 : Keep m1 (m1.addL ty_cache_line 3 [nils, .b false, iv 0]) fun _ => False := Keep.addL hw1
      have hP2 : At (m1.addL ty_cache_line 3 [nils, .b false, iv 0]) m1.next ty_cache_line true [nils, .b false, iv 0] := At.addL rfl
      have hn2 : (m1.addL ty_cache_line 3 [nils, .b false, iv 0]).next = m1.next + 1 := M.next_addL ..
      have h2 := h1.keep0 hw1 hk2
      obtain ⟨m3, hr3, hm3, hk3, hn3⟩ := h2.mp.upd hk2.wf k (.ptr m1.next 0)
      have hc1 : ∀ i, m1.rd c i = [AV.ptr d 0, iv cap, pv', .map mb][i]? := h1.ca.rd
      simp only [r_Ca_Put_8, hc1, hr3, WpO_op, o_mupd, WpO_nil, WpON_some, o_mv, o_box, o_build, o_load, o_nil, o_fa, v_elPtr, v_ob, v_rto, v_nil, v_fa, cells_agg, pv_nil, fillA_nil, ev_tm, putD_none, putD_some, reduceIte, Nat.reduceEqDiff, Nat.reduceAdd, List.length_cons, List.length_nil, Nat.zero_add, List.getElem?_cons_succ, List.getElem?_cons_zero]
      generalize m1.addL ty_cache_line 3 [nils, .b false, iv 0] = m2 at hk2 hP2 hn2 hk3 hn3 hr3 h2 ⊢
      have hw2 := hk2.wf
      have hw3 := hk3.wf
      have hpo : ¬ cOwn c mb po ls0 m1.next := fun hx => by have := h1.lt hw1 hx; omega
      have hc3 := h2.ca.keep hw2 hk3 (ne_map h2.ca h2.mp)
      have hP3 := hP2.keep hw2 hk3 (ne_map hP2 h2.mp)
      have hs3 := (hs1.keep hw1 hk2 fun h => h).keep hw2 hk3 hsc.2
      have hlk : lkp (putL (al ls0) k (.ptr m1.next 0)) k = some (.ptr m1.next 0) := by
        rw [put_al (l := ⟨k, m1.next, nils, [], 0, false, 0⟩) hf0 rfl rfl, lkp_al]
        unfold fl
        rw [List.find?_append, show List.find? (fun l : Ln => decide (l.b = k)) ls0 = none from hf0]
        simp
      refine hQ _ _ (put_tail (k := k) (p := m1.next) (s := s) ?_ ?_ ?_ hw3 hc3 hm3 hlk hP3 hs3 ht0 (by omega) fun m4 s' b' hln hb' hk4 hn4 => ?_)
      · simp only [ev_tm, reduceIte, Nat.reduceEqDiff]
      · simp only [ev_tm, reduceIte, Nat.reduceEqDiff]
      · simp only [ev_tm, reduceIte, Nat.reduceEqDiff]
      have hk24 : Keep m2 m4 fun b => b = mb ∨ b = m1.next := (hk3.mono fun _ _ h => .inl h).trans hk4 fun _ _ h => .inr h
      have hmp4 : MpAt m4 mb (putL (al ls0) k (.ptr m1.next 0)) := hm3.keep hw3 hk4 fun e => ne_map hP2 h2.mp e.symm
      have hbo : ¬ cOwn c mb po ls0 b' := fun hx => by have := h1.lt hw1 hx; omega
      have hnl := put_al (ls := ls0) (k := k) (p := m1.next) hf0 (l := ⟨k, m1.next, s', t, b', true, 0⟩) rfl rfl
      rw [hnl] at hmp4
      have h4 := h2.addl2 (n := ⟨k, m1.next, s', t, b', true, 0⟩) hw2 hk24 hmp4 hln hb' hpo hbo (by show m1.next ≠ b'; omega) hf0
      refine hQ3 hf m4 ls0 ⟨k, m1.next, s', t, b', true, 0⟩ pv' zs' hls rfl rfl rfl rfl hn1 (by show m.next ≤ b'; omega) h4 ?_
      have k12 : Keep m m2 (fun b => b = c ∨ b = mb) := hk1.trans hk2 fun _ _ h => h.elim
      exact k12.trans hk24 fun b hb e => by
        rcases e with e | e
        · exact .inr e
        · omega
    · simp only [WpO_op, WpO_nil, WpON_some, o_mv, ev_tm, putD_some, reduceIte, Nat.reduceEqDiff]
      refine hQ _ _ (C_sr fun Q' hQ => ?_)
      simp only [r_Ca_Put_6, show ((8 : Int) = 0) = False from eq_false (by omega), WpO_op, WpO_nil, WpON_some, o_mv, o_ne, v_rto, b_ne, ev_tm, ev_cst, putD_some, reduceIte, Nat.reduceEqDiff, decide_false, Bool.not_false]
      refine hQ _ _ (WpC_cond (t := true) ?_ (C_sr fun Q' hQ => ?_))
      · simp only [ev_tm, reduceIte, Nat.reduceEqDiff]
      simp only [r_Ca_Put_7, WpO_op, WpO_nil, WpON_some, o_mv, ev_tm, putD_some, reduceIte, Nat.reduceEqDiff]
      refine hQ _ _ (WpC_ret ⟨.inr rfl, _, ares1, ?_⟩)
      simp only [ev_tm, one_1, reduceIte, Nat.reduceEqDiff]
      exact hQ2 hf hlt hall m1 hk1
theorem pin_spec (hw : Wf m) (h : CaAt m c d cap mb pv zs po ls) (hd : DevAt m d cb L fused dead fuse writes) {k : Nat} (hkL : k < L.length) {l : Ln} (hf : fl ls k = some l) (hp : l.pins ≤ 1000000) {Q : AV → M → Prop}
    (hQ1 : ∀ m', CaAt m' c d cap mb pv zs po (setl ls { l with pins := l.pins + 1 }) → Keep m m' (fun b => b = l.p) → Q (iv 0) m') : WpF Try.prog tb fn_Ca_Pin [.ptr c 0, iv k] m Q := by
  obtain ⟨hlm, hlb⟩ := fl_some hf
  refine WpF_intro at_Ca_Pin rfl rfl ?_
  unfold c_Ca_Pin
  refine C_sr fun Q' hQ => ?_
  simp only [r_Ca_Pin_0, WpO_op, WpO_nil, WpON_some, o_mv, ev_cst, putD_some, fill_cons, fill_nil, Nat.reduceAdd, Nat.zero_add]
  refine hQ _ _ (C_sr fun Q' hQ => ?_)
  simp only [r_Ca_Pin_1, WpO_op, WpO_call, WpON_some, o_mv, ev_tm, evs_cons, evs_nil, putD_some, reduceIte, Nat.reduceEqDiff]
  refine WpOC.to ((heldl_spec h hd hkL).mono ?_)
  rintro v m' ⟨hv, hm⟩
  rw [hf] at hv
  subst hv
  rw [hm]
  clear hm m'
  simp only [WpO_op, WpO_nil, WpON_some, o_mv, o_ext, v_elTup, v_rto, ev_tm, putD_some, reduceIte, Nat.reduceEqDiff, List.getElem?_cons_succ, List.getElem?_cons_zero]
  refine hQ _ _ (WpC_seq (C_sr fun Q' hQ => ?_))
  simp only [r_Ca_Pin_2, WpO_op, WpO_nil, WpON_some, o_mv, o_eq, v_rto, b_eq, ev_tm, ev_cst, putD_some, reduceIte, Nat.reduceEqDiff, decide_true]
  refine hQ _ _ (WpC_cond (t := true) ?_ (C_reg fun Q' hQ => ?_))
  · simp only [ev_tm, reduceIte, Nat.reduceEqDiff]
  have hP := h.ln l hlm
  have hA : (l.pins : Int) + 1 = ((l.pins + 1 : Nat) : Int) := by omega
  have hwr := hP.wr (i := 2) (vs := [iv ((l.pins + 1 : Nat) : Int)]) (by show 2 + 1 ≤ 3; omega)
  have hup : At (m.upd l.p 2 [iv ((l.pins + 1 : Nat) : Int)]) l.p ty_cache_line true [l.dv, .b l.dirty, iv ((l.pins + 1 : Nat) : Int)] := hP.upd (i := 2) (vs := [iv ((l.pins + 1 : Nat) : Int)]) (by show 2 + 1 ≤ 3; omega)
  have hk2 : Keep m (m.upd l.p 2 [iv ((l.pins + 1 : Nat) : Int)]) fun b => b = l.p := Keep.upd hw fun _ => rfl
  simp only [r_Ca_Pin_3, hP.rd, b_add ty_int (show -9223372036854775808 ≤ (l.pins : Int) + 1 by omega) (show (l.pins : Int) + 1 ≤ 9223372036854775807 by omega), hA, hwr, WpO_op, WpO_nil, WpON_some, o_mv, o_load, o_store, o_nil, o_add, o_fa, v_elPtr, v_ob, v_rto, v_nil, v_fa, cells_iv, ev_tm, ev_cst, putD_none, putD_some, bc_true, nbeq, reduceIte, Nat.reduceEqDiff, List.length_cons, List.length_nil, Nat.zero_add, decide_true, List.getElem?_cons_succ, List.getElem?_cons_zero]
  refine hQ _ _ (C_sr fun Q' hQ => ?_)
  simp only [r_Ca_Pin_4, WpO_op, WpO_nil, WpON_some, o_mv, ev_tm, putD_some, reduceIte, Nat.reduceEqDiff]
  refine hQ _ _ (WpC_ret ⟨.inr rfl, _, ares1, ?_⟩)
  simp only [ev_tm, one_1, reduceIte, Nat.reduceEqDiff]
  exact hQ1 _ (h.setl hw (n := { l with pins := l.pins + 1 }) (l := l) (by show fl ls l.b = _; rw [hlb, hf]) rfl hk2 hup ((h.da l hlm).keep hw hk2 fun e => (h.dw l hlm).2 l hlm e.symm) (.inl rfl)) hk2
theorem unpin_spec (hw : Wf m) (h : CaAt m c d cap mb pv zs po ls) (hd : DevAt m d cb L fused dead fuse writes) {k : Nat} (hkL : k < L.length) {l : Ln} (hf : fl ls k = some l) (hp : l.pins ≤ 1000000) {Q : AV → M → Prop}
    (hQ0 : l.pins = 0 → Q (iv 11) m)
    (hQ1 : 0 < l.pins → ∀ m', CaAt m' c d cap mb pv zs po (setl ls { l with pins := l.pins - 1 }) → Keep m m' (fun b => b = l.p) → Q (iv 0) m') : WpF Try.prog tb fn_Ca_Unpin [.ptr c 0, iv k] m Q := by
  obtain ⟨hlm, hlb⟩ := fl_some hf
  have hP := h.ln l hlm
  refine WpF_intro at_Ca_Unpin rfl rfl ?_
  unfold c_Ca_Unpin
  refine C_sr fun Q' hQ => ?_
  simp only [r_Ca_Unpin_0, WpO_op, WpO_nil, WpON_some, o_mv, ev_cst, putD_some, fill_cons, fill_nil, Nat.reduceAdd, Nat.zero_add]
  refine hQ _ _ (C_sr fun Q' hQ => ?_)
  simp only [r_Ca_Unpin_1, WpO_op, WpO_call, WpON_some, o_mv, ev_tm, evs_cons, evs_nil, putD_some, reduceIte, Nat.reduceEqDiff]
  refine WpOC.to ((heldl_spec h hd hkL).mono ?_)
  rintro v m' ⟨hv, hm⟩
  rw [hf] at hv
  subst hv
  rw [hm]
  clear hm m'
  simp only [WpO_op, WpO_nil, WpON_some, o_mv, o_ext, v_elTup, v_rto, ev_tm, putD_some, reduceIte, Nat.reduceEqDiff, List.getElem?_cons_succ, List.getElem?_cons_zero]
  refine hQ _ _ (WpC_seq (WpC_block (C_sr fun Q' hQ => ?_)))
  simp only [r_Ca_Unpin_2, WpO_op, WpO_nil, WpON_some, o_mv, o_ne, v_rto, b_ne, ev_tm, ev_cst, putD_some, reduceIte, Nat.reduceEqDiff, decide_true, Bool.not_true]
  refine hQ _ _ (WpC_cond (t := false) ?_ (C_sr fun Q' hQ => ?_))
  · simp only [ev_tm, reduceIte, Nat.reduceEqDiff]
  by_cases h0 : l.pins = 0
  · simp only [r_Ca_Unpin_4, hP.rd, h0, show (((0 : Nat) : Int) = 0) = True from eq_true rfl, WpO_op, WpO_nil, WpON_some, o_mv, o_load, o_nil, o_eq, o_fa, v_elPtr, v_rto, v_nil, v_fa, b_eq, ev_tm, ev_cst, putD_some, reduceIte, Nat.reduceEqDiff, Nat.zero_add, decide_true, List.getElem?_cons_succ, List.getElem?_cons_zero]
    refine hQ _ _ (WpC_cond (t := true) ?_ (C_sr fun Q' hQ => ?_))
    · simp only [ev_tm, reduceIte, Nat.reduceEqDiff]
    simp only [r_Ca_Unpin_5, WpO_op, WpO_nil, WpON_some, o_mv, ev_cst, putD_some]
    refine hQ _ _ (WpC_ret ⟨.inr rfl, _, ares1, ?_⟩)
    simp only [ev_tm, one_1, reduceIte, Nat.reduceEqDiff]
    exact hQ0 h0
  · simp only [r_Ca_Unpin_4, hP.rd, show ((l.pins : Int) = 0) = False from eq_false (by omega), WpO_op, WpO_nil, WpON_some, o_mv, o_load, o_nil, o_eq, o_fa, v_elPtr, v_rto, v_nil, v_fa, b_eq, ev_tm, ev_cst, putD_some, reduceIte, Nat.reduceEqDiff, Nat.zero_add, decide_false, List.getElem?_cons_succ, List.getElem?_cons_zero]
    refine hQ _ _ (WpC_cond (t := false) ?_ (WpC_skip (C_sr fun Q' hQ => ?_)))
    · simp only [ev_tm, reduceIte, Nat.reduceEqDiff]
    have hA : (l.pins : Int) - 1 = ((l.pins - 1 : Nat) : Int) := by omega
    have hwr := hP.wr (i := 2) (vs := [iv ((l.pins - 1 : Nat) : Int)]) (by show 2 + 1 ≤ 3; omega)
    have hup : At (m.upd l.p 2 [iv ((l.pins - 1 : Nat) : Int)]) l.p ty_cache_line true [l.dv, .b l.dirty, iv ((l.pins - 1 : Nat) : Int)] := hP.upd (i := 2) (vs := [iv ((l.pins - 1 : Nat) : Int)]) (by show 2 + 1 ≤ 3; omega)
    have hk2 : Keep m (m.upd l.p 2 [iv ((l.pins - 1 : Nat) : Int)]) fun b => b = l.p := Keep.upd hw fun _ => rfl
    simp only [r_Ca_Unpin_6, hP.rd, b_sub ty_int (show -9223372036854775808 ≤ (l.pins : Int) - 1 by omega) (show (l.pins : Int) - 1 ≤ 9223372036854775807 by omega), hA, hwr, WpO_op, WpO_nil, WpON_some, o_mv, o_load, o_store, o_nil, o_sub, o_fa, v_elPtr, v_ob, v_rto, v_nil, v_fa, cells_iv, ev_tm, ev_cst, putD_none, putD_some, bc_true, nbeq, reduceIte, Nat.reduceEqDiff, List.length_cons, List.length_nil, Nat.zero_add, decide_true, List.getElem?_cons_succ, List.getElem?_cons_zero]
    refine hQ _ _ (C_sr fun Q' hQ => ?_)
    simp only [r_Ca_Unpin_7, WpO_op, WpO_nil, WpON_some, o_mv, ev_cst, putD_some]
    refine hQ _ _ (WpC_ret ⟨.inr rfl, _, ares1, ?_⟩)
    simp only [ev_tm, one_1, reduceIte, Nat.reduceEqDiff]
    exact hQ1 (by omega) _ (h.setl hw (n := { l with pins := l.pins - 1 }) (l := l) (by show fl ls l.b = _; rw [hlb, hf]) rfl hk2 hup ((h.da l hlm).keep hw hk2 fun e => (h.dw l hlm).2 l hlm e.symm) (.inl rfl)) hk2
theorem drop_spec (hw : Wf m) (h : CaAt m c d cap mb pv zs po ls) (hd : DevAt m d cb L fused dead fuse writes) {k : Nat} (hkL : k < L.length) {l : Ln} (hf : fl ls k = some l) {Q : AV → M → Prop}
    (hQ0 : 0 < l.pins → Q (iv 17) m)
    (hQ1 : l.pins = 0 → ∀ m', CaAt m' c d cap mb pv zs po (rm ls k) → Keep m m' (fun b => b = mb) → Q (iv 0) m') : WpF Try.prog tb fn_Ca_Drop [.ptr c 0, iv k] m Q := by
  obtain ⟨hlm, hlb⟩ := fl_some hf
  have hP := h.ln l hlm
  refine WpF_intro at_Ca_Drop rfl rfl ?_
  unfold c_Ca_Drop
  refine C_sr fun Q' hQ => ?_
  simp only [r_Ca_Drop_0, WpO_op, WpO_nil, WpON_some, o_mv, ev_cst, putD_some, fill_cons, fill_nil, Nat.reduceAdd, Nat.zero_add]
  refine hQ _ _ (C_sr fun Q' hQ => ?_)
  simp only [r_Ca_Drop_1, WpO_op, WpO_call, WpON_some, o_mv, ev_tm, evs_cons, evs_nil, putD_some, reduceIte, Nat.reduceEqDiff]
  refine WpOC.to ((heldl_spec h hd hkL).mono ?_)
  rintro v m' ⟨hv, hm⟩
  rw [hf] at hv
  subst hv
  rw [hm]
  clear hm m'
  simp only [WpO_op, WpO_nil, WpON_some, o_mv, o_ext, v_elTup, v_rto, ev_tm, putD_some, reduceIte, Nat.reduceEqDiff, List.getElem?_cons_succ, List.getElem?_cons_zero]
  refine hQ _ _ (WpC_seq (WpC_block (C_sr fun Q' hQ => ?_)))
  simp only [r_Ca_Drop_2, WpO_op, WpO_nil, WpON_some, o_mv, o_ne, v_rto, b_ne, ev_tm, ev_cst, putD_some, reduceIte, Nat.reduceEqDiff, decide_true, Bool.not_true]
  refine hQ _ _ (WpC_cond (t := false) ?_ (C_sr fun Q' hQ => ?_))
  · simp only [ev_tm, reduceIte, Nat.reduceEqDiff]
  by_cases h0 : l.pins = 0
  · simp only [r_Ca_Drop_4, hP.rd, h0, show ((0 : Int) < ((0 : Nat) : Int)) = False from eq_false (by omega), WpO_op, WpO_nil, WpON_some, o_mv, o_load, o_nil, o_gt, o_fa, v_elPtr, v_rto, v_nil, v_fa, b_gt, ev_tm, ev_cst, putD_some, reduceIte, Nat.reduceEqDiff, Nat.zero_add, decide_false, List.getElem?_cons_succ, List.getElem?_cons_zero]
    refine hQ _ _ (WpC_cond (t := false) ?_ (WpC_skip (C_sr fun Q' hQ => ?_)))
    · simp only [ev_tm, reduceIte, Nat.reduceEqDiff]
    obtain ⟨m1, hr1, hm1, hk1, hn1⟩ := h.mp.del hw k
    rw [del_al h.nb] at hm1
    simp only [r_Ca_Drop_6, h.ca.rd, hr1, WpO_op, o_mdel, WpO_nil, WpON_some, o_mv, o_load, o_nil, o_fa, v_elPtr, v_rto, v_nil, v_fa, ev_tm, putD_none, putD_some, reduceIte, Nat.reduceEqDiff, Nat.zero_add, List.getElem?_cons_succ, List.getElem?_cons_zero]
    refine hQ _ _ (C_sr fun Q' hQ => ?_)
    simp only [r_Ca_Drop_7, WpO_op, WpO_nil, WpON_some, o_mv, ev_cst, putD_some]
    refine hQ _ _ (WpC_ret ⟨.inr rfl, _, ares1, ?_⟩)
    simp only [ev_tm, one_1, reduceIte, Nat.reduceEqDiff]
    exact hQ1 h0 m1 (h.rmv hw hk1 hm1) hk1
  · simp only [r_Ca_Drop_4, hP.rd, show ((0 : Int) < (l.pins : Int)) = True from eq_true (by omega), WpO_op, WpO_nil, WpON_some, o_mv, o_load, o_nil, o_gt, o_fa, v_elPtr, v_rto, v_nil, v_fa, b_gt, ev_tm, ev_cst, putD_some, reduceIte, Nat.reduceEqDiff, Nat.zero_add, decide_true, List.getElem?_cons_succ, List.getElem?_cons_zero]
    refine hQ _ _ (WpC_cond (t := true) ?_ (C_sr fun Q' hQ => ?_))
    · simp only [ev_tm, reduceIte, Nat.reduceEqDiff]
    simp only [r_Ca_Drop_5, WpO_op, WpO_nil, WpON_some, o_mv, ev_cst, putD_some]
    refine hQ _ _ (WpC_ret ⟨.inr rfl, _, ares1, ?_⟩)
    simp only [ev_tm, one_1, reduceIte, Nat.reduceEqDiff]
    exact hQ0 (by omega)
end
end Go.Proofs.Ytmkbjcjlnidjiaa
