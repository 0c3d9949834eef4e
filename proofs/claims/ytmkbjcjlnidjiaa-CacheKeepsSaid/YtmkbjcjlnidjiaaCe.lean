import Derived.Test.YtmkbjcjlnidjiaaDy
import Derived.Test.YtmkbjcjlnidjiaaCaHs
set_option linter.unusedVariables false
set_option linter.unusedVariables false
/- A cache on a device, in memory: who is known, who goes, what is written. -/
namespace Go.Proofs.Ytmkbjcjlnidjiaa
open Go Go.Am
structure Cc where
  cap : Nat
  mb : Nat
  pv : AV
  zs : List Int
  po : Option Nat
  ls : List Ln
structure CcAt (m : M) (c d : Nat) (C : Cc) : Prop where
  old : CaAt m c d C.cap C.mb C.pv C.zs C.po C.ls
  dk : ∀ l ∈ C.ls, kd m l.db (ty_uint8 + 1)
  pk : ∀ b, C.po = some b → kd m b (ty_int + 1)
abbrev cacT : List Nat := [ty_cache_Cache + 1, ty_cache_line + 1]
/-- What a cache's calls may change, but for its map. -/
abbrev cdK : List Nat := [ty_cache_Cache + 1, ty_cache_line + 1, ty_device_Device + 1, ty_device_cell + 1, ty_suint8 + 1]
section
variable {m m' : M} {c d cb : Nat} {C : Cc} {D : Dv}
theorem CcAt.kp {E S : List Nat} (h : CcAt m c d C) (hw : Wf m) (k : KeepK m m' E S) (hS : C.mb ∉ S := by simp) (hE : ∀ x ∈ [ty_cache_Cache + 1, ty_cache_line + 1, ty_uint8 + 1, ty_int + 1], x ∉ E := by decide) (h0 : 0 ∉ E := by decide) : CcAt m' c d C := by
  refine ⟨h.old.keep hw k fun b hb => ?_, fun l hl => (h.dk l hl).kp hw k (hE _ (by simp)), fun b hb => (h.pk b hb).kp hw k (hE _ (by simp))⟩
  rcases hb with rfl | rfl | hb | ⟨l, hl, rfl | rfl⟩
  · exact Kinds.not h.old.ca.kd (hE _ (by simp)) (by decide)
  · rintro (⟨j, h1, h2⟩ | ⟨h1, _⟩)
    · exact h0 (h.old.mp.kd.inj h2 ▸ h1)
    · exact hS h1
  · exact Kinds.not (h.pk b hb) (hE _ (by simp)) (by decide)
  · exact Kinds.not (h.old.ln l hl).kd (hE _ (by simp)) (by decide)
  · exact Kinds.not (h.dk l hl) (hE _ (by simp)) (by decide)
theorem CcAt.k0 (h : CcAt m c d C) (hw : Wf m) (k : Keep m m' fun _ => False) : CcAt m' c d C := h.kp hw (E := []) (S := []) k.k0
theorem CcAt.da (h : CcAt m c d C) {l : Ln} (hl : l ∈ C.ls) : BtU m l.dv l.dl l.db := ⟨h.old.da l hl, h.dk l hl⟩
theorem CcAt.ne_c (h : CcAt m c d C) {b : Nat} (hb : cOwn c C.mb C.po C.ls b) {k : Nat} (hk : kd m b k) (h1 : k ≠ ty_cache_Cache + 1) : b ≠ c := fun e => by subst e; exact h1 (hk.inj h.old.ca.kd)
/-- Bounds: at most n writes wait at a block, w writes were done. -/
structure Dv.Lim (D : Dv) (n w : Nat) : Prop where
  wl : ∀ x ∈ D.L, x.wl.length ≤ n
  l64 : ∀ x ∈ D.L, x.last.2.1.length = 64
  len : D.L.length ≤ 1000000
  f1 : -(w : Int) ≤ D.fuse
  f2 : D.fuse ≤ 9223372036854775807
  w1 : 0 ≤ D.writes
  w2 : D.writes ≤ w
structure Cc.Lim (C : Cc) (D : Dv) : Prop where
  cap1 : 1 ≤ C.cap
  cap2 : C.cap ≤ 1000
  len : C.ls.length ≤ C.cap
  each : ∀ l ∈ C.ls, l.b < D.L.length ∧ l.dl.length = 64
theorem cknown (h : CcAt m c d C) (hd : DvAt m d cb D) {k : Nat} (hk : k < D.L.length) : Ran Try.prog tb fn_Ca_known [.ptr c 0, iv k] m (iv 0) m := by
  refine WpF.go at_Ca_known ?_
  simp -implicitDefEqProofs only [o_Ca_known, r_Ca_known_0, r_Ca_known_1, r_Ca_known_3, r_Ca_known_5, b_np28, h.old.ca.rd, show ((k : Int) < 0) = False from eq_false (by omega), (dblocks hd).eq, show ((D.L.length : Int) ≤ (k : Int)) = False from eq_false (by omega), o_mv, o_pick, o_load, o_nil, o_lt, o_ge, o_eqp, o_fa, v_elB, v_elPtr, v_rto, v_nil, v_eqp_n, v_fa, b_lt, b_ge, ev_tm, ev_cst, evs_cons, evs_nil, putD_some, fill_cons, fill_nil, want_b, bc_false, ↓reduceIte, Nat.reduceEqDiff, Nat.reduceAdd, Nat.zero_add, Nat.add_zero, decide_false, Bool.not_false, List.getElem?_cons_zero, GO_nil, GO_op, GO_opG, GO_callG, GN_some, GG_true, GFG_true, CK_app, GX_skip, GX_reg, GX_seq, GX_cond, GX_block, GX_ret, RK_app, SK_normal, GC_false, BK_normal, FK_ret1, and_self]
theorem cfits (h : CcAt m c d C) (hd : DvAt m d cb D) {k : Nat} (hk : k < D.L.length) {s : AV} {t : Bs} {b : Nat} (hs : BsAt m s t b) (h64 : t.length = 64) : Ran Try.prog tb fn_Ca_fits [.ptr c 0, iv k, s] m (iv 0) m := by
  refine WpF.go at_Ca_fits ?_
  simp -implicitDefEqProofs only [o_Ca_fits, r_Ca_fits_0, r_Ca_fits_1, r_Ca_fits_2, r_Ca_fits_4, (cknown h hd hk).eq, hs.len, h64, h.old.ca.rd, (dblock hd).eq, show (((64 : Nat) : Int) = 64) = True from eq_true (by omega), o_mv, o_pick, o_load, o_nil, o_eq, o_ne, o_fa, o_len, v_elB, v_elPtr, v_ob, v_rto, v_nil, v_fa, b_eq, b_ne, ev_tm, ev_cst, evs_cons, evs_nil, putD_some, fill_cons, fill_nil, want_b, bc_true, ↓reduceIte, Nat.reduceEqDiff, Nat.reduceAdd, Nat.zero_add, Nat.add_zero, decide_true, Bool.not_true, List.append_nil, List.getElem?_cons_zero, GO_nil, GO_op, GO_opG, GO_call, GO_callG, GN_some, GG_true, GF_func, GFG_true, CK_app, GX_skip, GX_reg, GX_seq, GX_cond, GX_ret, RK_app, SK_normal, GC_false, FK_ret1, and_self]
/-- The line of a number takes other values. -/
theorem CcAt.setl (h : CcAt m c d C) (hw : Wf m) {n l : Ln} (hl : fl C.ls n.b = some l) (hp : n.p = l.p) (hk : Keep m m' fun b => b = n.p) (hln : At m' n.p ty_cache_line true [n.dv, .b n.dirty, iv n.pins]) (hda : BtU m n.dv n.dl n.db) : CcAt m' c d { C with ls := setl C.ls n } := by
  have hpk : kd m n.p (ty_cache_line + 1) := by rw [hp]; exact (h.old.ln l (fl_some hl).1).kd
  have hne : ∀ {b k}, kd m b k → k ≠ ty_cache_line + 1 → ¬ b = n.p := fun hb hk e => by subst e; exact hk (hb.inj hpk)
  have hda' := hda.keep hw hk (hne hda.kd (by decide))
  refine ⟨?_, fun x hx => ?_, fun b hb => (h.pk b hb).of_get (hk.get b ((h.pk b hb).lt hw) (hne (h.pk b hb) (by decide)))⟩
  · refine ⟨h.old.ca.keep hw hk (hne h.old.ca.kd (by decide)), ?_, fun x hx => ?_, fun x hx => ?_, h.old.pk.keep hw hk fun b hb => hne (h.pk b hb) (by decide), ?_, ?_, fun x hx => ?_, fun x hx => ⟨?_, fun y hy => ?_⟩, fun b hb => ⟨(h.old.pw b hb).1, fun x hx => ?_⟩⟩
    · rw [h.old.setl_al hl hp]
      exact h.old.mp.keep hw hk (hne h.old.mp.kd (by decide))
    · obtain ⟨y, hy, ⟨_, rfl⟩ | ⟨e, rfl⟩⟩ := setl_mem hx
      · exact hln
      · refine (h.old.ln x hy).keep hw hk fun e2 => e ?_
        have : x = l := by
          rw [hp] at e2
          exact map_inj h.old.np hy (fl_some hl).1 e2
        rw [this]; exact (fl_some hl).2
    · obtain ⟨y, hy, ⟨_, rfl⟩ | ⟨e, rfl⟩⟩ := setl_mem hx
      · exact hda'.bs
      · exact (h.old.da x hy).keep hw hk (hne (h.dk x hy) (by decide))
    · rw [setl_b]; exact h.old.nb
    · rw [h.old.setl_p hl hp]; exact h.old.np
    · obtain ⟨y, hy, ⟨_, rfl⟩ | ⟨e, rfl⟩⟩ := setl_mem hx
      · rw [hp]; exact h.old.cp l (fl_some hl).1
      · exact h.old.cp x hy
    · obtain ⟨y, hy, ⟨_, rfl⟩ | ⟨e, rfl⟩⟩ := setl_mem hx
      · exact hda.kd.ne h.old.ca.kd
      · exact (h.dk x hy).ne h.old.ca.kd
    · have hxk : kd m x.db (ty_uint8 + 1) := by
        obtain ⟨z, hz, ⟨_, rfl⟩ | ⟨e, rfl⟩⟩ := setl_mem hx
        · exact hda.kd
        · exact h.dk x hz
      have hyk : kd m y.p (ty_cache_line + 1) := by
        obtain ⟨z, hz, ⟨_, rfl⟩ | ⟨e, rfl⟩⟩ := setl_mem hy
        · exact hpk
        · exact (h.old.ln y hz).kd
      exact hyk.ne hxk
    · have hyk : kd m x.p (ty_cache_line + 1) := by
        obtain ⟨z, hz, ⟨_, rfl⟩ | ⟨e, rfl⟩⟩ := setl_mem hx
        · exact hpk
        · exact (h.old.ln x hz).kd
      exact hyk.ne (h.pk b hb)
  · obtain ⟨y, hy, ⟨_, rfl⟩ | ⟨e, rfl⟩⟩ := setl_mem hx
    · exact hda'.kd
    · exact (h.dk x hy).of_get (hk.get _ ((h.dk x hy).lt hw) (hne (h.dk x hy) (by decide)))
theorem CcAt.linek (h : CcAt m c d C) {l : Ln} (hl : l ∈ C.ls) : kd m l.p (ty_cache_line + 1) := (h.old.ln l hl).kd
theorem cwrite_clean (h : CcAt m c d C) {k : Nat} {l : Ln} (hf : fl C.ls k = some l) (hd : l.dirty = false) : Ran Try.prog tb fn_Ca_write [.ptr c 0, iv k] m (iv 0) m := by
  refine WpF.go at_Ca_write ?_
  simp -implicitDefEqProofs only [o_Ca_write, r_Ca_write_0, r_Ca_write_1, r_Ca_write_2, r_Ca_write_3, h.old.ca.rd, h.old.mp.look, lkp_al, hf, Option.map_some, Option.getD_some, b_np63, (h.old.ln l (fl_some hf).1).rd, hd, o_look, o_mv, o_pick, o_load, o_nil, o_eqp, o_un, o_fa, v_elB, v_elPtr, v_rto, v_nil, v_eqp_n, v_not, v_fa, ev_tm, ev_cst, putD_some, fill_cons, fill_nil, want_b, bc_false, ↓reduceIte, Nat.reduceEqDiff, Nat.reduceAdd, Nat.zero_add, Bool.not_false, List.getElem?_cons_succ, List.getElem?_cons_zero, GO_nil, GO_op, GO_opG, GN_some, GG_true, GX_reg, GX_seq, GX_cond, GX_ret, RK_app, SK_normal, SK_ret, GC_true, FK_ret1, and_self]
theorem cwrite_none (h : CcAt m c d C) {k : Nat} (hf : fl C.ls k = none) : Ran Try.prog tb fn_Ca_write [.ptr c 0, iv k] m (iv 0) m := by
  refine WpF.go at_Ca_write ?_
  simp -implicitDefEqProofs only [o_Ca_write, r_Ca_write_0, r_Ca_write_1, r_Ca_write_2, r_Ca_write_3, h.old.ca.rd, h.old.mp.look, lkp_al, hf, Option.map_none, Option.getD_none, b_nn63, o_look, o_mv, o_pick, o_load, o_nil, o_eqp, o_fa, v_elB, v_elPtr, v_rto, v_nil, v_eqp_nn, v_fa, ev_tm, ev_cst, putD_some, fill_cons, fill_nil, want_b, bc_true, ↓reduceIte, Nat.reduceEqDiff, Nat.reduceAdd, Nat.zero_add, Bool.not_false, List.getElem?_cons_succ, List.getElem?_cons_zero, GO_nil, GO_op, GO_opG, GN_some, GG_false, GX_reg, GX_seq, GX_cond, GX_ret, RK_app, SK_normal, SK_ret, GC_true, FK_ret1, and_self]
theorem cwrite_dead (hw : Wf m) (h : CcAt m c d C) (hd : DvAt m d cb D) (hdies : D.dies = true) (hC : C.Lim D) {k : Nat} {l : Ln} (hf : fl C.ls k = some l) (hl : l.dirty = true) :
    ∃ m', CcAt m' c d C ∧ DvAt m' d cb { D with dead := true } ∧ KeepK m m' cdK ∧ Ran Try.prog tb fn_Ca_write [.ptr c 0, iv k] m (iv 7) m' := by
  obtain ⟨hlm, hlb⟩ := fl_some hf
  obtain ⟨hl1, hl2⟩ := hC.each l hlm
  obtain ⟨m1, hd1, k1, r1⟩ := dwrite_dead hw hd hdies (k := k) (by omega) (h.da hlm).bs hl2
  have hw1 := k1.wf
  have h1 := h.kp hw k1
  obtain ⟨m2, e2, hl2', k2, n2⟩ := (h1.old.ln l hlm).st hw1 1 [.b true]
  have kl := k2.k1 (E := [ty_cache_line + 1]) (S := []) (h1.linek hlm)
  have hset : setl C.ls l = C.ls := by
    unfold setl
    rw [List.map_congr_left (g := id)]
    · simp
    · intro x hx
      by_cases e : x.b = l.b
      · rw [if_pos e]; exact (map_inj h.old.nb hx hlm e).symm
      · rw [if_neg e]; rfl
  have h2 : CcAt m2 c d { C with ls := setl C.ls l } := h1.setl hw1 (n := l) (fl_mem h.old.nb hlm) rfl k2 (by rw [hl]; exact hl2') (h1.da hlm)
  rw [hset] at h2
  refine ⟨m2, h2, hd1.kp hw1 kl, (k1.sub (G := cdK)).tk kl, ?_⟩
  have q0 : ∀ b o : Nat, True := fun _ _ => trivial
  refine WpF.go at_Ca_write ?_
  simp -implicitDefEqProofs only [o_Ca_write, r_Ca_write_0, r_Ca_write_1, r_Ca_write_2, r_Ca_write_4, r_Ca_write_5, r_Ca_write_6, h.old.ca.rd, h.old.mp.look, lkp_al, hf, Option.map_some, Option.getD_some, b_np63, (h.old.ln l hlm).rd, hl, r1.eq, (h.da hlm).bs.aq, show ((7 : Int) = 0) = False from eq_false (by omega), e2, o_look, o_mv, o_pick, o_load, o_store, o_nil, o_ne, o_eqp, o_un, o_fa, v_elB, v_elPtr, v_ob, v_rto, v_nil, v_eqp_n, v_not, v_fa, b_ne, cells_b, ev_tm, ev_cst, evs_cons, evs_nil, putD_none, putD_some, fill_cons, fill_nil, want_b, bc_true, bc_false, nbeq, ↓reduceIte, Nat.reduceEqDiff, Nat.reduceAdd, List.length_cons, List.length_nil, Nat.zero_add, Nat.add_zero, decide_true, decide_false, Bool.and_self, Bool.not_true, Bool.not_false, List.nil_append, List.cons_append, List.getElem?_cons_succ, List.getElem?_cons_zero, GO_nil, GO_op, GO_opG, GN_some, GG_true, GT_nil, GT_op, GT_call, TN_some, TK_app, GX_skip, GX_reg, GX_drawn, GX_seq, GX_cond, GX_ret, RK_app, DK_app, SK_normal, GC_false, FK_ret1, lastT_1, lastT_c, again0_at, List.all_cons, List.all_nil, want_none, aq_ptr, Option.some.injEq, exists_eq_left', and_self, Option.some.injEq]
theorem cwrite_ok (hw : Wf m) (h : CcAt m c d C) (hd : DvAt m d cb D) (hdies : D.dies = false) (hC : C.Lim D) {n w : Nat} (hD : D.Lim n w) (hn : n < 400) (hw9 : w ≤ 1000000000) {k : Nat} {l : Ln} (hf : fl C.ls k = some l) (hl : l.dirty = true) {x : Cw} (hx : D.L[k]? = some x) :
    ∃ m' x', x.Push m.next x' l.dl ∧ CcAt m' c d { C with ls := setl C.ls { l with dirty := false } } ∧ DvAt m' d cb { D with L := D.L.set k x', fuse := D.fuse - 1, writes := D.writes + 1 } ∧ KeepK m m' cdK ∧ Ran Try.prog tb fn_Ca_write [.ptr c 0, iv k] m (iv 0) m' := by
  obtain ⟨hlm, hlb⟩ := fl_some hf
  obtain ⟨hl1, hl2⟩ := hC.each l hlm
  have := hD.f1
  have := hD.w2
  obtain ⟨m1, x', hp, hd1, k1, r1⟩ := dwrite_ok hw hd hdies (by omega) hD.f2 hD.w1 (by omega) hx (by have := hD.wl x (List.mem_of_getElem? hx); omega) (h.da hlm) hl2
  have hw1 := k1.wf
  have h1 := h.kp hw k1
  obtain ⟨m2, e2, hl2', k2, n2⟩ := (h1.old.ln l hlm).st hw1 1 [.b false]
  have kl := k2.k1 (E := [ty_cache_line + 1]) (S := []) (h1.linek hlm)
  refine ⟨m2, x', hp, h1.setl hw1 (n := { l with dirty := false }) (l := l) (fl_mem h.old.nb hlm) rfl k2 hl2' (CcAt.da (l := l) h1 hlm), hd1.kp hw1 kl, (k1.sub (G := cdK)).tk kl, ?_⟩
  refine WpF.go at_Ca_write ?_
  simp -implicitDefEqProofs only [o_Ca_write, r_Ca_write_0, r_Ca_write_1, r_Ca_write_2, r_Ca_write_4, r_Ca_write_5, r_Ca_write_6, h.old.ca.rd, h.old.mp.look, lkp_al, hf, Option.map_some, Option.getD_some, b_np63, (h.old.ln l hlm).rd, hl, r1.eq, (h.da hlm).bs.aq, e2, o_look, o_mv, o_pick, o_load, o_store, o_nil, o_ne, o_eqp, o_un, o_fa, v_elB, v_elPtr, v_ob, v_rto, v_nil, v_eqp_n, v_not, v_fa, b_ne, cells_b, ev_tm, ev_cst, evs_cons, evs_nil, putD_none, putD_some, fill_cons, fill_nil, want_b, bc_true, bc_false, nbeq, ↓reduceIte, Nat.reduceEqDiff, Nat.reduceAdd, List.length_cons, List.length_nil, Nat.zero_add, Nat.add_zero, decide_true, Bool.and_self, Bool.not_true, Bool.not_false, List.nil_append, List.cons_append, List.getElem?_cons_succ, List.getElem?_cons_zero, GO_nil, GO_op, GO_opG, GN_some, GG_true, GT_nil, GT_op, GT_call, TN_some, TK_app, GX_skip, GX_reg, GX_drawn, GX_seq, GX_cond, GX_ret, RK_app, DK_app, SK_normal, GC_false, FK_ret1, lastT_1, lastT_c, again0_at, List.all_cons, List.all_nil, want_none, aq_ptr, Option.some.injEq, exists_eq_left', and_self, Option.some.injEq]
end
end Go.Proofs.Ytmkbjcjlnidjiaa
set_option linter.unusedVariables false
set_option linter.unusedVariables false
/- A cache on a device: room, Get, Put. -/
namespace Go.Proofs.Ytmkbjcjlnidjiaa
open Go Go.Am
/-- One write was done. -/
def Wr (D D' : Dv) (k : Nat) (t : Bs) : Prop := ∃ x x' m0, D.L[k]? = some x ∧ x.Push m0 x' t ∧ D' = { D with L := D.L.set k x', fuse := D.fuse - 1, writes := D.writes + 1 }
/-- The rows of bytes that a cache and a device own. -/
def uOwn (C : Cc) (D : Dv) (b : Nat) : Prop := (∃ l ∈ C.ls, l.db = b) ∨ ∃ x ∈ D.L, x.ab = b ∨ ∃ e ∈ x.wl, e.2.2 = b
/-- What is owned now was, or is new. -/
def Grow (n0 : Nat) (C : Cc) (D : Dv) (C' : Cc) (D' : Dv) : Prop := ∀ b, uOwn C' D' b → uOwn C D b ∨ n0 ≤ b
theorem Grow.refl {n0 : Nat} {C : Cc} {D : Dv} : Grow n0 C D C D := fun _ h => .inl h
theorem Grow.trans {n0 n1 : Nat} {C C1 C2 : Cc} {D D1 D2 : Dv} (h : Grow n0 C D C1 D1) (k : Grow n1 C1 D1 C2 D2) (hn : n0 ≤ n1) : Grow n0 C D C2 D2 := fun b hb => by
  rcases k b hb with hb | hb
  · exact h b hb
  · exact .inr (by omega)
theorem Grow.lines {n0 : Nat} {C C' : Cc} {D : Dv} (h : ∀ l ∈ C'.ls, (∃ l' ∈ C.ls, l'.db = l.db) ∨ n0 ≤ l.db) : Grow n0 C D C' D := fun b hb => by
  rcases hb with ⟨l, hl, rfl⟩ | hb
  · rcases h l hl with ⟨l', hl', e⟩ | h
    · exact .inl (.inl ⟨l', hl', e⟩)
    · exact .inr h
  · exact .inl (.inr hb)
theorem Grow.push {n0 : Nat} {C : Cc} {D D' : Dv} {k : Nat} {x x' : Cw} {t : Bs} (hx : D.L[k]? = some x) (hp : x.Push n0 x' t) (hD : D'.L = D.L.set k x') : Grow n0 C D C D' := fun b hb => by
  rcases hb with hb | ⟨y, hy, hb⟩
  · exact .inl (.inl hb)
  · rw [hD] at hy
    rcases List.mem_or_eq_of_mem_set hy with hy | rfl
    · exact .inl (.inr ⟨y, hy, hb⟩)
    · obtain ⟨s, b', e, hb'⟩ := hp.wl
      rcases hb with hb | ⟨z, hz, hb⟩
      · exact .inl (.inr ⟨x, List.mem_of_getElem? hx, .inl (hp.ab.symm.trans hb)⟩)
      · rw [e] at hz
        rcases List.mem_append.1 hz with hz | hz
        · exact .inl (.inr ⟨x, List.mem_of_getElem? hx, .inr ⟨z, hz, hb⟩⟩)
        · cases List.mem_singleton.1 hz
          exact .inr (by rw [← hb]; exact hb')
/-- A block went. -/
def Ev (C : Cc) (D : Dv) (C' : Cc) (D' : Dv) : Prop := ∃ v ∈ C.ls, v.pins = 0 ∧ C'.ls = rm C.ls v.b ∧ C'.cap = C.cap ∧ C'.mb = C.mb ∧ C'.po = C.po ∧ (v.dirty = false ∧ D' = D ∨ v.dirty = true ∧ D.dies = false ∧ Wr D D' v.b v.dl)
def Rm (C : Cc) (D : Dv) (C' : Cc) (D' : Dv) : Prop := (C.ls.length < C.cap ∧ C' = C ∧ D' = D) ∨ (¬ C.ls.length < C.cap ∧ Ev C D C' D')
theorem rm_setl {ls : List Ln} {n : Ln} {k : Nat} (hk : n.b = k) : rm (setl ls n) k = rm ls k := by
  subst hk
  unfold rm setl
  induction ls with
  | nil => rfl
  | cons x ls ih =>
    rw [List.map_cons, List.filter_cons, List.filter_cons, ih]
    by_cases e : x.b = n.b
    · simp [e]
    · simp [e]
section
variable {m m' : M} {c d cb : Nat} {C : Cc} {D : Dv}
theorem CcAt.rmv {k : Nat} (h : CcAt m c d C) (hw : Wf m) (hk : Keep m m' fun b => b = C.mb) (hm : MpAt m' C.mb (al (rm C.ls k))) : CcAt m' c d { C with ls := rm C.ls k } :=
  ⟨h.old.rmv hw hk hm, fun l hl => (h.dk l (rm_mem hl).1).of_get (hk.get _ ((h.dk l (rm_mem hl).1).lt hw) fun e => absurd ((h.dk l (rm_mem hl).1).inj (e ▸ h.old.mp.kd)) (by decide)),
    fun b hb => (h.pk b hb).of_get (hk.get _ ((h.pk b hb).lt hw) fun e => absurd ((h.pk b hb).inj (e ▸ h.old.mp.kd)) (by decide))⟩
set_option maxHeartbeats 1000000 in
theorem croom (hw : Wf m) (h : CcAt m c d C) (hd : DvAt m d cb D) (hC : C.Lim D) {n w : Nat} (hD : D.Lim n w) (hn : n < 400) (hw9 : w ≤ 1000000000) {Q : AV → M → Prop}
    (hQ1 : ∀ m' C' D', Rm C D C' D' → CcAt m' c d C' → DvAt m' d cb D' → KeepK m m' cdK [C.mb] → Grow m.next C D C' D' → Q (iv 0) m')
    (hQ2 : (∀ l ∈ C.ls, 0 < l.pins) → ¬ C.ls.length < C.cap → ∀ m', CcAt m' c d C → DvAt m' d cb D → KeepK m m' cdK [C.mb] → Q (iv 8) m')
    (hQ3 : D.dies = true → (∃ l ∈ C.ls, l.pins = 0 ∧ l.dirty = true) → ¬ C.ls.length < C.cap → ∀ m' C', C'.ls = C.ls → C'.cap = C.cap → C'.mb = C.mb → CcAt m' c d C' → DvAt m' d cb { D with dead := true } → KeepK m m' cdK [C.mb] → Q (iv 7) m') : WpF Try.prog tb fn_Ca_room [.ptr c 0] m Q := by
  have hml := h.old.mp.mlen
  rw [len_al] at hml
  have hc2 := hC.cap2
  have hc1 := hC.cap1
  have hlen := hC.len
  have hbig : ∀ l ∈ C.ls, l.b ≤ 1000000 := fun l hl => by have := (hC.each l hl).1; have := hD.len; omega
  refine WpF.go at_Ca_room ?_
  by_cases hlt : C.ls.length < C.cap
  · simp -implicitDefEqProofs only [o_Ca_room, r_Ca_room_0, r_Ca_room_1, r_Ca_room_2, h.old.ca.rd, hml, show ((C.ls.length : Int) < (C.cap : Int)) = True from eq_true (by omega), o_mlen, o_mv, o_load, o_nil, o_lt, o_fa, v_elPtr, v_ob, v_rto, v_nil, v_fa, b_lt, ev_tm, ev_cst, putD_some, fill_cons, fill_nil, bc_true, ↓reduceIte, Nat.reduceEqDiff, Nat.zero_add, decide_true, Bool.and_self, List.nil_append, List.cons_append, List.getElem?_cons_succ, List.getElem?_cons_zero, GO_nil, GO_op, GN_some, GT_nil, GT_op, TN_some, GX_reg, GX_drawn, GX_seq, GX_cond, GX_ret, RK_app, DK_app, SK_normal, SK_ret, GC_true, FK_ret1, lastT_1, lastT_c, again0_at, List.all_cons, List.all_nil, want_none, aq_iv, aq_map, Option.some.injEq, exists_eq_left', true_and, Option.some.injEq]
    exact hQ1 m C D (.inl ⟨hlt, rfl, rfl⟩) h hd (Keep.refl hw _) .refl
  have h0 : C.ls ≠ [] := fun e => by rw [e] at hlt; simp at hlt; omega
  simp -implicitDefEqProofs only [o_Ca_room, r_Ca_room_0, r_Ca_room_1, r_Ca_room_3, h.old.ca.rd, hml, show ((C.ls.length : Int) < (C.cap : Int)) = False from eq_false (by omega), o_mlen, o_mv, o_load, o_nil, o_lt, o_fa, v_elPtr, v_ob, v_rto, v_nil, v_fa, b_lt, ev_tm, ev_cst, evs_cons, evs_nil, putD_some, fill_cons, fill_nil, bc_true, ↓reduceIte, Nat.reduceEqDiff, Nat.zero_add, decide_false, Bool.and_self, List.nil_append, List.cons_append, List.append_nil, List.getElem?_cons_succ, List.getElem?_cons_zero, GO_nil, GO_op, GO_call, GN_some, GF_func, GT_nil, GT_op, TN_some, GX_skip, GX_reg, GX_drawn, GX_seq, GX_cond, RK_app, DK_app, SK_normal, GC_false, lastT_1, lastT_c, again0_at, List.all_cons, List.all_nil, want_none, aq_iv, aq_map, Option.some.injEq, exists_eq_left', true_and, Option.some.injEq]
  refine victim_spec hw h.old h0 (by omega) hbig (fun hall m1 k1 => ?_) (fun m1 l pv' zs' hlm hlp h1 k1 => ?_)
  · simp -implicitDefEqProofs only [o_Ca_room, r_Ca_room_4, r_Ca_room_5, o_mv, o_un, o_ext, v_elTup, v_rto, v_not, ev_tm, ev_cst, putD_some, ↓reduceIte, Nat.reduceEqDiff, Bool.not_false, List.getElem?_cons_succ, List.getElem?_cons_zero, GO_nil, GO_op, GN_some, CK_app, GX_reg, GX_seq, GX_cond, GX_ret, RK_app, SK_normal, SK_ret, GC_true, FK_ret1]
    exact hQ2 hall hlt m1 (h.k0 hw k1) (hd.k0 hw k1) k1.k0
  have hw1 := k1.wf
  have kk1 := k1.k1 (E := [ty_cache_Cache + 1]) (S := []) h.old.ca.kd
  have hc1 : CcAt m1 c d { C with pv := pv', zs := zs' } := ⟨h1, fun l hl => (h.dk l hl).kp hw kk1, fun b hb => (h.pk b hb).kp hw kk1⟩
  have hd1 := hd.kp hw kk1
  have hf : fl C.ls l.b = some l := fl_mem h.old.nb hlm
  have hlL := (hC.each l hlm).1
  have fin : ∀ m2 C2 D2, CcAt m2 c d C2 → DvAt m2 d cb D2 → KeepK m m2 cdK [C.mb] → C2.mb = C.mb → C2.cap = C.cap → C2.po = C.po → Grow m.next C D C2 D2 → rm C2.ls l.b = rm C.ls l.b → (l.dirty = false ∧ D2 = D ∨ l.dirty = true ∧ D.dies = false ∧ Wr D D2 l.b l.dl) →
      ∃ m3, rMDel (some .i64) (.cst (.map C.mb)) (.cst (iv l.b)) .leaf m2 = some (AV.undef, m3) ∧ Q (iv 0) m3 := by
    intro m2 C2 D2 h2 hd2 k2 e1 e2 e4 hgr e3 hout
    obtain ⟨m3, hr3, hm3, k3, n3⟩ := h2.old.mp.del k2.wf l.b
    rw [e1] at hr3
    refine ⟨m3, hr3, hQ1 m3 { C2 with ls := rm C2.ls l.b } D2 (.inr ⟨hlt, l, hlm, hlp, e3, e2, e1, e4, hout⟩) ?_ ?_ ?_ (hgr.trans (n1 := m.next) (.lines fun l' hl' => .inl ⟨l', (rm_mem hl').1, rfl⟩) (Nat.le_refl _))⟩
    · rw [del_al h2.old.nb] at hm3
      exact h2.rmv k2.wf k3 hm3
    · exact hd2.kp k2.wf (E := []) (S := [C2.mb]) (k3.km h2.old.mp.kd)
    · exact k2.tk (G := []) (R := [C2.mb]) (k3.km h2.old.mp.kd) (by simp) (by simp [e1])
  cases hdl : l.dirty with
  | false =>
    obtain ⟨m3, hr3, hq⟩ := fin m1 _ D hc1 hd1 (kk1.sub) rfl rfl rfl (.lines fun l' hl' => .inl ⟨l', hl', rfl⟩) rfl (.inl ⟨hdl, rfl⟩)
    have hca := h1.ca.rd
    simp -implicitDefEqProofs only [o_Ca_room, r_Ca_room_4, r_Ca_room_6, r_Ca_room_7, r_Ca_room_9, r_Ca_room_10, (cwrite_clean hc1 hf hdl).eq, hca, hr3, o_mdel, o_mv, o_load, o_nil, o_ne, o_un, o_fa, o_ext, v_elPtr, v_elTup, v_rto, v_nil, v_not, v_fa, b_ne, ev_tm, ev_cst, evs_cons, evs_nil, putD_none, putD_some, ↓reduceIte, Nat.reduceEqDiff, Nat.zero_add, decide_true, Bool.not_true, List.append_nil, List.getElem?_cons_succ, List.getElem?_cons_zero, GO_nil, GO_op, GO_call, GN_some, GF_func, CK_app, GX_skip, GX_reg, GX_seq, GX_cond, GX_ret, RK_app, SK_normal, GC_false, FK_ret1]
    exact hq
  | true =>
    cases hdies : D.dies with
    | true =>
      obtain ⟨m2, h2, hd2, k2, r2⟩ := cwrite_dead hw1 hc1 hd1 hdies ⟨hC.cap1, hC.cap2, hC.len, hC.each⟩ hf hdl
      simp -implicitDefEqProofs only [o_Ca_room, r_Ca_room_4, r_Ca_room_6, r_Ca_room_7, r_Ca_room_8, r2.eq, show ((7 : Int) = 0) = False from eq_false (by omega), o_mv, o_ne, o_un, o_ext, v_elTup, v_rto, v_not, b_ne, ev_tm, ev_cst, evs_cons, evs_nil, putD_some, ↓reduceIte, Nat.reduceEqDiff, decide_false, Bool.not_true, Bool.not_false, List.append_nil, List.getElem?_cons_succ, List.getElem?_cons_zero, GO_nil, GO_op, GO_call, GN_some, GF_func, CK_app, GX_skip, GX_reg, GX_seq, GX_cond, GX_ret, RK_app, SK_normal, SK_ret, GC_true, GC_false, FK_ret1]
      exact hQ3 hdies ⟨l, hlm, hlp, hdl⟩ hlt m2 { C with pv := pv', zs := zs' } rfl rfl rfl h2 hd2 ((kk1.sub (G := cdK) (R := [C.mb])).tk k2)
    | false =>
      have hx : D.L[l.b]? = some D.L[l.b] := List.getElem?_eq_getElem hlL
      obtain ⟨m2, x', hp, h2, hd2, k2, r2⟩ := cwrite_ok hw1 hc1 hd1 hdies ⟨hC.cap1, hC.cap2, hC.len, hC.each⟩ hD hn hw9 hf hdl hx
      have hgr : Grow m.next C D { C with pv := pv', zs := zs', ls := setl C.ls { l with dirty := false } } { D with L := D.L.set l.b x', fuse := D.fuse - 1, writes := D.writes + 1 } := fun b hb => by
        have hp' : D.L[l.b]? = some D.L[l.b] := hx
        have g1 : Grow m1.next { C with ls := setl C.ls { l with dirty := false } } D { C with ls := setl C.ls { l with dirty := false } } { D with L := D.L.set l.b x', fuse := D.fuse - 1, writes := D.writes + 1 } := .push hp' hp rfl
        rcases g1 b hb with (⟨y, hy, rfl⟩ | hb) | hb
        · obtain ⟨z, hz, ⟨_, rfl⟩ | ⟨_, rfl⟩⟩ := setl_mem hy
          · exact .inl (.inl ⟨l, hlm, rfl⟩)
          · exact .inl (.inl ⟨y, hz, rfl⟩)
        · exact .inl (.inr hb)
        · have := k1.next; exact .inr (by omega)
      obtain ⟨m3, hr3, hq⟩ := fin m2 _ _ h2 hd2 ((kk1.sub (G := cdK) (R := [C.mb])).tk k2) rfl rfl rfl hgr (rm_setl rfl) (.inr ⟨hdl, hdies, _, _, _, hx, hp, rfl⟩)
      have hca := h2.old.ca.rd
      simp -implicitDefEqProofs only [o_Ca_room, r_Ca_room_4, r_Ca_room_6, r_Ca_room_7, r_Ca_room_9, r_Ca_room_10, r2.eq, hca, hr3, o_mdel, o_mv, o_load, o_nil, o_ne, o_un, o_fa, o_ext, v_elPtr, v_elTup, v_rto, v_nil, v_not, v_fa, b_ne, ev_tm, ev_cst, evs_cons, evs_nil, putD_none, putD_some, ↓reduceIte, Nat.reduceEqDiff, Nat.zero_add, decide_true, Bool.not_true, List.append_nil, List.getElem?_cons_succ, List.getElem?_cons_zero, GO_nil, GO_op, GO_call, GN_some, GF_func, CK_app, GX_skip, GX_reg, GX_seq, GX_cond, GX_ret, RK_app, SK_normal, GC_false, FK_ret1]
      exact hq
/-- A new line. -/
theorem CcAt.addl {n : Ln} (h : CcAt m c d C) (hw : Wf m) (hk : Keep m m' fun b => b = C.mb ∨ b = n.p) (hm : MpAt m' C.mb (al (C.ls ++ [n]))) (hln : At m' n.p ty_cache_line true [n.dv, .b n.dirty, iv n.pins]) (hda : BtU m' n.dv n.dl n.db) (hp : ∀ l ∈ C.ls, l.p ≠ n.p) (hkp : ∀ b k, kd m b k → b = n.p → k = ty_cache_line + 1) (hn : fl C.ls n.b = none) : CcAt m' c d { C with ls := C.ls ++ [n] } := by
  have hnb := fl_none hn
  have hne : ∀ {b k}, kd m b k → k ≠ ty_cache_line + 1 → k ≠ 0 → ¬ (b = C.mb ∨ b = n.p) := fun hb hk h0 e => by
    rcases e with e | e
    · exact h0 (hb.inj (e ▸ h.old.mp.kd))
    · exact hk (hkp _ _ hb e)
  have hca : At m' c ty_cache_Cache true [.ptr d 0, iv C.cap, C.pv, .map C.mb] := h.old.ca.keep hw hk (hne h.old.ca.kd (by decide) (by decide))
  have hdk : ∀ l ∈ C.ls ++ [n], kd m' l.db (ty_uint8 + 1) := fun l hl => by
    rcases List.mem_append.1 hl with hl | hl
    · exact (h.dk l hl).of_get (hk.get _ ((h.dk l hl).lt hw) (hne (h.dk l hl) (by decide) (by decide)))
    · cases List.mem_singleton.1 hl
      exact hda.kd
  have hln' : ∀ l ∈ C.ls ++ [n], At m' l.p ty_cache_line true [l.dv, .b l.dirty, iv l.pins] := fun l hl => by
    rcases List.mem_append.1 hl with hl | hl
    · refine (h.old.ln l hl).keep hw hk fun e => ?_
      rcases e with e | e
      · exact absurd ((h.old.ln l hl).kd.inj (e ▸ h.old.mp.kd)) (by decide)
      · exact hp l hl e
    · cases List.mem_singleton.1 hl
      exact hln
  have hpk : ∀ b, C.po = some b → kd m' b (ty_int + 1) := fun b hb => (h.pk b hb).of_get (hk.get _ ((h.pk b hb).lt hw) (hne (h.pk b hb) (by decide) (by decide)))
  refine ⟨⟨hca, hm, hln', fun l hl => ?_, h.old.pk.keep hw hk fun b hb => hne (h.pk b hb) (by decide) (by decide), ?_, ?_, fun l hl => (hln' l hl).kd.ne hca.kd, fun l hl => ⟨(hdk l hl).ne hca.kd, fun l' hl' => (hln' l' hl').kd.ne (hdk l hl)⟩, fun b hb => ⟨(hpk b hb).ne hca.kd, fun l hl => (hln' l hl).kd.ne (hpk b hb)⟩⟩, hdk, hpk⟩
  · rcases List.mem_append.1 hl with hl | hl
    · exact (h.old.da l hl).keep hw hk (hne (h.dk l hl) (by decide) (by decide))
    · cases List.mem_singleton.1 hl
      exact hda.bs
  · show ((C.ls ++ [n]).map (·.b)).Nodup
    rw [List.map_append, List.nodup_append]
    refine ⟨h.old.nb, by simp, fun a ha b hb => ?_⟩
    obtain ⟨l, hl, rfl⟩ := List.mem_map.1 ha
    cases List.mem_singleton.1 hb
    exact hnb l hl
  · show ((C.ls ++ [n]).map (·.p)).Nodup
    rw [List.map_append, List.nodup_append]
    refine ⟨h.old.np, by simp, fun a ha b hb => ?_⟩
    obtain ⟨l, hl, rfl⟩ := List.mem_map.1 ha
    cases List.mem_singleton.1 hb
    exact hp l hl
theorem uOwn.lt (hw : Wf m) (h : CcAt m c d C) (hd : DvAt m d cb D) {b : Nat} (hb : uOwn C D b) : b < m.next := by
  rcases hb with ⟨l, hl, rfl⟩ | ⟨x, hx, rfl | ⟨e, he, rfl⟩⟩
  · exact (h.dk l hl).lt hw
  · exact (hd.ok x hx).ar.lt hw
  · exact ((hd.ok x hx).ws e he).lt hw
/-- What Get leaves. -/
def GetR (C : Cc) (D : Dv) (k : Nat) (t : Bs) (C2 : Cc) (D2 : Dv) : Prop := (∃ l, fl C.ls k = some l ∧ t = l.dl ∧ C2 = C ∧ D2 = D) ∨
  (fl C.ls k = none ∧ ∃ C1 n x, Rm C D C1 D2 ∧ C2 = { C1 with ls := C1.ls ++ [n] } ∧ n.b = k ∧ n.pins = 0 ∧ n.dirty = false ∧ n.dl = t ∧ D2.L[k]? = some x ∧ x.last.2.1 = t)
theorem Wr.len {D D' : Dv} {k : Nat} {t : Bs} (h : Wr D D' k t) : D'.L.length = D.L.length := by
  obtain ⟨x, x', m0, _, _, rfl⟩ := h
  exact List.length_set
theorem Wr.lim {D D' : Dv} {k : Nat} {t : Bs} {n w : Nat} (h : Wr D D' k t) (hD : D.Lim n w) (ht : t.length = 64) : D'.Lim (n + 1) (w + 1) := by
  obtain ⟨x, x', m0, hx, hp, rfl⟩ := h
  have hmem : ∀ y ∈ D.L.set k x', y ∈ D.L ∨ y = x' := fun y hy => by
    rcases List.mem_or_eq_of_mem_set hy with h | h
    · exact .inl h
    · exact .inr h
  refine ⟨fun y hy => ?_, fun y hy => ?_, by show (D.L.set k x').length ≤ _; rw [List.length_set]; exact hD.len, ?_, ?_, ?_, ?_⟩
  · rcases hmem y hy with h | rfl
    · have := hD.wl y h; omega
    · obtain ⟨s, b, e, _⟩ := hp.wl
      rw [e, List.length_append]
      have := hD.wl x (List.mem_of_getElem? hx)
      simp; omega
  · rcases hmem y hy with h | rfl
    · exact hD.l64 y h
    · rw [hp.last]; exact ht
  · have := hD.f1; show _ ≤ D.fuse - 1; omega
  · have := hD.f2; show D.fuse - 1 ≤ _; omega
  · have := hD.w1; show 0 ≤ D.writes + 1; omega
  · have := hD.w2; show D.writes + 1 ≤ _; omega
theorem Dv.Lim.mono {D : Dv} {n w n' w' : Nat} (h : D.Lim n w) (h1 : n ≤ n') (h2 : w ≤ w') : D.Lim n' w' := ⟨fun x hx => by have := h.wl x hx; omega, h.l64, h.len, by have := h.f1; omega, h.f2, h.w1, by have := h.w2; omega⟩
theorem rm_len' {ls : List Ln} {v : Ln} (h : v ∈ ls) : (rm ls v.b).length < ls.length := by
  unfold rm
  refine List.length_filter_lt_length_iff_exists.2 ⟨v, h, ?_⟩
  simp
theorem Rm.lim {C' : Cc} {D' : Dv} {n w : Nat} (h : Rm C D C' D') (hC : C.Lim D) (hD : D.Lim n w) : D'.Lim (n + 1) (w + 1) ∧ D'.L.length = D.L.length ∧ C'.cap = C.cap ∧ C'.mb = C.mb ∧ C'.ls.length < C'.cap ∧ ∀ l ∈ C'.ls, l ∈ C.ls := by
  rcases h with ⟨hlt, rfl, rfl⟩ | ⟨hlt, v, hv, hvp, e1, e2, e3, _, h⟩
  · exact ⟨hD.mono (by omega) (by omega), rfl, rfl, rfl, hlt, fun _ h => h⟩
  · have h1 : C'.ls.length < C'.cap := by
      have := rm_len' hv
      have := hC.len
      rw [e1, e2]; omega
    refine ⟨?_, ?_, e2, e3, h1, fun l hl => (rm_mem (e1 ▸ hl)).1⟩
    · rcases h with ⟨_, rfl⟩ | ⟨_, _, h⟩
      · exact hD.mono (by omega) (by omega)
      · exact h.lim hD (hC.each v hv).2
    · rcases h with ⟨_, rfl⟩ | ⟨_, _, h⟩
      · rfl
      · exact h.len
theorem Rm.none {C' : Cc} {D' : Dv} {k : Nat} (h : Rm C D C' D') (hf : fl C.ls k = none) : fl C'.ls k = none := by
  rcases h with ⟨hlt, rfl, rfl⟩ | ⟨hlt, v, hv, hvp, e1, _⟩
  · exact hf
  · rw [e1]
    unfold fl
    rw [List.find?_eq_none]
    intro l hl
    have := fl_none hf l (rm_mem hl).1
    simp [this]
theorem Rm.dead {C' : Cc} {D' : Dv} (h : Rm C D C' D') (hd : D.dead = false) : D'.dead = false := by
  rcases h with ⟨hlt, rfl, rfl⟩ | ⟨hlt, v, hv, hvp, _, _, _, _, ⟨_, rfl⟩ | ⟨_, _, x, x', m0, _, _, rfl⟩⟩
  · exact hd
  · exact hd
  · exact hd
set_option maxHeartbeats 1000000 in
theorem cget (hw : Wf m) (h : CcAt m c d C) (hd : DvAt m d cb D) (hC : C.Lim D) {n w : Nat} (hD : D.Lim n w) (hn : n < 400) (hw9 : w ≤ 1000000000) (hdd : D.dead = false) {k : Nat} (hk : k < D.L.length) {Q : AV → M → Prop}
    (hQ1 : ∀ m' C' D' s t b, GetR C D k t C' D' → BtU m' s t b → SlAt m' ty_uint8 1 s t.length (ycells t) (some b) → CcAt m' c d C' → DvAt m' d cb D' → KeepK m m' cdK [C.mb] → m.next ≤ b → Grow m.next C D C' D' → (∀ x, uOwn C' D' x → x ≠ b) → Q (.tuple [s, iv 0]) m')
    (hQ2 : fl C.ls k = none → (∀ l ∈ C.ls, 0 < l.pins) → ¬ C.ls.length < C.cap → ∀ m', CcAt m' c d C → DvAt m' d cb D → KeepK m m' cdK [C.mb] → Q (.tuple [nils, iv 8]) m')
    (hQ3 : fl C.ls k = none → D.dies = true → (∃ l ∈ C.ls, l.pins = 0 ∧ l.dirty = true) → ∀ m' C', C'.ls = C.ls → C'.cap = C.cap → C'.mb = C.mb → CcAt m' c d C' → DvAt m' d cb { D with dead := true } → KeepK m m' cdK [C.mb] → Q (.tuple [nils, iv 7]) m') : WpF Try.prog tb fn_Ca_Get [.ptr c 0, iv k] m Q := by
  refine WpF.go at_Ca_Get ?_
  simp -implicitDefEqProofs only [o_Ca_Get, r_Ca_Get_0, o_mv, ev_cst, putD_some, fill_cons, fill_nil, Nat.reduceAdd, Nat.zero_add, GO_nil, GO_op, GN_some, GX_reg, GX_seq, RK_app, SK_normal]
  refine GX_scope hb_Ca_Get ?_
  cases hf : fl C.ls k with
  | some l =>
    obtain ⟨hlm, hlb⟩ := fl_some hf
    have h64 := (hC.each l hlm).2
    obtain ⟨m1, s1, b1, hb1, hsl1, k1, n1, r1⟩ := clone_ran2 hw (h.da hlm).bs (fun e => by rw [e] at h64; cases h64) (by omega)
    simp -implicitDefEqProofs only [o_cb_Ca_Get, r_Ca_Get_1, r_Ca_Get_2, r_Ca_Get_4, r_Ca_Get_5, r_Ca_Get_14, o_cr_Ca_Get_0, r_Ca_Get_1, r_Ca_Get_2, r_Ca_Get_4, r_Ca_Get_5, r_Ca_Get_14, (cknown h hd hk).eq, h.old.ca.rd, h.old.mp.look, lkp_al, hf, Option.map_some, Option.getD_some, b_nq63, JK_goto hl_Ca_Get_0 hc_Ca_Get_0, (h.old.ln l hlm).rd, r1.eq, o_look, o_mv, o_load, o_nil, o_ne, o_eqp, o_fa, v_elPtr, v_rto, v_nil, v_eqp_n, v_fa, b_ne, ev_tm, ev_cst, evs_cons, evs_nil, putD_some, ↓reduceIte, Nat.reduceEqDiff, Nat.zero_add, Nat.add_zero, decide_true, Bool.not_true, List.append_nil, List.getElem?_cons_succ, List.getElem?_cons_zero, GO_nil, GO_op, GO_call, GN_some, GF_func, CK_app, GX_skip, GX_reg, GX_seq, GX_cond, GX_ret, GX_goto, RK_app, SK_normal, SK_goto, GC_true, GC_false, FK_ret2, PK_ret]
    exact hQ1 m1 C D s1 _ b1 (.inl ⟨l, hf, rfl, rfl, rfl⟩) hb1 hsl1 (h.k0 hw k1) (hd.k0 hw k1) k1.k0 n1 .refl fun x hx => by have := uOwn.lt hw h hd hx; omega
  | none =>
    simp -implicitDefEqProofs only [o_cb_Ca_Get, r_Ca_Get_1, r_Ca_Get_2, r_Ca_Get_4, r_Ca_Get_5, r_Ca_Get_6, (cknown h hd hk).eq, h.old.ca.rd, h.old.mp.look, lkp_al, hf, Option.map_none, Option.getD_none, b_nqn63, o_look, o_mv, o_load, o_nil, o_ne, o_eqp, o_fa, v_elPtr, v_rto, v_nil, v_eqp_nn, v_fa, b_ne, ev_tm, ev_cst, evs_cons, evs_nil, putD_some, ↓reduceIte, Nat.reduceEqDiff, Nat.zero_add, decide_true, Bool.not_true, List.append_nil, List.getElem?_cons_succ, List.getElem?_cons_zero, GO_nil, GO_op, GO_call, GN_some, GF_func, CK_app, GX_skip, GX_reg, GX_seq, GX_cond, RK_app, SK_normal, GC_false]
    refine croom hw h hd hC hD hn hw9 (fun m1 C1 D1 hr h1 hd1 k1 hgr => ?_) (fun hall hlt m1 h1 hd1 k1 => ?_) (fun hdies hex hlt m1 C1 e1 e2 e3 h1 hd1 k1 => ?_)
    · have hw1 := k1.wf
      obtain ⟨hD1, hL1, ec, em, hlt1, hsub⟩ := hr.lim hC hD
      have hf1 := hr.none hf
      obtain ⟨m2, e2, hP2, k2, n2⟩ := addL_at hw1 ty_cache_line 3 [nils, .b false, iv 0]
      have hw2 := k2.wf
      have h2 := h1.k0 hw1 k2
      have hd2 := hd1.k0 hw1 k2
      have hx : D1.L[k]? = some (D1.L[k]'(by omega)) := List.getElem?_eq_getElem _
      generalize D1.L[k]'(by omega) = x at hx
      have hxm := List.mem_of_getElem? hx
      have h64 := hD1.l64 x hxm
      obtain ⟨m3, s3, b3, hb3, k3, n3, r3⟩ := dread hw2 hd2 (hr.dead hdd) hx (by have := hD1.wl x hxm; omega) h64
      have hw3 := k3.wf
      have h3 := h2.k0 hw2 k3
      have hd3 := hd2.k0 hw2 k3
      have hP3 := hP2.keep hw2 k3 fun h => h
      obtain ⟨m4, e4, hP4, k4, n4⟩ := hP3.st hw3 0 [s3]
      have hw4 := k4.wf
      have hm4 := h3.old.mp.keep hw3 k4 (h3.old.mp.kd.ne hP3.kd)
      obtain ⟨m5, e5, hm5, k5, n5⟩ := hm4.upd hw4 k (.ptr m1.next 0)
      have hnl := put_al (ls := C1.ls) (k := k) (p := m1.next) hf1 (l := ⟨k, m1.next, s3, x.last.2.1, b3, false, 0⟩) rfl rfl
      rw [hnl] at hm5
      have hw5 := k5.wf
      have k35 : Keep m3 m5 fun b => b = C1.mb ∨ b = m1.next := (k4.mono fun _ _ e => .inr e).trans k5 fun _ _ e => .inl e
      have hP5 := hP4.keep hw4 k5 (hP4.kd.ne hm4.kd)
      have hb4 := hb3.keep hw3 k4 (hb3.kd.ne hP3.kd)
      have hb5 := hb4.keep hw4 k5 (hb4.kd.ne hm4.kd)
      have hold : ∀ l ∈ C1.ls, l.p ≠ m1.next := fun l hl => by have := (h1.linek hl).lt hw1; omega
      have h5 : CcAt m5 c d { C1 with ls := C1.ls ++ [⟨k, m1.next, s3, x.last.2.1, b3, false, 0⟩] } := h3.addl hw3 (n := ⟨k, m1.next, s3, x.last.2.1, b3, false, 0⟩) k35 hm5 hP5 hb5 hold (fun b kk hb e => by subst e; exact hb.inj hP3.kd) hf1
      have hd5 : DvAt m5 d cb D1 := hd3.kp hw3 (E := [ty_cache_line + 1]) (S := [C1.mb]) (k35.mono fun b _ e => by
        rcases e with e | e
        · subst e; exact .inr ⟨by simp, h3.old.mp.kd⟩
        · subst e; exact .inl ⟨_, by simp, hP3.kd⟩)
      obtain ⟨m6, s6, b6, hb6, hsl6, k6, n6, r6⟩ := clone_ran2 hw5 hb5.bs (fun e => by rw [e] at h64; cases h64) (by omega)
      have hca := h2.old.ca.rd
      have hca4 : m4.rd c = _ := funext (h3.old.ca.keep hw3 k4 (h3.old.ca.kd.ne hP3.kd)).rd
      simp -implicitDefEqProofs only [o_cb_Ca_Get, r_Ca_Get_7, r_Ca_Get_9, r_Ca_Get_10, r_Ca_Get_11, r_Ca_Get_13, r_Ca_Get_14, e2, hca, r3.eq, hb3.bs.cells1, e4, hca4, e5, hP5.rd, r6.eq, o_mupd, o_mv, o_box, o_build, o_load, o_store, o_nil, o_ne, o_fa, o_ext, v_elPtr, v_elTup, v_ob, v_rto, v_nil, v_fa, b_ne, cells_agg, pv_nil, fillA_nil, ev_tm, ev_cst, evs_cons, evs_nil, putD_none, putD_some, bc_true, nbeq, ↓reduceIte, Nat.reduceEqDiff, Nat.reduceAdd, List.length_cons, List.length_nil, Nat.zero_add, Nat.add_zero, decide_true, Bool.not_true, List.take_zero, List.drop_succ_cons, List.drop_zero, List.nil_append, List.cons_append, List.append_nil, List.getElem?_cons_succ, List.getElem?_cons_zero, GO_nil, GO_op, GO_call, GN_some, GF_func, CK_app, GX_skip, GX_reg, GX_seq, GX_cond, GX_ret, RK_app, SK_normal, GC_false, FK_ret2, JK_ret, splice]
      refine hQ1 m6 _ D1 s6 _ b6 (.inr ⟨hf, C1, ⟨k, m1.next, s3, x.last.2.1, b3, false, 0⟩, x, hr, rfl, rfl, rfl, rfl, rfl, hx, rfl⟩) hb6 hsl6 (h5.k0 hw5 k6) (hd5.k0 hw5 k6) ?_ ?_ (hgr.trans (n1 := m.next) (.lines fun l hl => ?_) (Nat.le_refl _)) fun x hx => (by have := uOwn.lt hw5 h5 hd5 hx; omega)
      · have k15 : Keep m m5 (Kinds m cdK [C.mb]) := by
          have k13 := (k1.tf k2).tf k3
          refine k13.trans k35 fun b hb e => ?_
          rcases e with e | e
          · subst e
            exact .back k13 hb (G := []) (R := [C1.mb]) (by simp) (by simp [em]) (.inr ⟨by simp, h3.old.mp.kd⟩)
          · have := k1.next; omega
        exact k15.tf k6
      · have := k1.next; have := k2.next; have := k3.next; have := k4.next; have := k5.next; omega
      · rcases List.mem_append.1 hl with hl | hl
        · exact .inl ⟨l, hl, rfl⟩
        · cases List.mem_singleton.1 hl
          have := k1.next; have := k2.next
          exact .inr (by show m.next ≤ b3; omega)
    · simp -implicitDefEqProofs only [o_cb_Ca_Get, r_Ca_Get_7, r_Ca_Get_8, show ((8 : Int) = 0) = False from eq_false (by omega), o_mv, o_ne, v_rto, b_ne, ev_tm, ev_cst, putD_some, ↓reduceIte, Nat.reduceEqDiff, decide_false, Bool.not_false, GO_nil, GO_op, GN_some, CK_app, GX_reg, GX_seq, GX_cond, GX_ret, RK_app, SK_normal, SK_ret, GC_true, FK_ret2, JK_ret]
      exact hQ2 hf hall hlt m1 h1 hd1 k1
    · simp -implicitDefEqProofs only [o_cb_Ca_Get, r_Ca_Get_7, r_Ca_Get_8, show ((7 : Int) = 0) = False from eq_false (by omega), o_mv, o_ne, v_rto, b_ne, ev_tm, ev_cst, putD_some, ↓reduceIte, Nat.reduceEqDiff, decide_false, Bool.not_false, GO_nil, GO_op, GN_some, CK_app, GX_reg, GX_seq, GX_cond, GX_ret, RK_app, SK_normal, SK_ret, GC_true, FK_ret2, JK_ret]
      exact hQ3 hf hdies hex m1 C1 e1 e2 e3 h1 hd1 k1
end
end Go.Proofs.Ytmkbjcjlnidjiaa
set_option linter.unusedVariables false
set_option linter.unusedVariables false
/- A cache on a device: Put. -/
namespace Go.Proofs.Ytmkbjcjlnidjiaa
open Go Go.Am
/-- What Put leaves. -/
def PutR (C : Cc) (D : Dv) (k : Nat) (t : Bs) (C2 : Cc) (D2 : Dv) : Prop := (∃ l n, fl C.ls k = some l ∧ n.b = k ∧ n.p = l.p ∧ n.pins = l.pins ∧ n.dirty = true ∧ n.dl = t ∧ C2 = { C with ls := setl C.ls n } ∧ D2 = D) ∨
  (fl C.ls k = none ∧ ∃ C1 n, Rm C D C1 D2 ∧ C2 = { C1 with ls := C1.ls ++ [n] } ∧ n.b = k ∧ n.pins = 0 ∧ n.dirty = true ∧ n.dl = t)
section
variable {m m' : M} {c d cb : Nat} {C : Cc} {D : Dv}
theorem fl_app' {ls : List Ln} {k : Nat} {n : Ln} (h : fl ls k = none) (hn : n.b = k) : fl (ls ++ [n]) k = some n := by
  have h' : List.find? (fun l : Ln => decide (l.b = k)) ls = none := h
  unfold fl
  rw [List.find?_append, h']
  simp [hn]
theorem setl_last {ls : List Ln} {n n' : Ln} (h : fl ls n.b = none) (hn : n'.b = n.b) : setl (ls ++ [n']) n = ls ++ [n] := by
  have hk := fl_none h
  unfold setl
  rw [List.map_append]
  congr 1
  · rw [List.map_congr_left (g := id)]
    · simp
    · intro x hx; rw [if_neg (hk x hx)]; rfl
  · simp [hn]
set_option maxHeartbeats 1000000 in
theorem cput (hw : Wf m) (h : CcAt m c d C) (hd : DvAt m d cb D) (hC : C.Lim D) {n w : Nat} (hD : D.Lim n w) (hn : n < 400) (hw9 : w ≤ 1000000000) {k : Nat} (hk : k < D.L.length) {s : AV} {t : Bs} {bt : Nat} (hs : BtU m s t bt) (h64 : t.length = 64) {Q : AV → M → Prop}
    (hQ1 : ∀ m' C' D', PutR C D k t C' D' → CcAt m' c d C' → DvAt m' d cb D' → KeepK m m' cdK [C.mb] → Grow m.next C D C' D' → Q (iv 0) m')
    (hQ2 : fl C.ls k = none → (∀ l ∈ C.ls, 0 < l.pins) → ¬ C.ls.length < C.cap → ∀ m', CcAt m' c d C → DvAt m' d cb D → KeepK m m' cdK [C.mb] → Q (iv 8) m')
    (hQ3 : fl C.ls k = none → D.dies = true → (∃ l ∈ C.ls, l.pins = 0 ∧ l.dirty = true) → ∀ m' C', C'.ls = C.ls → C'.cap = C.cap → C'.mb = C.mb → CcAt m' c d C' → DvAt m' d cb { D with dead := true } → KeepK m m' cdK [C.mb] → Q (iv 7) m') : WpF Try.prog tb fn_Ca_Put [.ptr c 0, iv k, s] m Q := by
  have ht0 : t ≠ [] := fun e => by rw [e] at h64; cases h64
  /- The stores into a line. -/
  have tail : ∀ (m1 : M) (C1 : Cc) (l : Ln) (s1 : AV) (b1 : Nat) (D1 : Dv), Wf m1 → CcAt m1 c d C1 → DvAt m1 d cb D1 → fl C1.ls k = some l → BtU m1 s t bt → ∃ m2 m3 m4 s2 b2, Ran Try.prog tb fn_CloneB [s] m1 s2 m2 ∧ cellsO s2 = some [s2] ∧ m2.wr l.p 0 [s2] = some m3 ∧ m3.wr l.p 1 [.b true] = some m4 ∧ m2.rd c = m1.rd c ∧ rLook (some .i64) nilp false (.cst (.map C1.mb)) (.cst (iv k)) .leaf m2 = some (.ptr l.p 0, m2) ∧
      CcAt m4 c d { C1 with ls := setl C1.ls ⟨k, l.p, s2, t, b2, true, l.pins⟩ } ∧ DvAt m4 d cb D1 ∧ KeepK m1 m4 cdK [C1.mb] ∧ m1.next ≤ b2 := by
    intro m1 C1 l s1 b1 D1 hw1 h1 hd1 hf hs1
    obtain ⟨hlm, hlb⟩ := fl_some hf
    obtain ⟨m2, s2, b2, hb2, k2, n2, r2⟩ := clone_ran hw1 hs1.bs ht0 (by omega)
    have hw2 := k2.wf
    have h2 := h1.k0 hw1 k2
    obtain ⟨m3, e3, hl3, k3, n3⟩ := (h2.old.ln l hlm).st hw2 0 [s2]
    obtain ⟨m4, e4, hl4, k4, n4⟩ := hl3.st k3.wf 1 [.b true]
    have k24 : Keep m2 m4 fun b => b = l.p := k3.trans k4 fun _ _ h => h
    have kl := k24.k1 (E := [ty_cache_line + 1]) (S := []) (h2.linek hlm)
    refine ⟨m2, m3, m4, s2, b2, r2, hb2.bs.cells1, e3, e4, funext fun i => by rw [h2.old.ca.rd, h1.old.ca.rd], ?_, h2.setl hw2 (n := ⟨k, l.p, s2, t, b2, true, l.pins⟩) (l := l) (by exact hf) rfl k24 hl4 hb2, (hd1.k0 hw1 k2).kp hw2 kl, (k2.k0 (E := cdK) (S := [C1.mb])).tk kl, n2⟩
    rw [h2.old.mp.look, lkp_al, hf]; rfl
  refine WpF.go at_Ca_Put ?_
  cases hf : fl C.ls k with
  | some l =>
    obtain ⟨hlm, hlb⟩ := fl_some hf
    obtain ⟨m2, m3, m4, s2, b2, r2, ec, e3, e4, er, el, h4, hd4, k4, hb2⟩ := tail m C l s bt D hw h hd hf hs
    have hca2 : ∀ i, m2.rd c i = _ := fun i => by rw [er, h.old.ca.rd]
    simp -implicitDefEqProofs only [o_Ca_Put, r_Ca_Put_0, r_Ca_Put_1, r_Ca_Put_2, r_Ca_Put_4, r_Ca_Put_9, r_Ca_Put_10, (cfits h hd hk hs.bs h64).eq, h.old.ca.rd, h.old.mp.look, lkp_al, hf, Option.map_some, Option.getD_some, b_np63, r2.eq, ec, e3, e4, hca2, el, o_look, o_mv, o_load, o_store, o_nil, o_ne, o_eqp, o_fa, v_elPtr, v_ob, v_rto, v_nil, v_eqp_n, v_fa, b_ne, cells_b, ev_tm, ev_cst, evs_cons, evs_nil, putD_none, putD_some, fill_cons, fill_nil, bc_true, nbeq, ↓reduceIte, Nat.reduceEqDiff, Nat.reduceAdd, List.length_cons, List.length_nil, Nat.zero_add, Nat.add_zero, decide_true, Bool.and_self, Bool.not_true, List.nil_append, List.cons_append, List.append_nil, List.getElem?_cons_succ, List.getElem?_cons_zero, GO_nil, GO_op, GO_call, GN_some, GF_func, CK_app, GT_nil, GT_op, GT_call, TN_some, TK_app, GX_skip, GX_reg, GX_drawn, GX_seq, GX_cond, GX_ret, RK_app, DK_app, SK_normal, GC_false, FK_ret1, lastT_1, lastT_c, again0_at, List.all_cons, List.all_nil, want_none, aq_ptr, aq_map, Option.some.injEq, exists_eq_left', true_and, Option.some.injEq]
    exact hQ1 m4 _ D (.inl ⟨l, ⟨k, l.p, s2, t, b2, true, l.pins⟩, hf, rfl, rfl, rfl, rfl, rfl, rfl, rfl⟩) h4 hd4 k4 (.lines fun x hx => by
      obtain ⟨y, hy, ⟨_, rfl⟩ | ⟨_, rfl⟩⟩ := setl_mem hx
      · exact .inr hb2
      · exact .inl ⟨x, hy, rfl⟩)
  | none =>
    simp -implicitDefEqProofs only [o_Ca_Put, r_Ca_Put_0, r_Ca_Put_1, r_Ca_Put_2, r_Ca_Put_4, r_Ca_Put_5, (cfits h hd hk hs.bs h64).eq, h.old.ca.rd, h.old.mp.look, lkp_al, hf, Option.map_none, Option.getD_none, b_nn63, o_look, o_mv, o_load, o_nil, o_ne, o_eqp, o_fa, v_elPtr, v_rto, v_nil, v_eqp_nn, v_fa, b_ne, ev_tm, ev_cst, evs_cons, evs_nil, putD_some, fill_cons, fill_nil, ↓reduceIte, Nat.reduceEqDiff, Nat.reduceAdd, Nat.zero_add, decide_true, Bool.not_true, List.append_nil, List.getElem?_cons_succ, List.getElem?_cons_zero, GO_nil, GO_op, GO_call, GN_some, GF_func, CK_app, GX_skip, GX_reg, GX_seq, GX_cond, RK_app, SK_normal, GC_true, GC_false]
    refine croom hw h hd hC hD hn hw9 (fun m1 C1 D1 hr h1 hd1 k1 hgr => ?_) (fun hall hlt m1 h1 hd1 k1 => ?_) (fun hdies hex hlt m1 C1 e1 e2 e3 h1 hd1 k1 => ?_)
    · have hw1 := k1.wf
      obtain ⟨hD1, hL1, ec1, em, hlt1, hsub⟩ := hr.lim hC hD
      have hf1 := hr.none hf
      have hs1 := hs.kp hw k1
      have hca1 := h1.old.ca.rd
      obtain ⟨m2, e2, hP2, k2, n2⟩ := addL_at hw1 ty_cache_line 3 [nils, .b false, iv 0]
      have hw2 := k2.wf
      have h2 := h1.k0 hw1 k2
      obtain ⟨m3, e3, hm3, k3, n3⟩ := h2.old.mp.upd hw2 k (.ptr m1.next 0)
      have hw3 := k3.wf
      have hold : ∀ l ∈ C1.ls, l.p ≠ m1.next := fun l hl => by have := (h1.linek hl).lt hw1; omega
      have kr := hm3.kd
      have hP3 := hP2.keep hw2 k3 (hP2.kd.ne h2.old.mp.kd)
      have hs3 := (hs1.keep hw1 k2 fun h => h).keep hw2 k3 (((hs1.keep hw1 k2 fun h => h).kd).ne h2.old.mp.kd)
      have hca3 := (h2.old.ca.keep hw2 k3 (h2.old.ca.kd.ne h2.old.mp.kd)).rd
      /- An empty line has no bytes: the stores come first. -/
      obtain ⟨m4, s4, b4, hb4, k4, n4, r4⟩ := clone_ran hw3 hs3.bs ht0 (by omega)
      have hw4 := k4.wf
      have hP4 := hP3.keep hw3 k4 fun h => h
      obtain ⟨m5, e5, hP5, k5, n5⟩ := hP4.st hw4 0 [s4]
      obtain ⟨m6, e6, hP6, k6, n6⟩ := hP5.st k5.wf 1 [.b true]
      have hca4 : ∀ i, m4.rd c i = m3.rd c i := fun i => by rw [hca3, ((h2.old.ca.keep hw2 k3 (h2.old.ca.kd.ne h2.old.mp.kd)).keep hw3 k4 fun h => h).rd]
      have hnl := put_al (ls := C1.ls) (k := k) (p := m1.next) hf1 (l := ⟨k, m1.next, s4, t, b4, true, 0⟩) rfl rfl
      rw [hnl] at hm3
      have hm4 := hm3.keep hw3 k4 fun h => h
      have k46 : Keep m4 m6 fun b => b = m1.next := k5.trans k6 fun _ _ h => h
      have hm6 := hm4.keep hw4 k46 (hm4.kd.ne hP4.kd)
      have k24 : Keep m2 m4 fun b => b = C1.mb := k3.tf k4
      have k26 : Keep m2 m6 fun b => b = C1.mb ∨ b = m1.next := (k24.mono fun _ _ e => .inl e).trans k46 fun _ _ e => .inr e
      have h6 : CcAt m6 c d { C1 with ls := C1.ls ++ [⟨k, m1.next, s4, t, b4, true, 0⟩] } := h2.addl hw2 (n := ⟨k, m1.next, s4, t, b4, true, 0⟩) k26 hm6 hP6 (hb4.keep hw4 k46 (hb4.kd.ne hP4.kd)) hold (fun b kk hb e => by subst e; exact hb.inj hP2.kd) hf1
      have hd6 : DvAt m6 d cb D1 := (hd1.k0 hw1 k2).kp hw2 (E := [ty_cache_line + 1]) (S := [C1.mb]) (k26.mono fun b _ e => by
        rcases e with e | e
        · subst e; exact .inr ⟨by simp, h2.old.mp.kd⟩
        · subst e; exact .inl ⟨_, by simp, hP2.kd⟩)
      have hlk : ∀ mx, MpAt mx C1.mb (al (C1.ls ++ [⟨k, m1.next, s4, t, b4, true, 0⟩])) → rLook (some .i64) nilp false (.cst (.map C1.mb)) (.cst (iv k)) .leaf mx = some (.ptr m1.next 0, mx) := fun mx hx => by
        rw [hx.look, lkp_al, fl_app' hf1 rfl]; rfl
      simp -implicitDefEqProofs only [o_Ca_Put, r_Ca_Put_6, r_Ca_Put_8, r_Ca_Put_9, r_Ca_Put_10, hca1, e2, e3, hca3, hlk m3 hm3, r4.eq, hca4, hlk m4 hm4, hb4.bs.cells1, e5, e6, o_look, o_mupd, o_mv, o_box, o_build, o_load, o_store, o_nil, o_ne, o_fa, v_elPtr, v_ob, v_rto, v_nil, v_fa, b_ne, cells_agg, cells_b, pv_nil, fillA_nil, ev_tm, ev_cst, evs_cons, evs_nil, putD_none, putD_some, bc_true, nbeq, ↓reduceIte, Nat.reduceEqDiff, Nat.reduceAdd, List.length_cons, List.length_nil, Nat.zero_add, Nat.add_zero, decide_true, Bool.and_self, Bool.not_true, List.nil_append, List.cons_append, List.getElem?_cons_succ, List.getElem?_cons_zero, GO_nil, GO_op, GN_some, CK_app, GT_nil, GT_op, GT_call, TN_some, TK_app, GX_skip, GX_reg, GX_drawn, GX_seq, GX_cond, GX_ret, RK_app, DK_app, SK_normal, GC_false, FK_ret1, lastT_1, lastT_c, again0_at, List.all_cons, List.all_nil, want_none, aq_ptr, aq_map, Option.some.injEq, exists_eq_left', true_and, Option.some.injEq]
      refine hQ1 m6 _ D1 (.inr ⟨hf, C1, ⟨k, m1.next, s4, t, b4, true, 0⟩, hr, rfl, rfl, rfl, rfl, rfl⟩) h6 hd6 ?_ (hgr.trans (n1 := m.next) (.lines fun l hl => by
        rcases List.mem_append.1 hl with hl | hl
        · exact .inl ⟨l, hl, rfl⟩
        · cases List.mem_singleton.1 hl
          have := k1.next; have := k2.next; have := k3.next
          exact .inr (by show m.next ≤ b4; omega)) (Nat.le_refl _))
      have k12 := k1.tf k2
      refine k12.trans k26 fun b hb e => ?_
      rcases e with e | e
      · subst e
        exact .back k12 hb (G := []) (R := [C1.mb]) (by simp) (by simp [em]) (.inr ⟨by simp, h2.old.mp.kd⟩)
      · have := k1.next; omega
    · simp -implicitDefEqProofs only [o_Ca_Put, r_Ca_Put_6, r_Ca_Put_7, show ((8 : Int) = 0) = False from eq_false (by omega), o_mv, o_ne, v_rto, b_ne, ev_tm, ev_cst, putD_some, ↓reduceIte, Nat.reduceEqDiff, decide_false, Bool.not_false, GO_nil, GO_op, GN_some, CK_app, GX_reg, GX_seq, GX_cond, GX_ret, RK_app, SK_normal, SK_ret, GC_true, FK_ret1]
      exact hQ2 hf hall hlt m1 h1 hd1 k1
    · simp -implicitDefEqProofs only [o_Ca_Put, r_Ca_Put_6, r_Ca_Put_7, show ((7 : Int) = 0) = False from eq_false (by omega), o_mv, o_ne, v_rto, b_ne, ev_tm, ev_cst, putD_some, ↓reduceIte, Nat.reduceEqDiff, decide_false, Bool.not_false, GO_nil, GO_op, GN_some, CK_app, GX_reg, GX_seq, GX_cond, GX_ret, RK_app, SK_normal, SK_ret, GC_true, FK_ret1]
      exact hQ3 hf hdies hex m1 C1 e1 e2 e3 h1 hd1 k1
end
end Go.Proofs.Ytmkbjcjlnidjiaa
