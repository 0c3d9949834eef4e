import Derived.Test.YtmkbjcjlnidjiaaCe
import Derived.Test.YtmkbjcjlnidjiaaCaP
import Derived.Test.YtmkbjcjlnidjiaaCaHs
set_option linter.unusedVariables false
set_option linter.unusedVariables false
/- A cache on a device: Held, Dirty, Out, All. -/
namespace Go.Proofs.Ytmkbjcjlnidjiaa
open Go Go.Am
/-- A list of numbers that starts its row, or none. -/
def Lst (m : M) (x : AV) (zs : List Int) (n0 : Nat) : Prop := (x = nils ∧ zs = []) ∨ ∃ b cap junk xt, x = .slice b 0 zs.length cap false ∧ At m b ty_int xt (zs.map iv ++ junk) ∧ n0 ≤ b ∧ junk.length = cap - zs.length ∧ zs.length ≤ cap ∧ 0 < cap
theorem Lst.k0 {m m' : M} {x : AV} {zs : List Int} {n0 : Nat} (h : Lst m x zs n0) (hw : Wf m) (k : Keep m m' fun _ => False) : Lst m' x zs n0 := by
  rcases h with h | ⟨b, cap, junk, xt, h1, h2, h3⟩
  · exact .inl h
  · exact .inr ⟨b, cap, junk, xt, h1, h2.keep hw k (fun h => h), h3⟩
theorem Lst.vs {m : M} {x : AV} {zs : List Int} {n0 : Nat} (h : Lst m x zs n0) : Vs m x zs := by
  rcases h with ⟨rfl, rfl⟩ | ⟨b, cap, junk, xt, rfl, h2, h3⟩
  · exact vs_nil
  · exact vs_at h2 rfl (by rw [show zs.length = (zs.map iv).length from (List.length_map ..).symm, List.take_left])
theorem Lst.cells {m : M} {x : AV} {zs : List Int} {n0 : Nat} (h : Lst m x zs n0) : cellsO x = some [x] := by
  rcases h with ⟨rfl, rfl⟩ | ⟨b, cap, junk, xt, rfl, h2, h3⟩ <;> rfl
theorem delnil {m : M} {fv : AV} : Ran Try.prog tb fn_DelFunc [nils, fv] m nils m := by
  have hi : Ran Try.prog tb fn_IdxFunc [nils, fv] m (iv (-1)) m := by
    refine WpF.go at_IdxFunc ?_
    simp -implicitDefEqProofs only [o_IdxFunc, r_IdxFunc_0, r_IdxFunc_1, o_mv, o_len, v_ob, len_nils, ev_tm, ev_cst, putD_some, fill_cons, fill_nil, ↓reduceIte, Nat.reduceEqDiff, Nat.reduceAdd, Nat.zero_add, GO_nil, GO_op, GN_some, GX_reg, GX_seq, GX_block, RK_app, SK_normal, nc0]
    refine GX_loop (fun j fr mk => (ev (tm 7) fr = iv 0 ∧ ev (tm 8) fr = iv 0) ∧ mk = m) (k := 0) ⟨by simp -implicitDefEqProofs only [ev_tm, ↓reduceIte, Nat.reduceEqDiff, and_self], rfl⟩ ?_
    rintro j fr mk ⟨⟨e7, e8⟩, rfl⟩
    simp -implicitDefEqProofs only [o_IdxFunc, r_IdxFunc_2, r_IdxFunc_7, e7, e8, o_mv, o_lt, v_rto, b_lt, ev_tm, ev_cst, putD_some, nbeq, ↓reduceIte, decide_true, decide_false, GO_nil, GO_op, GN_some, GX_reg, GX_seq, GX_cond, GX_exit, GX_ret, RK_app, SK_normal, SK_exit, GC_false, BK_exit, BE_true, LK_exit, FK_ret1, ilt, and_self]
  refine WpF.go at_DelFunc ?_
  simp -implicitDefEqProofs only [o_DelFunc, r_DelFunc_0, r_DelFunc_1, r_DelFunc_2, r_DelFunc_3, hi.eq, o_mv, o_eq, v_rto, b_eq, ev_tm, ev_cst, evs_cons, evs_nil, putD_some, fill_cons, fill_nil, ↓reduceIte, Nat.reduceEqDiff, Nat.reduceAdd, Nat.zero_add, decide_true, List.append_nil, GO_nil, GO_op, GO_call, GN_some, GF_func, CK_app, GX_reg, GX_seq, GX_cond, GX_ret, RK_app, SK_normal, SK_ret, GC_true, FK_ret1, and_self]
section
variable {m m' : M} {c d cb : Nat} {C : Cc} {D : Dv}
theorem cheld (hw : Wf m) (h : CcAt m c d C) (hC : C.Lim D) (hD : D.L.length ≤ 1000000) {Q : AV → M → Prop}
    (hQ : ∀ m' x, (C.ls = [] ∧ x = nils ∨ C.ls ≠ [] ∧ ∃ B, x = .slice B 0 C.ls.length C.ls.length false ∧ At m' B ty_int false ((Sk (al C.ls)).map iv) ∧ m.next ≤ B) → Keep m m' (fun _ => False) → Q x m') : WpF Try.prog tb fn_Ca_Held [.ptr c 0] m Q := by
  by_cases h0 : C.ls = []
  · refine WpF.go at_Ca_Held ?_
    simp -implicitDefEqProofs only [o_Ca_Held, r_Ca_Held_0, r_Ca_Held_1, r_Ca_Held_3, b_np28, h.old.ca.rd, o_mv, o_load, o_nil, o_eqp, o_fa, v_elPtr, v_rto, v_nil, v_eqp_n, v_fa, ev_tm, ev_cst, evs_cons, evs_nil, putD_some, fill_cons, fill_nil, ↓reduceIte, Nat.reduceEqDiff, Nat.zero_add, List.append_nil, List.getElem?_cons_succ, List.getElem?_cons_zero, GO_nil, GO_op, GO_call, GN_some, GF_func, GX_skip, GX_reg, GX_seq, GX_cond, RK_app, SK_normal, GC_false]
    refine keys_spec hw fun m1 B1 hB1 hk1 hn1 => ?_
    have h1 := h.k0 hw hk1
    have hkn : tb.it 31 [.func 51 [.ptr B1 0]] m1 = some (some (nils, m1)) := by
      have := sorted_known (P := Try.prog) (g := 31) (et := 3) (kf := 51) hB1 h1.old.mp
      rw [h0] at this
      exact this
    simp -implicitDefEqProofs only [ev_tm, ev_cst, evs_cons, evs_nil, putD_some, ↓reduceIte, List.append_nil, GO_call, GF_func, CK_app]
    refine WpF_known (tab_get Try.func31) hkn ?_
    simp -implicitDefEqProofs only [o_mv, ev_tm, putD_some, ↓reduceIte, GO_nil, GO_op, GN_some, CK_app, GX_ret, RK_app, SK_normal, FK_ret1]
    exact hQ m1 nils (.inl ⟨h0, rfl⟩) hk1
  · have := hC.cap2
    have := hC.len
    exact held_spec hw h.old h0 (by omega) (fun l hl => by have := (hC.each l hl).1; omega) fun m' B hB hk hn => hQ m' _ (.inr ⟨h0, B, rfl, hB, hn⟩) hk
def dirtyOf (ls : List Ln) (z : Int) : Bool := match ls.find? fun l => decide ((l.b : Int) = z) with
  | some l => l.dirty
  | none => false
theorem dirtyOf_at (h : CcAt m c d C) {l : Ln} (hl : l ∈ C.ls) : dirtyOf C.ls (l.b : Int) = l.dirty := by
  unfold dirtyOf
  rw [find_cast, fl_mem h.old.nb hl]
/-- The numbers of what is dirty. -/
noncomputable def Cc.dz (C : Cc) : List Int := (Sk (al C.ls)).filter (dirtyOf C.ls)
theorem dz_mem (h : CcAt m c d C) {z : Int} : z ∈ C.dz ↔ ∃ l ∈ C.ls, (l.b : Int) = z ∧ l.dirty = true := by
  unfold Cc.dz
  rw [List.mem_filter, mem_Sk]
  constructor
  · rintro ⟨⟨e, he, rfl⟩, h2⟩
    obtain ⟨l, hl, rfl⟩ := List.mem_map.1 he
    exact ⟨l, hl, rfl, by rw [← dirtyOf_at h hl]; exact h2⟩
  · rintro ⟨l, hl, rfl, h2⟩
    exact ⟨⟨_, List.mem_map_of_mem hl, rfl⟩, by rw [dirtyOf_at h hl]; exact h2⟩
theorem dz_len (C : Cc) : C.dz.length ≤ C.ls.length := by
  have h1 := List.length_filter_le (dirtyOf C.ls) (Sk (al C.ls))
  rw [len_Sk, len_al] at h1
  exact h1
set_option maxHeartbeats 1000000 in
theorem cdirty (hw : Wf m) (h : CcAt m c d C) (hC : C.Lim D) (hD : D.L.length ≤ 1000000) {Q : AV → M → Prop}
    (hQ : ∀ m' x, Lst m' x C.dz m.next → Keep m m' (fun _ => False) → Q x m') : WpF Try.prog tb fn_Ca_Dirty [.ptr c 0] m Q := by
  obtain ⟨m1, e1, hV, k1, n1⟩ := addL_at hw ty_pcache_Cache 1 [.ptr c 0]
  have hw1 := k1.wf
  have h1 := h.k0 hw k1
  refine WpF.go at_Ca_Dirty ?_
  simp -implicitDefEqProofs only [o_Ca_Dirty, r_Ca_Dirty_0, r_Ca_Dirty_1, e1, hV.rd, o_mv, o_box, o_load, v_elPtr, v_ob, v_rto, cells_ptr, ev_tm, ev_cst, evs_cons, evs_nil, putD_some, fill_cons, fill_nil, ↓reduceIte, Nat.reduceEqDiff, List.length_cons, List.length_nil, Nat.zero_add, List.append_nil, List.getElem?_cons_zero, GO_nil, GO_op, GO_call, GN_some, GF_func, GX_reg, GX_seq, RK_app, SK_normal]
  refine cheld hw1 h1 hC hD fun m2 x hx k2 => ?_
  have hw2 := k2.wf
  have h2 := h1.k0 hw1 k2
  have hV2 := hV.keep hw1 k2 fun h => h
  rcases hx with ⟨h0, rfl⟩ | ⟨h0, B, rfl, hB, hn⟩
  · simp -implicitDefEqProofs only [delnil.eq, o_fn, o_mv, ev_tm, ev_cst, evs_cons, evs_nil, putD_some, ↓reduceIte, Nat.reduceEqDiff, List.append_nil, GO_nil, GO_op, GO_call, GN_some, GF_func, CK_app, GX_ret, RK_app, SK_normal, FK_ret1]
    refine hQ m2 nils (.inl ⟨rfl, ?_⟩) (k1.tf k2)
    unfold Cc.dz
    rw [h0]; rfl
  have hSl : (Sk (al C.ls)).length = C.ls.length := by rw [len_Sk, len_al]
  have hS0 : Sk (al C.ls) ≠ [] := fun e => h0 (List.length_eq_zero_iff.1 (by rw [← hSl, e]; rfl))
  have hlen := hC.len
  have hc2 := hC.cap2
  have hT : Tells m2 (fun x => x = B) (.func fn_Ca_Dirty_1 [.ptr m.next 0]) (Sk (al C.ls)) (fun z => !dirtyOf C.ls z) := by
    refine ⟨_, _, rfl, fun z hz m' hk' => ?_⟩
    obtain ⟨e, he, rfl⟩ := mem_Sk.1 hz
    obtain ⟨l, hl, rfl⟩ := List.mem_map.1 he
    have hnB : ∀ b, cOwn c C.mb C.po C.ls b → ¬ b = B := fun b hb e => by
      subst e
      rcases hb with e | e | hb | ⟨l', hl', e | e⟩
      · exact h2.old.ca.kd.ne hB.kd (by decide) e.symm
      · exact h2.old.mp.kd.ne hB.kd (by decide) e.symm
      · have := (h1.pk _ hb).lt hw1; omega
      · have := (h1.linek hl').lt hw1; omega
      · have := (h1.dk l' hl').lt hw1; omega
    have h' := h2.old.keep hw2 hk' hnB
    have hV' := hV2.keep hw2 hk' (hV2.kd.ne hB.kd)
    show Ran Try.prog tb fn_Ca_Dirty_1 [iv l.b, .ptr m.next 0] m' (.b (!dirtyOf C.ls (l.b : Int))) m'
    rw [dirtyOf_at h hl]
    refine WpF.go at_Ca_Dirty_1 ?_
    simp -implicitDefEqProofs only [o_Ca_Dirty_1, r_Ca_Dirty_1_0, r_Ca_Dirty_1_1, hV'.rd, h'.ca.rd, h'.mp.look, lkp_al, fl_mem h.old.nb hl, Option.map_some, Option.getD_some, (h'.ln l hl).rd, o_look, o_mv, o_load, o_nil, o_un, o_fa, v_elPtr, v_rto, v_nil, v_not, v_fa, ev_tm, ev_cst, putD_some, fill_cons, fill_nil, ↓reduceIte, Nat.reduceEqDiff, Nat.reduceAdd, Nat.zero_add, List.getElem?_cons_succ, List.getElem?_cons_zero, GO_nil, GO_op, GN_some, GX_reg, GX_seq, GX_ret, RK_app, SK_normal, FK_ret1, and_self]
  rw [← hSl]
  simp -implicitDefEqProofs only [o_fn, ev_tm, ev_cst, evs_cons, evs_nil, putD_some, ↓reduceIte, Nat.reduceEqDiff, List.append_nil, GO_op, GO_call, GN_some, GF_func, CK_app]
  refine del_spec hw2 hB hS0 (by omega) hT fun m3 k hB3 hk hk3 => ?_
  simp -implicitDefEqProofs only [o_mv, ev_tm, putD_some, ↓reduceIte, GO_nil, GO_op, GN_some, CK_app, GX_ret, RK_app, SK_normal, FK_ret1]
  have hfz : ((Sk (al C.ls)).filter fun y => !!dirtyOf C.ls y) = C.dz := by
    unfold Cc.dz
    congr 1
    funext z
    simp
  rw [hfz] at hB3 hk
  refine hQ m3 _ (.inr ⟨B, _, _, false, by rw [hk], hB3, by omega, by rw [List.length_replicate, hk], by have := dz_len C; omega, by have := List.length_pos_iff.2 hS0; omega⟩) ((k1.tf k2).trans hk3 fun b hb e => by omega)
end
/-- What a write of one block does to lines and device. -/
def Stp (k : Nat) (C : Cc) (D : Dv) (C' : Cc) (D' : Dv) : Prop := ((∀ l, fl C.ls k = some l → l.dirty = false) ∧ C' = C ∧ D' = D) ∨
  ∃ l, fl C.ls k = some l ∧ l.dirty = true ∧ D.dies = false ∧ C' = { C with ls := setl C.ls { l with dirty := false } } ∧ Wr D D' k l.dl
/-- How many lines are dirty. -/
def dcl (ls : List Ln) : Nat := ls.countP fun l => l.dirty
theorem dcl_setl {ls : List Ln} (hn : (ls.map (·.b)).Nodup) {n l : Ln} (hf : fl ls n.b = some l) (hl : l.dirty = true) (hd : n.dirty = false) : dcl (setl ls n) + 1 = dcl ls := by
  induction ls with
  | nil => cases hf
  | cons x ls ih =>
    rw [List.map_cons, List.nodup_cons] at hn
    unfold dcl setl at *
    rw [List.map_cons, List.countP_cons, List.countP_cons]
    unfold fl at hf
    rw [List.find?_cons] at hf
    by_cases h : x.b = n.b
    · rw [decide_eq_true h] at hf
      cases hf
      have hrest : ls.map (fun l => if l.b = n.b then n else l) = ls := by
        rw [List.map_congr_left (g := id)]
        · simp
        · intro y hy
          rw [if_neg]; rfl
          intro e
          exact hn.1 (by rw [h, ← e]; exact List.mem_map_of_mem hy)
      rw [if_pos h, hrest, hl, hd]; simp
    · rw [decide_eq_false h] at hf
      have := ih hn.2 hf
      rw [if_neg h]
      omega
theorem dcl_le (ls : List Ln) : dcl ls ≤ ls.length := List.countP_le_length
inductive OutR : List Nat → Cc → Dv → Cc → Dv → Prop where
  | nil {C : Cc} {D : Dv} : OutR [] C D C D
  | step {ks : List Nat} {k : Nat} {C C1 C2 : Cc} {D D1 D2 : Dv} (h : OutR ks C D C1 D1) (s : Stp k C1 D1 C2 D2) : OutR (ks ++ [k]) C D C2 D2
theorem Stp.lim {k n w : Nat} {C C' : Cc} {D D' : Dv} (h : Stp k C D C' D') (hC : C.Lim D) (hD : D.Lim n w) : C'.Lim D' ∧ D'.Lim (n + 1) (w + 1) ∧ D'.L.length = D.L.length ∧ C'.cap = C.cap ∧ C'.mb = C.mb ∧ C'.ls.length = C.ls.length := by
  rcases h with ⟨_, rfl, rfl⟩ | ⟨l, hf, hd, hdies, rfl, hw⟩
  · exact ⟨hC, hD.mono (by omega) (by omega), rfl, rfl, rfl, rfl⟩
  · obtain ⟨hlm, hlb⟩ := fl_some hf
    have hlen := hw.len
    have hsl : (setl C.ls { l with dirty := false }).length = C.ls.length := List.length_map ..
    refine ⟨⟨hC.cap1, hC.cap2, by show (setl C.ls _).length ≤ _; rw [hsl]; exact hC.len, fun x hx => ?_⟩, hw.lim hD (hC.each l hlm).2, hlen, rfl, rfl, hsl⟩
    obtain ⟨y, hy, ⟨_, rfl⟩ | ⟨_, rfl⟩⟩ := setl_mem hx
    · rw [hlen]; exact hC.each l hlm
    · rw [hlen]; exact hC.each x hy
/-- A write of a block: none, or one dirty line less. -/
theorem Stp.cnt {k n w : Nat} {C C' : Cc} {D D' : Dv} (h : Stp k C D C' D') (hn : (C.ls.map (·.b)).Nodup) (hC : C.Lim D) (hD : D.Lim n w) : ∃ x, D'.Lim (n + x) (w + x) ∧ dcl C'.ls + x = dcl C.ls := by
  rcases h with ⟨_, rfl, rfl⟩ | ⟨l, hf, hd, hdies, rfl, hw⟩
  · exact ⟨0, hD, rfl⟩
  · obtain ⟨hlm, hlb⟩ := fl_some hf
    subst hlb
    exact ⟨1, hw.lim hD (hC.each l hlm).2, dcl_setl hn (n := { l with dirty := false }) hf hd rfl⟩
theorem Stp.nb {k : Nat} {C C' : Cc} {D D' : Dv} (h : Stp k C D C' D') (hn : (C.ls.map (·.b)).Nodup) : (C'.ls.map (·.b)).Nodup := by
  rcases h with ⟨_, rfl, rfl⟩ | ⟨l, hf, hd, hdies, rfl, hw⟩
  · exact hn
  · rw [show ({ C with ls := setl C.ls { l with dirty := false } } : Cc).ls = setl C.ls { l with dirty := false } from rfl, setl_b]; exact hn
theorem OutR.cnt {ks : List Nat} {n w : Nat} {C C' : Cc} {D D' : Dv} (h : OutR ks C D C' D') (hn : (C.ls.map (·.b)).Nodup) (hC : C.Lim D) (hD : D.Lim n w) : C'.Lim D' ∧ (C'.ls.map (·.b)).Nodup ∧ D'.L.length = D.L.length ∧ C'.cap = C.cap ∧ C'.mb = C.mb ∧ C'.ls.length = C.ls.length ∧ C'.po = C.po ∧ ∃ x, D'.Lim (n + x) (w + x) ∧ dcl C'.ls + x = dcl C.ls := by
  induction h with
  | nil => exact ⟨hC, hn, rfl, rfl, rfl, rfl, rfl, 0, hD, rfl⟩
  | step h s ih =>
    obtain ⟨g1, g2, g3, g4, g5, g6, gp, x, g7, g8⟩ := ih hn hC hD
    obtain ⟨i1, i2, i3, i4, i5, i6⟩ := s.lim g1 g7
    obtain ⟨y, j1, j2⟩ := s.cnt g2 g1 g7
    refine ⟨i1, s.nb g2, by omega, i4.trans g4, i5.trans g5, i6.trans g6, ?_, x + y, by rw [← Nat.add_assoc, ← Nat.add_assoc]; exact j1, by omega⟩
    rcases s with ⟨_, rfl, rfl⟩ | ⟨_, _, _, _, rfl, _⟩
    · exact gp
    · exact gp
theorem OutR.lim {ks : List Nat} {n w : Nat} {C C' : Cc} {D D' : Dv} (h : OutR ks C D C' D') (hC : C.Lim D) (hD : D.Lim n w) : C'.Lim D' ∧ D'.Lim (n + ks.length) (w + ks.length) ∧ D'.L.length = D.L.length ∧ C'.cap = C.cap ∧ C'.mb = C.mb ∧ C'.ls.length = C.ls.length := by
  induction h with
  | nil => exact ⟨hC, hD.mono (by omega) (by omega), rfl, rfl, rfl, rfl⟩
  | step h s ih =>
    obtain ⟨g1, g2, g3, g4, g5, g6⟩ := ih hC hD
    obtain ⟨i1, i2, i3, i4, i5, i6⟩ := s.lim g1 g2
    exact ⟨i1, i2.mono (by simp; omega) (by simp; omega), by omega, i4.trans g4, i5.trans g5, i6.trans g6⟩
theorem Wr.dead {D D' : Dv} {k : Nat} {t : Bs} (h : Wr D D' k t) : D'.dead = D.dead ∧ D'.fused = D.fused := by
  obtain ⟨x, x', m0, _, _, rfl⟩ := h
  exact ⟨rfl, rfl⟩
section
variable {m m' : M} {c d cb : Nat} {C : Cc} {D : Dv}
set_option maxHeartbeats 2000000 in
theorem cout (hw : Wf m) (h : CcAt m c d C) (hd : DvAt m d cb D) (hC : C.Lim D) {n w : Nat} (hD : D.Lim n w) {x : AV} {zs : List Int} (hx1 : cellsO x = some [x]) (hx : ∀ m', Keep m m' (fun _ => False) → Vs m' x zs) (hzl : zs.length * 8 ≤ 140737488355328) (hn : n + dcl C.ls < 400) (hw9 : w + 400 ≤ 1000000000) {ks : List Nat} (hks : isort zs = ks.map fun k : Nat => (k : Int)) (hr : ∀ k ∈ ks, k < D.L.length) {Q : AV → M → Prop}
    (hQ1 : ∀ m' C' D', OutR ks C D C' D' → CcAt m' c d C' → DvAt m' d cb D' → KeepK m m' cdK [] → Grow m.next C D C' D' → Q (iv 0) m')
    (hQ2 : (D.fused = true ∨ D.dead = true) → ∀ m' C' D' i, OutR (ks.take i) C D C' D' → CcAt m' c d C' → D'.dies = true → DvAt m' d cb { D' with dead := true } → KeepK m m' cdK [] → Q (iv 7) m') : WpF Try.prog tb fn_Ca_Out [.ptr c 0, x] m Q := by
  refine WpF.go at_Ca_Out ?_
  simp -implicitDefEqProofs only [o_Ca_Out, r_Ca_Out_0, r_Ca_Out_1, r_Ca_Out_3, b_np28, o_mv, o_eqp, v_rto, v_eqp_n, ev_tm, ev_cst, evs_cons, evs_nil, putD_some, fill_cons, fill_nil, ↓reduceIte, Nat.reduceEqDiff, Nat.reduceAdd, Nat.zero_add, List.append_nil, GO_nil, GO_op, GO_call, GN_some, GF_func, GX_skip, GX_reg, GX_seq, GX_cond, RK_app, SK_normal, GC_false]
  refine values_spec hw hx1 fun m1 B hB k1 n1 => ?_
  have hw1 := k1.wf
  simp -implicitDefEqProofs only [ev_tm, ev_cst, evs_cons, evs_nil, putD_some, ↓reduceIte, List.append_nil, GO_call, GF_func, CK_app]
  refine sorted_spec hw1 hB (fun m' k' => hx m' (k1.tf k')) hzl fun v m2 o hv k2 ho => ?_
  have hw2 := k2.wf
  have h2 := (h.k0 hw k1).k0 hw1 k2
  have hd2 := (hd.k0 hw k1).k0 hw1 k2
  have hlen : ks.length = zs.length := by
    have := congrArg List.length hks
    rw [len_isort, List.length_map] at this
    omega
  rw [hks, List.map_map, ← hlen] at hv
  have hvl := hv.len
  simp -implicitDefEqProofs only [o_Ca_Out, r_Ca_Out_4, hvl, o_mv, o_len, v_ob, ev_tm, ev_cst, putD_some, ↓reduceIte, GO_nil, GO_op, GN_some, CK_app, GX_reg, GX_seq, GX_block, RK_app, SK_normal]
  refine GX_loop (fun j fr mk => ∃ k, k ≤ ks.length ∧ j = ks.length - k ∧ (ev (tm 0) fr = .ptr c 0 ∧ ev (tm 1) fr = v ∧ ev (tm 16) fr = v ∧ ev (tm 17) fr = iv (ks.length : Nat) ∧ ev (tm 18) fr = iv (k : Nat)) ∧ mk = m2) (k := ks.length) ⟨0, Nat.zero_le _, rfl, by simp -implicitDefEqProofs only [ev_tm, ↓reduceIte, Nat.reduceEqDiff, nc0, and_self], rfl⟩ ?_
  rintro j fr mk ⟨k, hk, rfl, ⟨e0, e1, e16, e17, e18⟩, rfl⟩
  by_cases hlt : k < ks.length
  · obtain ⟨b, cap, hvx, _, hrd⟩ := elem1 hv hlt
    have hz : ks[k]? = some ks[k] := List.getElem?_eq_getElem hlt
    rw [List.getElem?_map, hz] at hrd
    have hin := hr ks[k] (List.getElem_mem hlt)
    generalize ks[k] = z at hz hrd hin
    have hrd' : mk.rd b k = some (iv (z : Int)) := hrd
    simp -implicitDefEqProofs only [o_Ca_Out, r_Ca_Out_5, r_Ca_Out_6, r_Ca_Out_7, r_Ca_Out_8, r_Ca_Out_10, e0, e16, e17, e18, hvx, show ((k : Int) < (ks.length : Int)) = True from eq_true (by omega), v_iaS 1 b 0 ks.length cap false hlt, Nat.mul_one, hrd', (cknown h2 hd2 hin).eq, b_add ty_int (show -9223372036854775808 ≤ (k : Int) + 1 by omega) (show (k : Int) + 1 ≤ 9223372036854775807 by omega), o_mv, o_load, o_add, o_lt, o_ne, o_iaS, v_elPtr, v_rto, b_lt, b_ne, ev_tm, ev_cst, evs_cons, evs_nil, putD_some, ↓reduceIte, Nat.reduceEqDiff, Nat.zero_add, decide_true, Bool.not_true, List.append_nil, GO_nil, GO_op, GO_call, GN_some, GF_func, CK_app, GX_skip, GX_reg, GX_seq, GX_cond, GX_block, RK_app, SK_normal, GC_true, GC_false, BK_normal]
    exact LK_n (k' := ks.length - (k + 1)) (by omega) ⟨k + 1, by omega, rfl, by simp -implicitDefEqProofs only [e0, e1, e16, e17, hvx, show (k : Int) + 1 = ((k + 1 : Nat) : Int) from rfl, ev_tm, ↓reduceIte, Nat.reduceEqDiff, and_self], rfl⟩
  have hke : k = ks.length := by omega
  subst hke
  simp -implicitDefEqProofs only [o_Ca_Out, r_Ca_Out_5, r_Ca_Out_11, e1, e17, e18, hvl, o_mv, o_lt, o_len, v_ob, v_rto, b_lt, ev_tm, ev_cst, putD_some, nbeq, ↓reduceIte, Nat.reduceEqDiff, decide_true, decide_false, GO_nil, GO_op, GN_some, GX_reg, GX_seq, GX_cond, GX_block, GX_exit, RK_app, SK_normal, SK_exit, GC_false, BK_exit, BE_true, LK_exit, ilt]
  clear e16 e17 e18
  refine GX_loop (fun j fr mm => ∃ k C1 D1, k ≤ ks.length ∧ j = ks.length - k ∧ (ev (tm 0) fr = .ptr c 0 ∧ ev (tm 29) fr = v ∧ ev (tm 30) fr = iv (ks.length : Nat) ∧ ev (tm 31) fr = iv (k : Nat)) ∧ OutR (ks.take k) C D C1 D1 ∧ CcAt mm c d C1 ∧ DvAt mm d cb D1 ∧ KeepK mk mm cdK [] ∧ Grow m.next C D C1 D1 ∧ D1.fused = D.fused ∧ D1.dead = D.dead) (k := ks.length) ⟨0, C, D, Nat.zero_le _, rfl, by simp -implicitDefEqProofs only [e0, ev_tm, ↓reduceIte, Nat.reduceEqDiff, nc0, and_self], .nil, h2, hd2, Keep.refl hw2 _, .refl, rfl, rfl⟩ ?_
  rintro j fr mm ⟨k, C1, D1, hk, rfl, ⟨e0, e29, e30, e31⟩, hO, h3, hd3, k3, hgr, ef, ed⟩
  have hw3 := k3.wf
  obtain ⟨hC1, _, hL1, _, em1, _, _, xw, hD1, hxw⟩ := hO.cnt h.old.nb hC hD
  by_cases hlt : k < ks.length
  · obtain ⟨b, cap, hvx, _, hrd⟩ := elem1 (hv.kp hw2 k3) hlt
    have hz : ks[k]? = some ks[k] := List.getElem?_eq_getElem hlt
    rw [List.getElem?_map, hz] at hrd
    have hin := hr ks[k] (List.getElem_mem hlt)
    have htk : ks.take (k + 1) = ks.take k ++ [ks[k]] := by rw [List.take_add_one, hz]; rfl
    generalize ks[k] = z at hz hrd hin htk
    have hrd' : mm.rd b k = some (iv (z : Int)) := hrd
    have hst : (∃ C2 D2 m4, Stp z C1 D1 C2 D2 ∧ CcAt m4 c d C2 ∧ DvAt m4 d cb D2 ∧ KeepK mm m4 cdK [] ∧ Grow m.next C1 D1 C2 D2 ∧ D2.fused = D1.fused ∧ D2.dead = D1.dead ∧ Ran Try.prog tb fn_Ca_write [.ptr c 0, iv (z : Nat)] mm (iv 0) m4) ∨ (D1.dies = true ∧ ∃ m4, CcAt m4 c d C1 ∧ DvAt m4 d cb { D1 with dead := true } ∧ KeepK mm m4 cdK [] ∧ Ran Try.prog tb fn_Ca_write [.ptr c 0, iv (z : Nat)] mm (iv 7) m4) := by
      cases hf : fl C1.ls z with
      | none => exact .inl ⟨C1, D1, mm, .inl ⟨fun l h => (by rw [hf] at h; cases h), rfl, rfl⟩, h3, hd3, Keep.refl hw3 _, .refl, rfl, rfl, cwrite_none h3 hf⟩
      | some l =>
        cases hdl : l.dirty with
        | false => exact .inl ⟨C1, D1, mm, .inl ⟨fun l' h => (by rw [hf] at h; cases h; exact hdl), rfl, rfl⟩, h3, hd3, Keep.refl hw3 _, .refl, rfl, rfl, cwrite_clean h3 hf hdl⟩
        | true =>
          cases hdies : D1.dies with
          | true =>
            obtain ⟨m4, h4, hd4, k4, r4⟩ := cwrite_dead hw3 h3 hd3 hdies hC1 hf hdl
            exact .inr ⟨rfl, m4, h4, hd4, k4, r4⟩
          | false =>
            have hxz : D1.L[z]? = some (D1.L[z]'(by omega)) := List.getElem?_eq_getElem _
            obtain ⟨m4, x', hp, h4, hd4, k4, r4⟩ := cwrite_ok hw3 h3 hd3 hdies hC1 hD1 (by omega) (by omega) hf hdl hxz
            refine .inl ⟨_, _, m4, .inr ⟨l, hf, hdl, hdies, rfl, _, _, _, hxz, hp, rfl⟩, h4, hd4, k4, ?_, rfl, rfl, r4⟩
            have g0 : Grow m.next C1 D1 { C1 with ls := setl C1.ls { l with dirty := false } } D1 := .lines fun y hy => by
              obtain ⟨y', hy', ⟨_, rfl⟩ | ⟨_, rfl⟩⟩ := setl_mem hy
              · exact .inl ⟨l, (fl_some hf).1, rfl⟩
              · exact .inl ⟨y, hy', rfl⟩
            exact g0.trans (.push (n0 := mm.next) hxz hp rfl) (by have := k1.next; have := k2.next; have := k3.next; omega)
    rcases hst with ⟨C2, D2, m4, hs4, h4, hd4, k4, hg4, ef4, ed4, r4⟩ | ⟨hdies, m4, h4, hd4, k4, r4⟩
    · simp -implicitDefEqProofs only [o_Ca_Out, r_Ca_Out_12, r_Ca_Out_13, r_Ca_Out_14, r_Ca_Out_15, r_Ca_Out_17, e0, e29, e30, e31, hvx, show ((k : Int) < (ks.length : Int)) = True from eq_true (by omega), v_iaS 1 b 0 ks.length cap false hlt, Nat.mul_one, hrd', r4.eq, b_add ty_int (show -9223372036854775808 ≤ (k : Int) + 1 by omega) (show (k : Int) + 1 ≤ 9223372036854775807 by omega), o_mv, o_load, o_add, o_lt, o_ne, o_iaS, v_elPtr, v_rto, b_lt, b_ne, ev_tm, ev_cst, evs_cons, evs_nil, putD_some, ↓reduceIte, Nat.reduceEqDiff, Nat.zero_add, decide_true, Bool.not_true, List.append_nil, GO_nil, GO_op, GO_call, GN_some, GF_func, CK_app, GX_skip, GX_reg, GX_seq, GX_cond, GX_block, RK_app, SK_normal, GC_true, GC_false, BK_normal]
      exact LK_n (k' := ks.length - (k + 1)) (by omega) ⟨k + 1, C2, D2, by omega, rfl, by simp -implicitDefEqProofs only [e0, e29, e30, hvx, show (k : Int) + 1 = ((k + 1 : Nat) : Int) from rfl, ev_tm, ↓reduceIte, Nat.reduceEqDiff, and_self], htk ▸ hO.step hs4, h4, hd4, k3.tk k4, hgr.trans hg4 (Nat.le_refl _), ef4.trans ef, ed4.trans ed⟩
    · simp -implicitDefEqProofs only [o_Ca_Out, r_Ca_Out_12, r_Ca_Out_13, r_Ca_Out_14, r_Ca_Out_15, r_Ca_Out_16, e0, e29, e30, e31, hvx, show ((k : Int) < (ks.length : Int)) = True from eq_true (by omega), v_iaS 1 b 0 ks.length cap false hlt, Nat.mul_one, hrd', r4.eq, show ((7 : Int) = 0) = False from eq_false (by omega), o_mv, o_load, o_lt, o_ne, o_iaS, v_elPtr, v_rto, b_lt, b_ne, ev_tm, ev_cst, evs_cons, evs_nil, putD_some, ↓reduceIte, Nat.reduceEqDiff, Nat.zero_add, decide_true, decide_false, Bool.not_false, List.append_nil, GO_nil, GO_op, GO_call, GN_some, GF_func, CK_app, GX_skip, GX_reg, GX_seq, GX_cond, GX_block, GX_ret, RK_app, SK_normal, SK_ret, GC_true, BK_ret, LK_ret, FK_ret1]
      refine hQ2 ?_ m4 C1 D1 k hO h4 hdies hd4 ((k1.ft k2).k0.tk (k3.tk k4))
      unfold Dv.dies at hdies
      rw [ef, ed] at hdies
      cases e1 : D.dead with
      | true => exact .inr rfl
      | false =>
        rw [e1, Bool.false_or, Bool.and_eq_true] at hdies
        exact .inl hdies.1
  have hke : k = ks.length := by omega
  subst hke
  rw [List.take_length] at hO
  simp -implicitDefEqProofs only [o_Ca_Out, r_Ca_Out_12, r_Ca_Out_18, e30, e31, o_mv, o_lt, v_rto, b_lt, ev_tm, ev_cst, putD_some, nbeq, ↓reduceIte, decide_true, decide_false, GO_nil, GO_op, GN_some, GX_reg, GX_seq, GX_cond, GX_exit, GX_ret, RK_app, SK_normal, SK_exit, GC_false, BK_exit, BE_true, LK_exit, FK_ret1, ilt]
  exact hQ1 mm C1 D1 hO h3 hd3 ((k1.ft k2).k0.tk k3) hgr
set_option maxRecDepth 20000 in
set_option maxHeartbeats 2000000 in
/-- Out, where a number is no block's. -/
theorem cout_no (hw : Wf m) (h : CcAt m c d C) (hd : DvAt m d cb D) (hL : D.L.length ≤ 1000000) {x : AV} {zs : List Int} (hx1 : cellsO x = some [x]) (hx : ∀ m', Keep m m' (fun _ => False) → Vs m' x zs) (hzl : zs.length * 8 ≤ 140737488355328) (hno : ∃ z ∈ zs, z < 0 ∨ (D.L.length : Int) ≤ z) {Q : AV → M → Prop}
    (hQ : ∀ m', Keep m m' (fun _ => False) → Q (iv 2) m') : WpF Try.prog tb fn_Ca_Out [.ptr c 0, x] m Q := by
  refine WpF.go at_Ca_Out ?_
  simp -implicitDefEqProofs only [o_Ca_Out, r_Ca_Out_0, r_Ca_Out_1, r_Ca_Out_3, b_np28, o_mv, o_eqp, v_rto, v_eqp_n, ev_tm, ev_cst, evs_cons, evs_nil, putD_some, fill_cons, fill_nil, ↓reduceIte, Nat.reduceEqDiff, Nat.reduceAdd, Nat.zero_add, List.append_nil, GO_nil, GO_op, GO_call, GN_some, GF_func, GX_skip, GX_reg, GX_seq, GX_cond, RK_app, SK_normal, GC_false]
  refine values_spec hw hx1 fun m1 B hB k1 n1 => ?_
  have hw1 := k1.wf
  simp -implicitDefEqProofs only [ev_tm, ev_cst, evs_cons, evs_nil, putD_some, ↓reduceIte, List.append_nil, GO_call, GF_func, CK_app]
  refine sorted_spec hw1 hB (fun m' k' => hx m' (k1.tf k')) hzl fun v m2 o hv k2 ho => ?_
  have hw2 := k2.wf
  have h2 := (h.k0 hw k1).k0 hw1 k2
  have hd2 := (hd.k0 hw k1).k0 hw1 k2
  have hlen : (isort zs).length = zs.length := len_isort zs
  have hvl := hv.len
  simp -implicitDefEqProofs only [o_Ca_Out, r_Ca_Out_4, hvl, o_mv, o_len, v_ob, ev_tm, ev_cst, putD_some, ↓reduceIte, GO_nil, GO_op, GN_some, CK_app, GX_reg, GX_seq, GX_block, RK_app, SK_normal]
  refine GX_loop (fun j fr mk => ∃ k, k ≤ zs.length ∧ j = zs.length - k ∧ (ev (tm 0) fr = .ptr c 0 ∧ ev (tm 1) fr = v ∧ ev (tm 16) fr = v ∧ ev (tm 17) fr = iv (zs.length : Nat) ∧ ev (tm 18) fr = iv (k : Nat)) ∧ (∀ z ∈ (isort zs).take k, 0 ≤ z ∧ z < (D.L.length : Int)) ∧ mk = m2) (k := zs.length) ⟨0, Nat.zero_le _, rfl, by simp -implicitDefEqProofs only [ev_tm, ↓reduceIte, Nat.reduceEqDiff, nc0, and_self], fun z hz => (by rw [List.take_zero] at hz; cases hz), rfl⟩ ?_
  rintro j fr mk ⟨k, hk, rfl, ⟨e0, e1, e16, e17, e18⟩, hall, rfl⟩
  by_cases hlt : k < zs.length
  · obtain ⟨b, cap, hvx, _, hrd⟩ := elem1 hv hlt
    have hz : (isort zs)[k]? = some ((isort zs)[k]'(by omega)) := List.getElem?_eq_getElem _
    rw [List.getElem?_map, hz] at hrd
    have htk : (isort zs).take (k + 1) = (isort zs).take k ++ [(isort zs)[k]'(by omega)] := by rw [List.take_add_one, hz]; rfl
    generalize (isort zs)[k]'(by omega) = z at hz hrd htk
    have hrd' : mk.rd b k = some (iv z) := hrd
    have hlz : (zs.length : Int) ≤ 17592186044416 := by omega
    by_cases hin : 0 ≤ z ∧ z < (D.L.length : Int)
    · obtain ⟨zn, rfl⟩ : ∃ zn : Nat, z = zn := ⟨z.toNat, by omega⟩
      simp -implicitDefEqProofs only [o_Ca_Out, r_Ca_Out_5, r_Ca_Out_6, r_Ca_Out_7, r_Ca_Out_8, r_Ca_Out_10, e0, e16, e17, e18, hvx, show ((k : Int) < (zs.length : Int)) = True from eq_true (by omega), v_iaS 1 b 0 zs.length cap false hlt, Nat.mul_one, hrd', (cknown h2 hd2 (k := zn) (by omega)).eq, b_add ty_int (show -9223372036854775808 ≤ (k : Int) + 1 by omega) (show (k : Int) + 1 ≤ 9223372036854775807 by omega), o_mv, o_load, o_add, o_lt, o_ne, o_iaS, v_elPtr, v_rto, b_lt, b_ne, ev_tm, ev_cst, evs_cons, evs_nil, putD_some, ↓reduceIte, Nat.reduceEqDiff, Nat.zero_add, decide_true, Bool.not_true, List.append_nil, GO_nil, GO_op, GO_call, GN_some, GF_func, CK_app, GX_skip, GX_reg, GX_seq, GX_cond, GX_block, RK_app, SK_normal, GC_true, GC_false, BK_normal]
      refine LK_n (k' := zs.length - (k + 1)) (by omega) ⟨k + 1, by omega, rfl, by simp -implicitDefEqProofs only [e0, e1, e16, e17, hvx, show (k : Int) + 1 = ((k + 1 : Nat) : Int) from rfl, ev_tm, ↓reduceIte, Nat.reduceEqDiff, and_self], fun z hz => ?_, rfl⟩
      rw [htk] at hz
      rcases List.mem_append.1 hz with hz | hz
      · exact hall z hz
      · cases List.mem_singleton.1 hz; exact hin
    · have hkn : Ran Try.prog tb fn_Ca_known [.ptr c 0, iv z] mk (iv 2) mk := by
        refine WpF.go at_Ca_known ?_
        by_cases hneg : z < 0
        · simp -implicitDefEqProofs only [o_Ca_known, r_Ca_known_0, r_Ca_known_1, r_Ca_known_3, r_Ca_known_4, b_np28, eq_true hneg, o_mv, o_pick, o_lt, o_eqp, v_elB, v_rto, v_eqp_n, b_lt, ev_tm, ev_cst, evs_cons, evs_nil, putD_some, fill_cons, fill_nil, want_b, bc_true, ↓reduceIte, Nat.reduceEqDiff, Nat.reduceAdd, Nat.zero_add, decide_true, Bool.not_false, GO_nil, GO_op, GO_opG, GO_callG, GN_some, GG_false, GFG_false, GX_reg, GX_seq, GX_cond, GX_block, GX_ret, RK_app, SK_normal, SK_ret, GC_true, GC_false, BK_ret, FK_ret1, and_self]
        · simp -implicitDefEqProofs only [o_Ca_known, r_Ca_known_0, r_Ca_known_1, r_Ca_known_3, r_Ca_known_4, b_np28, h2.old.ca.rd, eq_false hneg, (dblocks hd2).eq, show ((D.L.length : Int) ≤ z) = True from eq_true (by omega), o_mv, o_pick, o_load, o_nil, o_lt, o_ge, o_eqp, o_fa, v_elB, v_elPtr, v_rto, v_nil, v_eqp_n, v_fa, b_lt, b_ge, ev_tm, ev_cst, evs_cons, evs_nil, putD_some, fill_cons, fill_nil, want_b, bc_false, ↓reduceIte, Nat.reduceEqDiff, Nat.reduceAdd, Nat.zero_add, Nat.add_zero, decide_true, decide_false, Bool.not_false, List.getElem?_cons_zero, GO_nil, GO_op, GO_opG, GO_callG, GN_some, GG_true, GFG_true, CK_app, GX_reg, GX_seq, GX_cond, GX_block, GX_ret, RK_app, SK_normal, SK_ret, GC_true, GC_false, BK_ret, FK_ret1, and_self]
      simp -implicitDefEqProofs only [o_Ca_Out, r_Ca_Out_5, r_Ca_Out_6, r_Ca_Out_7, r_Ca_Out_8, r_Ca_Out_9, e0, e16, e17, e18, hvx, show ((k : Int) < (zs.length : Int)) = True from eq_true (by omega), v_iaS 1 b 0 zs.length cap false hlt, Nat.mul_one, hrd', hkn.eq, show ((2 : Int) = 0) = False from eq_false (by omega), o_mv, o_load, o_lt, o_ne, o_iaS, v_elPtr, v_rto, b_lt, b_ne, ev_tm, ev_cst, evs_cons, evs_nil, putD_some, ↓reduceIte, Nat.reduceEqDiff, Nat.zero_add, decide_true, decide_false, Bool.not_false, List.append_nil, GO_nil, GO_op, GO_call, GN_some, GF_func, CK_app, GX_skip, GX_reg, GX_seq, GX_cond, GX_block, GX_ret, RK_app, SK_normal, SK_ret, GC_true, BK_ret, LK_ret, FK_ret1]
      exact hQ mk (k1.tf k2)
  have hke : k = zs.length := by omega
  subst hke
  obtain ⟨z, hz, hzo⟩ := hno
  have := hall z (by rw [← hlen, List.take_length]; exact mem_isort.2 hz)
  omega
end
end Go.Proofs.Ytmkbjcjlnidjiaa
set_option linter.unusedVariables false
set_option linter.unusedVariables false
/- What is read through a cache: the plain law of its calls. -/
namespace Go.Proofs.Ytmkbjcjlnidjiaa
open Go Go.Am
/-- What a device reads at a block. -/
def Dv.rd (D : Dv) (k : Nat) : Option Bs := (D.L[k]?).map fun x => x.last.2.1
/-- What a cache reads at a block. -/
def vw (C : Cc) (D : Dv) (k : Nat) : Option Bs := match fl C.ls k with
  | some l => some l.dl
  | none => D.rd k
/-- What is clean is as on the device. -/
def Con (C : Cc) (D : Dv) : Prop := ∀ l ∈ C.ls, l.dirty = false → D.rd l.b = some l.dl
abbrev Nb (C : Cc) : Prop := (C.ls.map (·.b)).Nodup
/-- The pins of a block; none: it is not held. -/
def pinsOf (C : Cc) (k : Nat) : Nat := match fl C.ls k with
  | some l => l.pins
  | none => 0
theorem Wr.rd {D D' : Dv} {k : Nat} {t : Bs} (h : Wr D D' k t) (j : Nat) : D'.rd j = if j = k then some t else D.rd j := by
  obtain ⟨x, x', m0, hx, hp, rfl⟩ := h
  have hk := (List.getElem?_eq_some_iff.1 hx).1
  unfold Dv.rd
  show ((D.L.set k x')[j]?).map _ = _
  rw [List.getElem?_set]
  by_cases e : k = j
  · subst e
    rw [if_pos rfl, if_pos hk, if_pos rfl, Option.map_some, hp.last]
  · rw [if_neg e, if_neg fun h => e h.symm]
theorem fl_rm (ls : List Ln) (v k : Nat) : fl (rm ls v) k = if k = v then none else fl ls k := by
  induction ls with
  | nil => unfold fl rm; split <;> rfl
  | cons x ls ih =>
    unfold rm at ih ⊢
    rw [List.filter_cons]
    by_cases e : x.b = v
    · rw [decide_eq_true e]
      simp only [Bool.not_true, Bool.false_eq_true, if_false]
      rw [ih]
      by_cases h : k = v
      · rw [if_pos h, if_pos h]
      · rw [if_neg h, if_neg h]
        unfold fl
        rw [List.find?_cons, decide_eq_false (by omega)]
    · rw [decide_eq_false e]
      simp only [Bool.not_false, if_true]
      unfold fl at ih ⊢
      rw [List.find?_cons, List.find?_cons]
      by_cases h2 : x.b = k
      · rw [decide_eq_true h2, if_neg (by omega)]
      · rw [decide_eq_false h2]; exact ih
theorem fl_addl (ls : List Ln) (n : Ln) (k : Nat) : fl (ls ++ [n]) k = (fl ls k).or (if n.b = k then some n else none) := by
  unfold fl
  rw [List.find?_append]
  congr 1
  by_cases h : n.b = k
  · rw [if_pos h, List.find?_cons, decide_eq_true h]
  · rw [if_neg h, List.find?_cons, decide_eq_false h]; rfl
theorem fl_setl (ls : List Ln) (n : Ln) (k : Nat) : fl (setl ls n) k = if k = n.b then (fl ls k).map fun _ => n else fl ls k := by
  induction ls with
  | nil => unfold fl setl; split <;> rfl
  | cons x ls ih =>
    unfold setl at ih ⊢
    unfold fl at ih ⊢
    rw [List.map_cons, List.find?_cons, List.find?_cons]
    by_cases h : x.b = n.b
    · rw [if_pos h]
      by_cases h2 : n.b = k
      · rw [decide_eq_true h2, decide_eq_true (by omega : x.b = k), if_pos h2.symm]; rfl
      · rw [decide_eq_false h2, decide_eq_false (by omega : ¬ x.b = k), ih]
    · rw [if_neg h]
      by_cases h2 : x.b = k
      · rw [decide_eq_true h2, if_neg (by omega)]
      · rw [decide_eq_false h2]; exact ih
theorem rm_nb {C C' : Cc} {v : Nat} (h : Nb C) (e : C'.ls = rm C.ls v) : Nb C' := by
  unfold Nb
  rw [e]
  exact h.sublist (List.Sublist.map _ List.filter_sublist)
theorem Rm.good {C C' : Cc} {D D' : Dv} (h : Rm C D C' D') (hn : Nb C) (hc : Con C D) : Nb C' ∧ Con C' D' ∧ (∀ k, vw C' D' k = vw C D k) ∧ (∀ k, 0 < pinsOf C k → fl C'.ls k = fl C.ls k) ∧ (∀ k l, fl C'.ls k = some l → fl C.ls k = some l) := by
  rcases h with ⟨hlt, rfl, rfl⟩ | ⟨hlt, v, hv, hvp, e1, e2, e3, _, ho⟩
  · exact ⟨hn, hc, fun _ => rfl, fun _ _ => rfl, fun _ _ h => h⟩
  · have hfv := fl_mem hn hv
    refine ⟨rm_nb hn e1, fun l hl hd => ?_, fun k => ?_, fun k hk => ?_, fun k l hk => ?_⟩
    · rw [e1] at hl
      obtain ⟨h1, h2⟩ := rm_mem hl
      rcases ho with ⟨_, rfl⟩ | ⟨_, _, hw⟩
      · exact hc l h1 hd
      · rw [hw.rd, if_neg h2]; exact hc l h1 hd
    · unfold vw
      rw [e1, fl_rm]
      by_cases hk : k = v.b
      · subst hk
        rw [if_pos rfl, hfv]
        rcases ho with ⟨hd, rfl⟩ | ⟨_, _, hw⟩
        · exact hc v hv hd
        · show D'.rd v.b = _
          rw [hw.rd, if_pos rfl]
      · rw [if_neg hk]
        cases fl C.ls k with
        | some l => rfl
        | none =>
          rcases ho with ⟨hd, rfl⟩ | ⟨_, _, hw⟩
          · rfl
          · show D'.rd k = _
            rw [hw.rd, if_neg hk]
    · rw [e1, fl_rm, if_neg]
      intro e
      subst e
      unfold pinsOf at hk
      rw [hfv] at hk
      have : 0 < v.pins := hk
      omega
    · rw [e1, fl_rm] at hk
      by_cases e : k = v.b
      · rw [if_pos e] at hk; cases hk
      · rw [if_neg e] at hk; exact hk
theorem addl_nb {C : Cc} {n : Ln} (hn : Nb C) (hf : fl C.ls n.b = none) : Nb { C with ls := C.ls ++ [n] } := by
  show ((C.ls ++ [n]).map (·.b)).Nodup
  rw [List.map_append, List.nodup_append]
  refine ⟨hn, by simp, fun a ha b hb => ?_⟩
  obtain ⟨l, hl, rfl⟩ := List.mem_map.1 ha
  cases List.mem_singleton.1 hb
  exact fl_none hf l hl
theorem GetR.good {C C2 : Cc} {D D2 : Dv} {k : Nat} {t : Bs} (h : GetR C D k t C2 D2) (hn : Nb C) (hc : Con C D) : Nb C2 ∧ Con C2 D2 ∧ (∀ j, vw C2 D2 j = vw C D j) ∧ vw C D k = some t ∧ (∀ j, pinsOf C2 j = pinsOf C j) := by
  rcases h with ⟨l, hf, rfl, rfl, rfl⟩ | ⟨hf, C1, n, x, hr, rfl, hb, hp, hd, hdl, hx, ht⟩
  · exact ⟨hn, hc, fun _ => rfl, by unfold vw; rw [hf], fun _ => rfl⟩
  · obtain ⟨h1, h2, h3, h4, h5⟩ := hr.good hn hc
    have hf1 : fl C1.ls n.b = none := by rw [hb]; exact hr.none hf
    have hrd : D2.rd k = some t := by unfold Dv.rd; rw [hx, ← ht]; rfl
    have hvk : vw C D k = some t := by
      rw [← h3 k]
      unfold vw
      rw [hr.none hf]; exact hrd
    refine ⟨addl_nb h1 hf1, fun l hl hld => ?_, fun j => ?_, hvk, fun j => ?_⟩
    · rcases List.mem_append.1 hl with hl | hl
      · exact h2 l hl hld
      · cases List.mem_singleton.1 hl
        rw [hb, hdl]; exact hrd
    · rw [← h3 j]
      unfold vw
      rw [fl_addl]
      cases hfj : fl C1.ls j with
      | some l => rfl
      | none =>
        by_cases e : n.b = j
        · rw [if_pos e]
          show some n.dl = D2.rd j
          rw [← e, hb, hrd, hdl]
        · rw [if_neg e]; rfl
    · unfold pinsOf
      rw [fl_addl]
      cases hfj : fl C1.ls j with
      | some l => rw [h5 j l hfj]; rfl
      | none =>
        have hz : (match fl C.ls j with | some l => l.pins | none => 0) = 0 := by
          rcases Nat.eq_zero_or_pos (pinsOf C j) with h | h
          · exact h
          · have := h4 j h
            rw [hfj] at this
            rw [← this]
        rw [hz]
        by_cases e : n.b = j
        · rw [if_pos e]; exact hp
        · rw [if_neg e]; rfl
theorem PutR.good {C C2 : Cc} {D D2 : Dv} {k : Nat} {t : Bs} (h : PutR C D k t C2 D2) (hn : Nb C) (hc : Con C D) : Nb C2 ∧ Con C2 D2 ∧ (∀ j, vw C2 D2 j = if j = k then some t else vw C D j) ∧ (∀ j, pinsOf C2 j = pinsOf C j) := by
  rcases h with ⟨l, n, hf, hb, hp, hpins, hd, hdl, rfl, rfl⟩ | ⟨hf, C1, n, hr, rfl, hb, hp, hd, hdl⟩
  · refine ⟨by unfold Nb; rw [show ({ C with ls := setl C.ls n } : Cc).ls = setl C.ls n from rfl, setl_b]; exact hn, fun x hx hxd => ?_, fun j => ?_, fun j => ?_⟩
    · obtain ⟨y, hy, ⟨_, rfl⟩ | ⟨e, rfl⟩⟩ := setl_mem hx
      · rw [hd] at hxd; cases hxd
      · exact hc x hy hxd
    · unfold vw
      rw [fl_setl, hb]
      by_cases e : j = k
      · subst e
        rw [if_pos rfl, if_pos rfl, hf]
        show some n.dl = _
        rw [hdl]
      · rw [if_neg e, if_neg e]
    · unfold pinsOf
      rw [fl_setl, hb]
      by_cases e : j = k
      · subst e
        rw [if_pos rfl, hf]
        exact hpins
      · rw [if_neg e]
  · obtain ⟨h1, h2, h3, h4, h5⟩ := hr.good hn hc
    have hf1 : fl C1.ls n.b = none := by rw [hb]; exact hr.none hf
    refine ⟨addl_nb h1 hf1, fun l hl hld => ?_, fun j => ?_, fun j => ?_⟩
    · rcases List.mem_append.1 hl with hl | hl
      · exact h2 l hl hld
      · cases List.mem_singleton.1 hl
        rw [hd] at hld; cases hld
    · by_cases e : j = k
      · subst e
        rw [if_pos rfl]
        unfold vw
        rw [fl_addl, hr.none hf, if_pos hb]
        show some n.dl = _
        rw [hdl]
      · rw [if_neg e, ← h3 j]
        unfold vw
        rw [fl_addl, if_neg (by omega : ¬ n.b = j)]
        cases fl C1.ls j <;> rfl
    · unfold pinsOf
      rw [fl_addl]
      cases hfj : fl C1.ls j with
      | some l => rw [h5 j l hfj]; rfl
      | none =>
        have hz : (match fl C.ls j with | some l => l.pins | none => 0) = 0 := by
          rcases Nat.eq_zero_or_pos (pinsOf C j) with h | h
          · exact h
          · have := h4 j h
            rw [hfj] at this
            rw [← this]
        rw [hz]
        by_cases e : n.b = j
        · rw [if_pos e]; exact hp
        · rw [if_neg e]; rfl
theorem Stp.good {k : Nat} {C C2 : Cc} {D D2 : Dv} (h : Stp k C D C2 D2) (hn : Nb C) (hc : Con C D) : Nb C2 ∧ Con C2 D2 ∧ (∀ j, vw C2 D2 j = vw C D j) ∧ (∀ j, pinsOf C2 j = pinsOf C j) ∧ (∀ l, fl C2.ls k = some l → l.dirty = false) ∧ (∀ j l, fl C.ls j = some l → l.dirty = false → fl C2.ls j = some l) ∧ (∀ j, fl C.ls j = none → fl C2.ls j = none) := by
  rcases h with ⟨hf, rfl, rfl⟩ | ⟨l, hf, hd, hdies, rfl, hw⟩
  · exact ⟨hn, hc, fun _ => rfl, fun _ => rfl, hf, fun _ _ h _ => h, fun _ h => h⟩
  · obtain ⟨hlm, hlb⟩ := fl_some hf
    refine ⟨by unfold Nb; rw [show ({ C with ls := setl C.ls { l with dirty := false } } : Cc).ls = setl C.ls { l with dirty := false } from rfl, setl_b]; exact hn, fun x hx hxd => ?_, fun j => ?_, fun j => ?_, fun l' h => ?_, fun j l' h hd' => ?_, fun j h => ?_⟩
    · obtain ⟨y, hy, ⟨_, rfl⟩ | ⟨e, rfl⟩⟩ := setl_mem hx
      · show D2.rd l.b = some l.dl
        rw [hw.rd, if_pos hlb]
      · have e : ¬ x.b = l.b := e
        rw [hw.rd, if_neg (by omega)]; exact hc x hy hxd
    · unfold vw
      rw [fl_setl]
      show (match (if j = l.b then (fl C.ls j).map fun _ => { l with dirty := false } else fl C.ls j) with | some l => some l.dl | none => D2.rd j) = _
      by_cases e : j = l.b
      · rw [if_pos e, e, hlb, hf]; rfl
      · rw [if_neg e, hw.rd, if_neg (by omega)]
    · unfold pinsOf
      rw [fl_setl]
      show (match (if j = l.b then (fl C.ls j).map fun _ => { l with dirty := false } else fl C.ls j) with | some l => l.pins | none => 0) = _
      by_cases e : j = l.b
      · rw [if_pos e, e, hlb, hf]; rfl
      · rw [if_neg e]
    · have h : fl (setl C.ls { l with dirty := false }) k = some l' := h
      rw [fl_setl, if_pos hlb.symm, hf] at h
      cases h; rfl
    · show fl (setl C.ls { l with dirty := false }) j = some l'
      rw [fl_setl]
      by_cases e : j = l.b
      · rw [e, hlb, hf] at h
        cases h
        rw [hd] at hd'; cases hd'
      · rw [if_neg e]; exact h
    · show fl (setl C.ls { l with dirty := false }) j = none
      rw [fl_setl, h]
      split <;> rfl
theorem OutR.good {ks : List Nat} {C C2 : Cc} {D D2 : Dv} (h : OutR ks C D C2 D2) (hn : Nb C) (hc : Con C D) : Nb C2 ∧ Con C2 D2 ∧ (∀ j, vw C2 D2 j = vw C D j) ∧ (∀ j, pinsOf C2 j = pinsOf C j) ∧ (∀ k ∈ ks, ∀ l, fl C2.ls k = some l → l.dirty = false) ∧ (∀ j l, fl C.ls j = some l → l.dirty = false → fl C2.ls j = some l) ∧ (∀ j, fl C.ls j = none → fl C2.ls j = none) := by
  induction h with
  | nil => exact ⟨hn, hc, fun _ => rfl, fun _ => rfl, fun _ h => (by cases h), fun _ _ h _ => h, fun _ h => h⟩
  | @step ks k C C1 C2 D D1 D2 h s ih =>
    obtain ⟨g1, g2, g3, g4, g5, g6, g7⟩ := ih hn hc
    obtain ⟨i1, i2, i3, i4, i5, i6, i7⟩ := s.good g1 g2
    refine ⟨i1, i2, fun j => (i3 j).trans (g3 j), fun j => (i4 j).trans (g4 j), fun j hj l hl => ?_, fun j l h hd => i6 j l (g6 j l h hd) hd, fun j h => i7 j (g7 j h)⟩
    rcases List.mem_append.1 hj with hj | hj
    · cases hf : fl C1.ls j with
      | none => rw [i7 j hf] at hl; cases hl
      | some l1 =>
        have hd := g5 j hj l1 hf
        rw [i6 j l1 hf hd] at hl
        cases hl; exact hd
    · cases List.mem_singleton.1 hj
      exact i5 l hl
end Go.Proofs.Ytmkbjcjlnidjiaa
set_option linter.unusedVariables false
set_option linter.unusedVariables false
/- A new device, a new cache, All. -/
namespace Go.Proofs.Ytmkbjcjlnidjiaa
open Go Go.Am
theorem q_and : binS Try.prog .and ty_int (iv 64) (iv 63) = some (iv 0) := by kernel_rfl
theorem q_sub : binS Try.prog .sub ty_int (iv 64) (iv 1) = some (iv 63) := by kernel_rfl
theorem q_mul {n : Nat} (h : n ≤ 1000000) : binS Try.prog .mul ty_int (iv 64) (iv n) = some (iv (64 * n)) := by
  rw [binS_iv]
  show some (iv (IntKind.i64.wrap (64 * (n : Int)))) = _
  rw [IntWalk.i64_in _ ⟨by omega, by omega⟩]
theorem q_andop (t : TypeId) (x y : RO) (fr : Fr) (m : M) : run (.and (binS Try.prog .and t) x y) fr m = rto m (binS Try.prog .and t (ev x fr) (ev y fr)) := quick_and
def zeros : Bs := List.replicate 64 0
theorem splice_cl {n : Nat} {L : List Cw} {k : Nat} (hL : L.length = k) (hk : k < n) (c : Cw) (hc : c.wv = nils) : splice (dflat L ++ List.replicate ((n - k) * 2) nils) (k * 2) [c.av] = dflat (L ++ [c]) ++ List.replicate ((n - (k + 1)) * 2) nils := by
  have hd : (dflat L).length = k * 2 := by rw [dflat_len, hL]
  have hr : List.replicate ((n - k) * 2) nils = nils :: nils :: List.replicate ((n - (k + 1)) * 2) nils := by
    rw [show (n - k) * 2 = (n - (k + 1)) * 2 + 1 + 1 by omega, List.replicate_succ, List.replicate_succ]
  have hf : dflat (L ++ [c]) = dflat L ++ [c.av, nils] := by
    unfold dflat
    rw [List.flatMap_append, ← hc]
    rfl
  unfold splice
  rw [hf, hr, List.take_append_of_le_length (by omega), List.take_of_length_le (by omega), show [c.av].length = 1 from rfl, List.drop_append, List.drop_of_length_le (by omega), hd, show k * 2 + 1 - k * 2 = 1 by omega]
  simp
theorem rep_nn (n : Nat) : (List.replicate n [nils, nils]).flatten = List.replicate (n * 2) nils := by
  induction n with
  | zero => rfl
  | succ n ih => rw [List.replicate_succ, List.flatten_cons, ih, show (n + 1) * 2 = n * 2 + 1 + 1 by omega, List.replicate_succ, List.replicate_succ]; rfl
/-- A row of zero bytes, made. -/
theorem zrow {m : M} (hw : Wf m) : ∃ m', rMkSl ty_uint8 1 1 [.y 0] (.cst (iv 64)) (.cst (iv 64)) .leaf m = some (.slice m.next 0 64 64 false, m') ∧ At m' m.next ty_uint8 true (List.replicate 64 (.y 0)) ∧ Keep m m' (fun _ => False) ∧ m'.next = m.next + 1 := by
  refine ⟨_, v_mksl ty_uint8 1 1 [.y 0] (n := 64) (by omega) (by omega), ?_, Keep.addZ hw, M.next_addZ ..⟩
  have := At.addZr (m := m) (e := ty_uint8) (k := 64 * 1) (z := [.y 0]) 64 rfl
  rwa [rep_flat] at this
theorem bt_rep {m : M} {b : Nat} {x : UInt8} {xt : Bool} (h : At m b ty_uint8 xt (List.replicate 64 (.y x.toNat))) : BtU m (.slice b 0 64 64 false) (List.replicate 64 x) b := by
  refine ⟨?_, h.kd⟩
  have := BsAt.row (m := m) (b := b) (off := 0) (cap := 64) (lim := false) (l := List.replicate 64 x) h.r (by simp) (by rw [ycells_rep]; simp)
  simpa using this
set_option maxHeartbeats 2000000 in
theorem dnew {m : M} {n : Nat} (hw : Wf m) (hn1 : 1 ≤ n) (hn2 : n ≤ 4096) {Q : AV → M → Prop} (hQ : ∀ m' d cb D, DvAt m' d cb D → D.L.length = n → D.fused = false → D.dead = false → D.fuse = 0 → D.writes = 0 → (∀ c ∈ D.L, c.al = zeros ∧ c.wl = []) → Keep m m' (fun _ => False) → Q (.tuple [.ptr d 0, iv 0]) m') : WpF Try.prog tb fn_device_New [iv 64, iv n] m Q := by
  have ha := At.addZr (m := m) (e := ty_device_cell) (k := n * 2) (z := [nils, nils]) n rfl
  rw [rep_nn] at ha
  obtain ⟨m1, e1, k1, n1⟩ : ∃ m1, m.addZ ty_device_cell (n * 2) [nils, nils] = m1 ∧ Keep m m1 (fun _ => False) ∧ m1.next = m.next + 1 := ⟨_, rfl, Keep.addZ hw, M.next_addZ ..⟩
  rw [e1] at ha
  have hw1 := k1.wf
  have emk := v_mksl (m := m) ty_device_cell 2 48 [nils, nils] (n := n) (by omega) (by omega)
  rw [e1] at emk
  obtain ⟨m2, e2, hd2, k2, n2⟩ := addL_at hw1 ty_device_Device 6 [iv 64, .slice m.next 0 n n false, .b false, iv 0, .b false, iv 0]
  have hw2 := k2.wf
  have ha2 := ha.keep hw1 k2 fun h => h
  refine WpF.go at_device_New ?_
  simp -implicitDefEqProofs only [o_device_New, r_device_New_0, r_device_New_1, r_device_New_3, r_device_New_5, r_device_New_6, q_andop, q_and, q_sub, show ((64 : Int) < 64) = False from eq_false (by omega), show ((4096 : Int) < 64) = False from eq_false (by omega), show ((n : Int) < 1) = False from eq_false (by omega), show ((4096 : Int) < (n : Int)) = False from eq_false (by omega), q_mul (n := n) (by omega), show ((1048576 : Int) < 64 * (n : Int)) = False from eq_false (by omega), emk, e2, hd2.rd, o_mksl, o_mv, o_pick, o_box, o_build, o_load, o_nil, o_sub, o_mul, o_lt, o_gt, o_ne, o_fa, o_len, v_elB, v_elPtr, v_ob, v_rto, v_nil, v_fa, b_lt, b_gt, b_ne, len_sl, cells_iv, cells_agg, pv_nil, pv_cons, fillA_nil, fillA_cons, ev_tm, ev_cst, putD_some, fill_cons, fill_nil, want_b, bc_true, bc_false, nbeq, nble, ↓reduceIte, Nat.reduceEqDiff, Nat.reduceAdd, Nat.reduceLeDiff, List.length_cons, List.length_nil, Nat.zero_add, decide_true, decide_false, Bool.true_and, Bool.and_true, Bool.not_true, Bool.not_false, List.take_succ_cons, List.take_zero, List.drop_succ_cons, List.drop_zero, List.nil_append, List.cons_append, List.getElem?_cons_succ, List.getElem?_cons_zero, GO_nil, GO_op, GO_opG, GN_some, GG_true, GX_skip, GX_reg, GX_seq, GX_cond, GX_block, RK_app, SK_normal, GC_false, BK_normal, cells_slc]
  refine GX_loop (fun j fr mk => ∃ k L, k ≤ n ∧ j = n - k ∧ (ev (tm 0) fr = iv 64 ∧ ev (tm 6) fr = .ptr m1.next 0 ∧ ev (tm 44) fr = iv (n : Nat) ∧ ev (tm 45) fr = iv (k : Nat)) ∧ L.length = k ∧ (∀ c ∈ L, c.al = zeros ∧ c.wl = [] ∧ c.wv = nils ∧ c.wb = none ∧ BtU mk c.av c.al c.ab ∧ m2.next ≤ c.ab) ∧ Keep m2 mk (fun b => b = m.next) ∧ At mk m.next ty_device_cell true (dflat L ++ List.replicate ((n - k) * 2) nils)) (k := n) ?_ ?_
  · exact ⟨0, [], by omega, rfl, by simp -implicitDefEqProofs only [ev_tm, ↓reduceIte, Nat.reduceEqDiff, nc0, and_self], rfl, fun _ h => (by cases h), Keep.refl hw2 _, ha2⟩
  rintro j fr mk ⟨k, L, hk, rfl, ⟨e0, e6, e44, e45⟩, hL, hX, kk, hak⟩
  have hwk := kk.wf
  have hdk := hd2.keep hw2 kk (by omega)
  have hnk := kk.next
  by_cases hlt : k < n
  · obtain ⟨m3, e3, ha3, k3, n3⟩ := zrow hwk
    have hw3 := k3.wf
    have hd3 := hdk.keep hwk k3 fun h => h
    have hak3 := hak.keep hwk k3 fun h => h
    obtain ⟨m4, e4, ha4, k4, n4⟩ := hak3.st hw3 (k * 2) [.slice mk.next 0 64 64 false] rfl (by rw [List.length_append, dflat_len, hL, List.length_replicate]; simp; omega)
    rw [splice_cl (c := ⟨.slice mk.next 0 64 64 false, zeros, mk.next, nils, [], none⟩) hL hlt rfl] at ha4
    simp -implicitDefEqProofs only [o_device_New, r_device_New_7, r_device_New_8, r_device_New_9, r_device_New_10, e0, e6, e44, e45, show ((k : Int) < (n : Int)) = True from eq_true (by omega), hdk.rd, e3, hd3.rd, v_iaS 2 m.next 0 n n false hlt, e4, b_add ty_int (show -9223372036854775808 ≤ (k : Int) + 1 by omega) (show (k : Int) + 1 ≤ 9223372036854775807 by omega), o_mksl, o_mv, o_load, o_store, o_nil, o_add, o_lt, o_fa, o_iaS, v_elPtr, v_ob, v_rto, v_nil, v_fa, b_lt, ev_tm, ev_cst, putD_none, putD_some, bc_true, nbeq, ↓reduceIte, Nat.reduceEqDiff, List.length_cons, List.length_nil, Nat.zero_add, Nat.add_zero, decide_true, Bool.and_self, List.nil_append, List.cons_append, List.getElem?_cons_succ, List.getElem?_cons_zero, GO_nil, GO_op, GN_some, GT_nil, GT_op, TN_some, GX_skip, GX_reg, GX_drawn, GX_seq, GX_cond, GX_block, RK_app, DK_app, SK_normal, GC_true, BK_normal, lastT_1, lastT_c, again0_at, List.all_cons, List.all_nil, want_none, sl_aq, cells_slc, Option.some.injEq, exists_eq_left', true_and, Option.some.injEq]
    refine LK_n (k' := n - (k + 1)) (by omega) ⟨k + 1, L ++ [⟨.slice mk.next 0 64 64 false, zeros, mk.next, nils, [], none⟩], by omega, rfl, by simp -implicitDefEqProofs only [e0, e6, e44, show (k : Int) + 1 = ((k + 1 : Nat) : Int) from rfl, ev_tm, ↓reduceIte, Nat.reduceEqDiff, and_self], by simp [hL], fun c hc => ?_, ((kk.tf k3).trans k4 fun _ _ e => e), ha4⟩
    rcases List.mem_append.1 hc with hc | hc
    · obtain ⟨x1, x2, x3, x4, x5, x6⟩ := hX c hc
      exact ⟨x1, x2, x3, x4, (x5.keep hwk k3 fun h => h).keep hw3 k4 (by omega), x6⟩
    · cases List.mem_singleton.1 hc
      exact ⟨rfl, rfl, rfl, rfl, (bt_rep (x := 0) ha3).keep hw3 k4 (by omega), by show m2.next ≤ mk.next; omega⟩
  · have hkn : k = n := by omega
    subst hkn
    simp -implicitDefEqProofs only [o_device_New, r_device_New_7, r_device_New_11, e6, e44, e45, o_mv, o_lt, v_rto, b_lt, ev_tm, ev_cst, putD_some, nbeq, ↓reduceIte, Nat.reduceEqDiff, decide_true, decide_false, GO_nil, GO_op, GN_some, GX_reg, GX_seq, GX_cond, GX_exit, GX_ret, RK_app, SK_normal, SK_exit, GC_false, BK_exit, BE_true, LK_exit, FK_ret2, ilt]
    rw [Nat.sub_self, Nat.zero_mul, List.replicate_zero, List.append_nil] at hak
    refine hQ mk m1.next m.next ⟨L, false, false, 0, 0⟩ ⟨by rw [show (⟨L, false, false, 0, 0⟩ : Dv).L = L from rfl, hL]; exact hdk, hak, fun c hc => ?_, fun i j c c' b h1 _ h3 _ => ?_⟩ hL rfl rfl rfl rfl (fun c hc => ⟨(hX c hc).1, (hX c hc).2.1⟩) ((k1.tf k2).trans kk fun b hb e => by omega)
    · obtain ⟨x1, x2, x3, x4, x5, x6⟩ := hX c hc
      refine ⟨x5, ?_, fun e he => ?_⟩
      · rw [x2, x3, x4]; exact .nil
      · rw [x2] at he; cases he
    · rw [(hX c (List.mem_of_getElem? h1)).2.2.2.1] at h3; cases h3
section
variable {m : M} {c d cb : Nat} {C : Cc} {D : Dv}
theorem cloneI_k {x : AV} {zs : List Int} {o : Option Nat} (hw : Wf m) (h : RsAt m x (zs.map iv) o) (hl : zs.length * 8 ≤ 140737488355328) {Q : AV → M → Prop}
    (hQ : ∀ m' y o', IsAt m' y zs o' → (∀ b, o' = some b → m.next ≤ b ∧ kd m' b (ty_int + 1)) → Keep m m' (fun _ => False) → Q y m') : WpF Try.prog tb fn_CloneI [x] m Q := by
  have hroom : room zs.length 8 = true := by
    unfold room
    rw [nble, nble, nble, decide_eq_true (show Nat.mul zs.length 8 ≤ 140737488355328 from hl), decide_eq_true (show zs.length ≤ 140737488355328 by omega), decide_eq_true (show 8 ≤ 68719476736 by omega)]
    rfl
  refine WpF.go at_CloneI ?_
  by_cases hn : x = nils
  · subst hn
    have hz : zs = [] := by
      have h2 : some (zs.map iv).length = some 0 := h.len.symm
      simpa using h2
    subst hz
    simp -implicitDefEqProofs only [o_CloneI, r_CloneI_0, r_CloneI_1, r_CloneI_2, b_sln22, o_mv, o_eq, v_rto, ev_tm, ev_cst, putD_some, fill_cons, fill_nil, ↓reduceIte, Nat.reduceEqDiff, Nat.zero_add, GO_nil, GO_op, GN_some, GX_reg, GX_seq, GX_cond, GX_ret, RK_app, SK_normal, SK_ret, GC_true, FK_ret1]
    exact hQ m nils none .nil (fun _ h => by cases h) (Keep.refl hw _)
  have hb22 : binS Try.prog .eql ty_sint x nils = some (.b false) := by
    obtain ⟨b, n, c, q, rfl⟩ := h.notnil hn
    exact b_sl22 _ _ _ _ _
  obtain ⟨m1, e1, ha, k1, n1⟩ := addL_at hw ty_int 0 []
  have hw1 := k1.wf
  have h1 := h.keep hw k1 fun _ _ h => h
  by_cases h0 : zs = []
  · subst h0
    have hr : rApp ty_int 1 8 [iv 0] (.cst (.slice m.next 0 0 0 false)) (.cst x) .leaf m1 = some (.slice m.next 0 0 0 false, m1) := by
      obtain ⟨g1, g2, _⟩ := h1.src
      show (ob (Am.lenA x) fun k => ob (firstA _ 1 k x) fun new => aappend ty_int 1 8 [iv 0] _ (.slice m.next 0 0 0 false) k new) = _
      rw [g1, v_ob, g2, v_ob]
      rfl
    simp -implicitDefEqProofs only [o_CloneI, r_CloneI_0, r_CloneI_1, r_CloneI_3, hb22, e1, repl_0, hr, o_mv, o_bslice, o_eq, o_app, v_ob, v_rto, pv_nil, fillA_nil, ev_tm, ev_cst, putD_some, fill_cons, fill_nil, ↓reduceIte, Nat.reduceEqDiff, Nat.zero_add, GO_nil, GO_op, GN_some, GX_skip, GX_reg, GX_seq, GX_cond, GX_ret, RK_app, SK_normal, GC_false, FK_ret1]
    exact hQ _ _ (some m.next) (.row (zs := []) ha (by simp) (by simp) (by simp)) (fun b hb => by cases hb; exact ⟨Nat.le_refl _, ha.kd⟩) k1
  · have hpos : 0 < zs.length := List.length_pos_iff.2 h0
    obtain ⟨m2, hr, hs2, k2, n2⟩ := run_clone0 (e := ty_int) (bytes := 8) (z := [iv 0]) ha hw1 h1.src (by simpa using hpos) (by simpa using hroom)
    rw [List.length_map] at hr hs2
    simp -implicitDefEqProofs only [o_CloneI, r_CloneI_0, r_CloneI_1, r_CloneI_3, hb22, e1, repl_0, hr, o_mv, o_bslice, o_eq, o_app, v_ob, v_rto, pv_nil, fillA_nil, ev_tm, ev_cst, putD_some, fill_cons, fill_nil, ↓reduceIte, Nat.reduceEqDiff, Nat.zero_add, GO_nil, GO_op, GN_some, GX_skip, GX_reg, GX_seq, GX_cond, GX_ret, RK_app, SK_normal, GC_false, FK_ret1]
    refine hQ m2 _ (some m1.next) ?_ (fun b hb => by cases hb; exact ⟨by omega, hs2.kd⟩) (k1.tf k2)
    cases hs2 with
    | row h hl hj hc h0 =>
      refine .row h (by simp) ?_ (Nat.le_refl _)
      rw [List.drop_zero, List.take_append_of_le_length (by simp), List.take_of_length_le (by simp)]
theorem cnew {cap : Nat} {x : AV} {zs : List Int} {o : Option Nat} (hw : Wf m) (h1 : 1 ≤ cap) (h2 : cap ≤ 512) (h : RsAt m x (zs.map iv) o) (hl : zs.length * 8 ≤ 140737488355328) {Q : AV → M → Prop}
    (hQ : ∀ m' c C, CcAt m' c d C → C.cap = cap → C.ls = [] → m.next ≤ C.mb → Keep m m' (fun _ => False) → (∀ b, C.po = some b → m.next ≤ b) → Q (.tuple [.ptr c 0, iv 0]) m') : WpF Try.prog tb fn_cache_New [.ptr d 0, iv cap, x] m Q := by
  refine WpF.go at_cache_New ?_
  simp -implicitDefEqProofs only [o_cache_New, r_cache_New_0, r_cache_New_1, r_cache_New_3, b_np24, show ((cap : Int) < 1) = False from eq_false (by omega), show ((512 : Int) < (cap : Int)) = False from eq_false (by omega), o_mv, o_pick, o_lt, o_gt, o_eqp, v_elB, v_rto, v_eqp_n, b_lt, b_gt, ev_tm, ev_cst, evs_cons, evs_nil, putD_some, fill_cons, fill_nil, want_b, bc_false, ↓reduceIte, Nat.reduceEqDiff, Nat.reduceAdd, Nat.zero_add, decide_false, Bool.not_false, List.append_nil, GO_nil, GO_op, GO_opG, GO_call, GN_some, GG_true, GF_func, GX_skip, GX_reg, GX_seq, GX_cond, RK_app, SK_normal, GC_false]
  refine cloneI_k hw h hl fun m1 y o' hy hyn k1 => ?_
  have hw1 := k1.wf
  obtain ⟨hm2, k2⟩ := MpAt.new0 hw1
  obtain ⟨m2, e2, n2⟩ : ∃ m2, m1.new (.obj (.map [] (some ([], 0)))) = m2 ∧ m2.next = m1.next + 1 := ⟨_, rfl, M.next_new _ _⟩
  rw [e2] at hm2 k2
  have hw2 := k2.wf
  obtain ⟨m3, e3, hc3, k3, n3⟩ := addL_at hw2 ty_cache_Cache 4 [.ptr d 0, iv cap, y, .map m1.next]
  have k13 := k2.tf k3
  simp -implicitDefEqProofs only [hy.cells1, e2, e3, cells_map, o_mkmap, o_mv, o_box, o_build, v_ob, cells_iv, cells_agg, cells_ptr, pv_nil, pv_cons, fillA_nil, fillA_cons, ev_tm, ev_cst, putD_some, bc_true, nbeq, nble, ↓reduceIte, Nat.reduceEqDiff, Nat.reduceAdd, Nat.reduceLeDiff, List.length_cons, List.length_nil, Nat.zero_add, decide_true, Bool.true_and, Bool.and_true, List.take_succ_cons, List.take_zero, List.drop_succ_cons, List.drop_zero, List.drop_nil, List.nil_append, List.cons_append, List.append_nil, GO_nil, GO_op, GN_some, CK_app, GX_ret, RK_app, SK_normal, FK_ret2]
  have hpk : ∀ b, o' = some b → kd m3 b (ty_int + 1) := fun b hb => (hyn b hb).2.of_get (k13.get b ((hyn b hb).2.lt hw1) fun h => h)
  refine hQ m3 m2.next ⟨cap, m1.next, y, zs, o', []⟩ ⟨⟨hc3, hm2.keep hw2 k3 fun h => h, (fun _ h => by cases h), (fun _ h => by cases h), hy.keep hw1 k13 (fun _ _ h => h), by simp, by simp, (fun _ h => by cases h), (fun _ h => by cases h), fun b hb => ⟨(hpk b hb).ne hc3.kd, fun _ h => by cases h⟩⟩, (fun _ h => by cases h), hpk⟩ rfl rfl (by have := k1.next; show m.next ≤ m1.next; omega) (k1.tf k13) fun b hb => (hyn b hb).1
set_option maxRecDepth 20000 in
theorem cnew_no {cap : Int} {x : AV} (h1 : cap < 1 ∨ 512 < cap) : Ran Try.prog tb fn_cache_New [.ptr d 0, iv cap, x] m (.tuple [nilp, iv 1]) m := by
  refine WpF.go at_cache_New ?_
  by_cases h : cap < 1
  · simp -implicitDefEqProofs only [o_cache_New, r_cache_New_0, r_cache_New_1, r_cache_New_2, b_np24, eq_true h, o_mv, o_pick, o_lt, o_eqp, v_elB, v_rto, v_eqp_n, b_lt, ev_tm, ev_cst, putD_some, fill_cons, fill_nil, want_b, bc_true, bc_false, ↓reduceIte, Nat.reduceEqDiff, Nat.reduceAdd, Nat.zero_add, decide_true, Bool.not_false, GO_nil, GO_op, GO_opG, GN_some, GG_true, GG_false, GX_reg, GX_seq, GX_cond, GX_ret, RK_app, SK_normal, SK_ret, GC_true, FK_ret2, and_self]
  · have h3 : 512 < cap := by omega
    simp -implicitDefEqProofs only [o_cache_New, r_cache_New_0, r_cache_New_1, r_cache_New_2, b_np24, eq_false h, eq_true h3, o_mv, o_pick, o_lt, o_gt, o_eqp, v_elB, v_rto, v_eqp_n, b_lt, b_gt, ev_tm, ev_cst, putD_some, fill_cons, fill_nil, want_b, bc_false, ↓reduceIte, Nat.reduceEqDiff, Nat.reduceAdd, Nat.zero_add, decide_true, decide_false, Bool.not_false, GO_nil, GO_op, GO_opG, GN_some, GG_true, GX_reg, GX_seq, GX_cond, GX_ret, RK_app, SK_normal, SK_ret, GC_true, FK_ret2, and_self]
theorem isort_nat {zs : List Int} (h : ∀ z ∈ zs, 0 ≤ z) : isort zs = (isort zs).map fun z => ((z.toNat : Nat) : Int) := by
  have : ∀ z ∈ isort zs, ((z.toNat : Nat) : Int) = z := fun z hz => by have := h z (mem_isort.1 hz); omega
  rw [List.map_congr_left this, List.map_id']
theorem call {n w : Nat} (hw : Wf m) (h : CcAt m c d C) (hd : DvAt m d cb D) (hC : C.Lim D) (hD : D.Lim n w) (hn : n + dcl C.ls < 400) (hw9 : w + 400 ≤ 1000000000) {Q : AV → M → Prop}
    (hQ1 : ∀ m' C' D' ks, OutR ks C D C' D' → ks.length ≤ C.ls.length → (∀ l ∈ C.ls, l.dirty = true → l.b ∈ ks) → CcAt m' c d C' → DvAt m' d cb D' → KeepK m m' cdK [] → Grow m.next C D C' D' → Q (iv 0) m')
    (hQ2 : (D.fused = true ∨ D.dead = true) → ∀ m' C' D' ks, OutR ks C D C' D' → CcAt m' c d C' → D'.dies = true → DvAt m' d cb { D' with dead := true } → KeepK m m' cdK [] → Q (iv 7) m') : WpF Try.prog tb fn_Ca_All [.ptr c 0] m Q := by
  refine WpF.go at_Ca_All ?_
  simp -implicitDefEqProofs only [o_Ca_All, r_Ca_All_0, r_Ca_All_1, o_mv, ev_tm, ev_cst, evs_cons, evs_nil, putD_some, fill_cons, fill_nil, ↓reduceIte, Nat.reduceEqDiff, Nat.zero_add, List.append_nil, GO_nil, GO_op, GO_call, GN_some, GF_func, GX_reg, GX_seq, RK_app, SK_normal]
  refine cdirty hw h hC hD.len fun m1 x hx k1 => ?_
  have hw1 := k1.wf
  have hdm : ∀ z ∈ C.dz, ∃ l ∈ C.ls, (l.b : Int) = z ∧ l.dirty = true := fun z hz => (dz_mem h).1 hz
  have hlen := dz_len C
  simp -implicitDefEqProofs only [ev_tm, ev_cst, evs_cons, evs_nil, putD_some, ↓reduceIte, Nat.reduceEqDiff, List.append_nil, GO_call, GF_func, CK_app]
  refine cout hw1 (h.k0 hw k1) (hd.k0 hw k1) hC hD hx.cells (fun m' k => (hx.k0 hw1 k).vs) (by have := hC.cap2; have := hC.len; omega) hn hw9 (ks := (isort C.dz).map Int.toNat) ?_ (fun k hk => ?_) (fun m2 C2 D2 hO h2 hd2 k2 hgr => ?_) (fun hf m2 C2 D2 i hO h2 hds hd2 k2 => ?_)
  · rw [List.map_map]
    exact isort_nat fun z hz => by obtain ⟨l, _, rfl, _⟩ := hdm z hz; omega
  · obtain ⟨z, hz, rfl⟩ := List.mem_map.1 hk
    obtain ⟨l, hl, rfl, _⟩ := hdm z (mem_isort.1 hz)
    have := (hC.each l hl).1
    omega
  · simp -implicitDefEqProofs only [o_mv, ev_tm, putD_some, ↓reduceIte, GO_nil, GO_op, GN_some, CK_app, GX_ret, RK_app, SK_normal, FK_ret1]
    refine hQ1 m2 C2 D2 _ hO (by rw [List.length_map, len_isort]; exact hlen) (fun l hl hld => ?_) h2 hd2 ((k1.k0 (E := cdK) (S := [])).tk k2) (fun b hb => (hgr b hb).imp id fun h => by have := k1.next; omega)
    exact List.mem_map.2 ⟨(l.b : Int), mem_isort.2 ((dz_mem h).2 ⟨l, hl, rfl, hld⟩), by omega⟩
  · simp -implicitDefEqProofs only [o_mv, ev_tm, putD_some, ↓reduceIte, GO_nil, GO_op, GN_some, CK_app, GX_ret, RK_app, SK_normal, FK_ret1]
    exact hQ2 hf m2 C2 D2 _ hO h2 hds hd2 ((k1.k0 (E := cdK) (S := [])).tk k2)
end
end Go.Proofs.Ytmkbjcjlnidjiaa
set_option linter.unusedVariables false
set_option linter.unusedVariables false
/- What calls of a cache leave, in bounds. -/
namespace Go.Proofs.Ytmkbjcjlnidjiaa
open Go Go.Am
abbrev ty_l8_Op : TypeId := 51
theorem b_nn28 : binS Try.prog .eql ty_pcache_Cache nilp nilp = some (.b true) := by kernel_rfl
theorem o_iaA (len size : Nat) (x i : RO) (fr : Fr) (m : M) : run (.iaA len size x i) fr m = rIaA len size (.cst (ev x fr)) (.cst (ev i fr)) .leaf m := rfl
theorem v_iaA (len sz b off : Nat) (m : M) {k : Nat} (h : k < len) : rIaA len sz (.cst (.ptr b off)) (.cst (iv (k : Int))) .leaf m = some (.ptr b (off + k * sz), m) := by
  show bc (Nat.ble (Nat.succ k) len) (fc (Nat.add off (Nat.mul k sz)) fun o => some (AV.ptr b o, m)) none = _
  rw [nble, decide_eq_true (by omega), bc_true, fc_eq]; rfl
theorem q_and7 (z : Int) : ∃ k : Nat, k < 8 ∧ binS Try.prog .and ty_int (iv z) (iv 7) = some (iv (k : Int)) := by
  rw [binS_iv]
  have e : intAll .and .i64 z .i64 7 = some (ofI .i64 (IntKind.i64.wrap ((BitVec.ofInt 64 z &&& BitVec.ofInt 64 7).toNat : Int))) := rfl
  have hk : (BitVec.ofInt 64 z &&& BitVec.ofInt 64 7).toNat ≤ 7 := by
    rw [BitVec.toNat_and]
    exact Nat.and_le_right
  generalize (BitVec.ofInt 64 z &&& BitVec.ofInt 64 7).toNat = k at e hk
  refine ⟨k, by omega, ?_⟩
  rw [e, IntWalk.i64_in _ (by omega)]
  rfl
theorem lwakes {m : M} : Ran Try.prog tb fn_l8_wakes [] m (.b true) m := WpF_known (tab_get Try.func6) rfl ⟨rfl, rfl⟩
theorem lfull {m : M} (hw : Wf m) (x : UInt8) : ∃ m' s b, BtU m' s (List.replicate 64 x) b ∧ Keep m m' (fun _ => False) ∧ m.next ≤ b ∧ Ran Try.prog tb fn_l8_full [.y x.toNat] m s m' := by
  obtain ⟨m1, e1, h1, k1, n1⟩ := zrow hw
  have hw1 := k1.wf
  have key : WpF Try.prog tb fn_l8_full [.y x.toNat] m fun s m' => BtU m' s (List.replicate 64 x) m.next ∧ Keep m m' (fun _ => False) := by
    refine WpF.go at_l8_full ?_
    simp -implicitDefEqProofs only [o_l8_full, r_l8_full_0, r_l8_full_1, r_l8_full_2, e1, o_mksl, o_mv, ev_tm, ev_cst, putD_some, fill_cons, fill_nil, ↓reduceIte, Nat.zero_add, GO_nil, GO_op, GN_some, GX_reg, GX_seq, GX_block, RK_app, SK_normal]
    refine GX_loop (fun j fr mk => ∃ k, k ≤ 64 ∧ j = 64 - k ∧ (ev (tm 0) fr = .y x.toNat ∧ ev (tm 3) fr = .slice m.next 0 64 64 false ∧ ev (tm 4) fr = iv (k : Nat)) ∧ Keep m mk (fun _ => False) ∧ At mk m.next ty_uint8 true (List.replicate k (.y x.toNat) ++ List.replicate (64 - k) (.y 0))) (k := 64) ⟨0, by omega, rfl, by simp -implicitDefEqProofs only [ev_tm, ↓reduceIte, Nat.reduceEqDiff, nc0, and_self], k1, h1⟩ ?_
    rintro j fr mk ⟨k, hk, rfl, ⟨e0, e3, e4⟩, kk, hbk⟩
    have hwk := kk.wf
    by_cases hlt : k < 64
    · obtain ⟨m2, e2, h2, k2, n2⟩ := hbk.st hwk k [.y x.toNat] rfl (by simp; omega)
      rw [splice_rep hlt] at h2
      simp -implicitDefEqProofs only [o_l8_full, r_l8_full_3, r_l8_full_5, r_l8_full_4, e0, e3, e4, show ((k : Int) < 64) = True from eq_true (by omega), v_iaS 1 m.next 0 64 64 false hlt, Nat.mul_one, e2, b_add ty_int (show -9223372036854775808 ≤ (k : Int) + 1 by omega) (show (k : Int) + 1 ≤ 9223372036854775807 by omega), o_mv, o_store, o_add, o_lt, o_iaS, v_elPtr, v_ob, v_rto, b_lt, ev_tm, ev_cst, putD_none, putD_some, bc_true, nbeq, ↓reduceIte, Nat.reduceEqDiff, List.length_cons, List.length_nil, Nat.zero_add, decide_true, GO_nil, GO_op, GN_some, GX_skip, GX_reg, GX_seq, GX_cond, GX_block, RK_app, SK_normal, GC_true, BK_normal, cells_yc]
      exact LK_n (k' := 64 - (k + 1)) (by omega) ⟨k + 1, by omega, rfl, by simp -implicitDefEqProofs only [e0, e3, show (k : Int) + 1 = ((k + 1 : Nat) : Int) from rfl, ev_tm, ↓reduceIte, Nat.reduceEqDiff, and_self], kk.trans k2 fun b hb e => by omega, h2⟩
    · have hk64 : k = 64 := by omega
      subst hk64
      simp -implicitDefEqProofs only [o_l8_full, r_l8_full_3, r_l8_full_6, e3, e4, show (((64 : Nat) : Int) < 64) = False from eq_false (by omega), o_mv, o_lt, v_rto, b_lt, ev_tm, ev_cst, putD_some, nbeq, ↓reduceIte, Nat.reduceEqDiff, Nat.reduceSub, decide_true, decide_false, GO_nil, GO_op, GN_some, GX_reg, GX_seq, GX_cond, GX_exit, GX_ret, RK_app, SK_normal, SK_exit, GC_false, BK_exit, BE_true, LK_exit, FK_ret1]
      rw [Nat.sub_self, List.replicate_zero, List.append_nil] at hbk
      exact ⟨bt_rep hbk, kk⟩
  obtain ⟨s, m', ⟨g1, g2⟩, r⟩ := key.ran
  exact ⟨m', s, m.next, g1, g2, Nat.le_refl _, r⟩
theorem sub_len' : ∀ (A B : List Nat), A.Nodup → (∀ a ∈ A, a ∈ B) → A.length ≤ B.length
  | [], B, _, _ => Nat.zero_le _
  | a :: A, B, hn, hs => by
    rw [List.nodup_cons] at hn
    have ha : a ∈ B := hs a (List.mem_cons_self ..)
    have := sub_len' A (B.erase a) hn.2 fun x hx => by
      have hxa : x ≠ a := fun e => hn.1 (e ▸ hx)
      exact (List.mem_erase_of_ne hxa).2 (hs x (List.mem_cons_of_mem _ hx))
    rw [List.length_erase_of_mem ha] at this
    have hB : 0 < B.length := List.length_pos_of_mem ha
    show A.length + 1 ≤ _
    omega
theorem Cc.few {C : Cc} {D : Dv} (hn : Nb C) (hC : C.Lim D) : C.ls.length ≤ D.L.length := by
  have := sub_len' (C.ls.map (·.b)) (List.range D.L.length) hn fun a ha => by
    obtain ⟨l, hl, rfl⟩ := List.mem_map.1 ha
    exact List.mem_range.2 (hC.each l hl).1
  simpa using this
section
variable {m m' : M} {c d cb hb cap n : Nat} {C C' : Cc} {D D' : Dv} {vals : List UInt8}
theorem Rm.dies {C C' : Cc} {D D' : Dv} (h : Rm C D C' D') : D'.fused = D.fused ∧ D'.dead = D.dead := by
  rcases h with ⟨_, _, rfl⟩ | ⟨_, v, _, _, _, _, _, _, ⟨_, rfl⟩ | ⟨_, _, hw⟩⟩
  · exact ⟨rfl, rfl⟩
  · exact ⟨rfl, rfl⟩
  · exact ⟨hw.dead.2, hw.dead.1⟩
theorem GetR.lim {C C2 : Cc} {D D2 : Dv} {k : Nat} {t : Bs} {n w : Nat} (h : GetR C D k t C2 D2) (hC : C.Lim D) (hD : D.Lim n w) (hk : k < D.L.length) (h64 : t.length = 64) : C2.Lim D2 ∧ D2.Lim (n + 1) (w + 1) ∧ D2.L.length = D.L.length ∧ C2.cap = C.cap ∧ C2.mb = C.mb ∧ D2.fused = D.fused ∧ D2.dead = D.dead := by
  rcases h with ⟨l, hf, rfl, rfl, rfl⟩ | ⟨hf, C1, n1, x, hr, rfl, hb, hp, hd, hdl, hx, ht⟩
  · exact ⟨hC, hD.mono (by omega) (by omega), rfl, rfl, rfl, rfl, rfl⟩
  · obtain ⟨g1, g2, g3, g4, g5, g6⟩ := hr.lim hC hD
    refine ⟨⟨by show 1 ≤ C1.cap; rw [g3]; exact hC.cap1, by show C1.cap ≤ 1000; rw [g3]; exact hC.cap2, by show (C1.ls ++ [n1]).length ≤ C1.cap; rw [List.length_append]; simp; omega, fun l hl => ?_⟩, g1, g2, g3, g4, hr.dies.1, hr.dies.2⟩
    rcases List.mem_append.1 hl with hl | hl
    · rw [g2]; exact hC.each l (g6 l hl)
    · cases List.mem_singleton.1 hl
      rw [hb, hdl, g2]
      exact ⟨hk, h64⟩
theorem PutR.lim {C C2 : Cc} {D D2 : Dv} {k : Nat} {t : Bs} {n w : Nat} (h : PutR C D k t C2 D2) (hC : C.Lim D) (hD : D.Lim n w) (hk : k < D.L.length) (h64 : t.length = 64) : C2.Lim D2 ∧ D2.Lim (n + 1) (w + 1) ∧ D2.L.length = D.L.length ∧ C2.cap = C.cap ∧ C2.mb = C.mb ∧ D2.fused = D.fused ∧ D2.dead = D.dead := by
  rcases h with ⟨l, n1, hf, hb, hp, hpins, hd, hdl, rfl, rfl⟩ | ⟨hf, C1, n1, hr, rfl, hb, hp, hd, hdl⟩
  · refine ⟨⟨hC.cap1, hC.cap2, by show (setl C.ls n1).length ≤ C.cap; unfold setl; rw [List.length_map]; exact hC.len, fun x hx => ?_⟩, hD.mono (by omega) (by omega), rfl, rfl, rfl, rfl, rfl⟩
    obtain ⟨y, hy, ⟨_, rfl⟩ | ⟨e, rfl⟩⟩ := setl_mem hx
    · rw [hb, hdl]; exact ⟨hk, h64⟩
    · exact hC.each x hy
  · obtain ⟨g1, g2, g3, g4, g5, g6⟩ := hr.lim hC hD
    refine ⟨⟨by show 1 ≤ C1.cap; rw [g3]; exact hC.cap1, by show C1.cap ≤ 1000; rw [g3]; exact hC.cap2, by show (C1.ls ++ [n1]).length ≤ C1.cap; rw [List.length_append]; simp; omega, fun l hl => ?_⟩, g1, g2, g3, g4, hr.dies.1, hr.dies.2⟩
    rcases List.mem_append.1 hl with hl | hl
    · rw [g2]; exact hC.each l (g6 l hl)
    · cases List.mem_singleton.1 hl
      rw [hb, hdl, g2]
      exact ⟨hk, h64⟩
theorem OutR.dies {ks : List Nat} {C C2 : Cc} {D D2 : Dv} (h : OutR ks C D C2 D2) : D2.fused = D.fused ∧ D2.dead = D.dead := by
  induction h with
  | nil => exact ⟨rfl, rfl⟩
  | step h s ih =>
    rcases s with ⟨_, _, rfl⟩ | ⟨l, _, _, _, _, hw⟩
    · exact ih
    · exact ⟨hw.dead.2.trans ih.1, hw.dead.1.trans ih.2⟩
end
end Go.Proofs.Ytmkbjcjlnidjiaa
