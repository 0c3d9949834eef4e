import Derived.Test.YtmkbjcjlnidjiaaCaA
set_option linter.unusedVariables false
set_option linter.unusedVariables false
/- A device in memory: what is read of it. -/
namespace Go.Proofs.Ytmkbjcjlnidjiaa
open Go Go.Am
abbrev Bs := List UInt8

theorem repl_0 (z : List AV) : repl 0 z = [] := rfl
theorem b_np24 (b o : Nat) : binS Try.prog .eql ty_pdevice_Device (.ptr b o) nilp = some (.b false) := by kernel_rfl
theorem b_np77 (b o : Nat) : binS Try.prog .eql ty_pdevice_cell (.ptr b o) nilp = some (.b false) := by kernel_rfl
theorem b_np28 (b o : Nat) : binS Try.prog .eql ty_pcache_Cache (.ptr b o) nilp = some (.b false) := by kernel_rfl
theorem b_np63 (b o : Nat) : binS Try.prog .eql ty_pcache_line (.ptr b o) nilp = some (.b false) := by kernel_rfl
theorem b_nn63 : binS Try.prog .eql ty_pcache_line nilp nilp = some (.b true) := by kernel_rfl
theorem b_nq63 (b o : Nat) : binS Try.prog .neq ty_pcache_line (.ptr b o) nilp = some (.b true) := by kernel_rfl
theorem b_nqn63 : binS Try.prog .neq ty_pcache_line nilp nilp = some (.b false) := by kernel_rfl
theorem b_sl31 (b o l c : Nat) (q : Bool) : binS Try.prog .eql ty_suint8 (.slice b o l c q) nils = some (.b false) := by kernel_rfl
theorem b_sl22 (b o l c : Nat) (q : Bool) : binS Try.prog .eql ty_sint (.slice b o l c q) nils = some (.b false) := by kernel_rfl
theorem b_sln22 : binS Try.prog .eql ty_sint nils nils = some (.b true) := by kernel_rfl
theorem want_some {t : Nat} {w : Bool} {fr : Fr} : want (some (pth t, w)) fr = wantV w (ev (tm t) fr) := rfl
theorem elem1 {m : M} {e : TypeId} {x : AV} {len : Nat} {cells : List AV} {o : Option Nat} (h : SlAt m e 1 x len cells o) {k : Nat} (hk : k < len) : ∃ b cap, x = .slice b 0 len cap false ∧ o = some b ∧ m.rd b k = cells[k]? := by
  cases h with
  | nil => omega
  | row h hl hj hc h0 => exact ⟨_, _, rfl, rfl, by rw [h.rd, List.getElem?_append_left (by omega)]⟩
/-- An empty row, appended to: a new row. -/
theorem run_clone0 {m : M} {e e' sz bytes k b : Nat} {z new cells : List AV} {y : AV} (hb : At m b e' true cells) (hw : Wf m) (hy : Rds m y sz k new) (h0 : 0 < k) (hroom : room k bytes = true) :
    ∃ m', rApp e sz bytes z (.cst (.slice b 0 0 0 false)) (.cst y) .leaf m = some (.slice m.next 0 k k false, m') ∧ SlAt m' e sz (.slice m.next 0 k k false) k new (some m.next) ∧ Keep m m' (fun _ => False) ∧ m'.next = m.next + 1 := by
  obtain ⟨hy1, hy2, hy3⟩ := hy
  obtain ⟨s', m', h1, h2, h3, h4⟩ := appNew_at (e := e) (z := z) hy3 h0 hw
  have hs : s' = .slice m.next 0 k k false := by
    unfold appNew at h1
    rw [fc_eq] at h1
    cases h1
    rfl
  subst hs
  have hrd : m.rdN b 0 0 = some [] := by rw [hb.rdN (by omega)]; simp
  obtain ⟨c, c1, c2, c3, c4, c5, c6, c7⟩ := hb.row
  refine ⟨m', ?_, h2, h3, h4⟩
  show (ob (Am.lenA y) fun k => ob (firstA m sz k y) fun new => aappend e sz bytes z m (.slice b 0 0 0 false) k new) = _
  rw [hy1, v_ob, hy2, v_ob, aappend_sl]
  rw [Nat.zero_add, nble, decide_eq_false (by omega), bc_false, hroom, bc_true, M.cel_some.2 c1, v_ob, Nat.zero_mul, hrd, v_ob, c4, c6]
  exact h1
theorem bs_of {m : M} {l : Bs} {e : TypeId} {b : Nat} (h : SlAt m e 1 (.slice b 0 l.length l.length false) l.length (ycells l) (some b)) : BsAt m (.slice b 0 l.length l.length false) l b := by
  have hy : (ycells l).length = l.length := by simp [ycells]
  cases h with
  | row h hl hj hc h0 => exact .row h.r (by simp; omega) (by rw [List.drop_zero, List.take_append_of_le_length (by omega), List.take_of_length_le (by omega)])
theorem cloneB_spec {m : M} {s : AV} {l : Bs} {b : Nat} (hw : Wf m) (h : BsAt m s l b) (h0 : l ≠ []) (hl : l.length ≤ 1000000) {Q : AV → M → Prop} (hQ0 : ∀ m' s' b', BsAt m' s' l b' → Keep m m' (fun _ => False) → m.next ≤ b' → Q s' m') : WpF Try.prog tb fn_CloneB [s] m Q := by
  have hpos : 0 < l.length := List.length_pos_iff.2 h0
  have hk1 : Keep m (m.addL ty_uint8 0 []) fun _ => False := Keep.addL hw
  have hw1 := hk1.wf
  have h1 := h.keep hw hk1 fun h => h
  have ha : At (m.addL ty_uint8 0 []) m.next ty_uint8 true [] := At.addL rfl
  obtain ⟨m2, hr, hs2, hk2, hn2⟩ := run_clone0 (e := ty_uint8) (bytes := 1) (z := [.y 0]) ha hw1 h1.src hpos (room_of (by omega) (by omega))
  have hn1 := hk1.next
  refine WpF_intro at_CloneB rfl rfl ?_
  unfold c_CloneB
  refine C_sr fun Q' hQ => ?_
  simp only [r_CloneB_0, WpO_op, WpO_nil, WpON_some, o_mv, ev_cst, putD_some, fill_cons, fill_nil, Nat.zero_add]
  refine hQ _ _ (WpC_seq (C_sr fun Q' hQ => ?_))
  have hb31 : binS Try.prog .eql ty_suint8 s nils = some (.b false) := by cases h; exact b_sl31 _ _ _ _ _
  simp only [r_CloneB_1, hb31, WpO_op, WpO_nil, WpON_some, o_mv, o_eq, v_rto, ev_tm, ev_cst, putD_some, reduceIte, Nat.reduceEqDiff]
  refine hQ _ _ (WpC_cond (t := false) ?_ (WpC_skip (C_sr fun Q' hQ => ?_)))
  · simp only [ev_tm, reduceIte, Nat.reduceEqDiff]
  simp only [r_CloneB_3, repl_0, hr, WpO_op, WpO_nil, WpON_some, o_mv, o_bslice, o_app, v_ob, pv_nil, fillA_nil, ev_tm, putD_some, reduceIte, Nat.reduceEqDiff]
  refine hQ _ _ (WpC_ret ⟨.inr rfl, _, ares1, ?_⟩)
  simp only [ev_tm, one_1, reduceIte, Nat.reduceEqDiff]
  exact hQ0 m2 _ _ (bs_of hs2) (hk1.trans hk2 fun _ _ h => h) (by omega)

/-! ### The device -/
structure Cw where
  av : AV
  al : Bs
  ab : Nat
  wv : AV
  wl : List (AV × Bs × Nat)
  wb : Option Nat
def Cw.last (c : Cw) : AV × Bs × Nat := c.wl.getLast?.getD (c.av, c.al, c.ab)
def dflat (L : List Cw) : List AV := L.flatMap fun c => [c.av, c.wv]
structure CwOk (m : M) (c : Cw) : Prop where
  ar : BsAt m c.av c.al c.ab
  sl : SlAt m ty_suint8 1 c.wv c.wl.length (c.wl.map (·.1)) c.wb
  ws : ∀ e ∈ c.wl, BsAt m e.1 e.2.1 e.2.2
structure DevAt (m : M) (d cb : Nat) (L : List Cw) (fused dead : Bool) (fuse writes : Int) : Prop where
  dev : At m d ty_device_Device true [iv 64, .slice cb 0 L.length L.length false, .b fused, iv fuse, .b dead, iv writes]
  row : At m cb ty_device_cell true (dflat L)
  ok : ∀ c ∈ L, CwOk m c
def dOwn (d cb : Nat) (L : List Cw) (b : Nat) : Prop := b = d ∨ b = cb ∨ ∃ c ∈ L, c.wb = some b ∨ c.ab = b ∨ ∃ e ∈ c.wl, e.2.2 = b
theorem DevAt.keep {m m' : M} {d cb : Nat} {L : List Cw} {fused dead : Bool} {fuse writes : Int} (h : DevAt m d cb L fused dead fuse writes) (hw : Wf m) {F : Nat → Prop} (k : Keep m m' F) (hf : ∀ b, dOwn d cb L b → ¬ F b) : DevAt m' d cb L fused dead fuse writes :=
  ⟨h.dev.keep hw k (hf _ (.inl rfl)), h.row.keep hw k (hf _ (.inr (.inl rfl))), fun c hc => ⟨(h.ok c hc).ar.keep hw k (hf _ (.inr (.inr ⟨c, hc, .inr (.inl rfl)⟩))), (h.ok c hc).sl.keep hw k fun b hb => hf _ (.inr (.inr ⟨c, hc, .inl hb⟩)), fun e he => ((h.ok c hc).ws e he).keep hw k (hf _ (.inr (.inr ⟨c, hc, .inr (.inr ⟨e, he, rfl⟩)⟩)))⟩⟩
theorem DevAt.lt {m : M} {d cb : Nat} {L : List Cw} {fused dead : Bool} {fuse writes : Int} (h : DevAt m d cb L fused dead fuse writes) (hw : Wf m) {b : Nat} (hb : dOwn d cb L b) : b < m.next := by
  rcases hb with rfl | rfl | ⟨c, hc, hb | rfl | ⟨e, he, rfl⟩⟩
  · exact h.dev.lt hw
  · exact h.row.lt hw
  · exact (h.ok c hc).sl.blk_lt hw hb
  · exact (h.ok c hc).ar.lt hw
  · exact ((h.ok c hc).ws e he).lt hw
theorem dflat_len (L : List Cw) : (dflat L).length = L.length * 2 := by
  unfold dflat
  induction L with
  | nil => rfl
  | cons c l ih => rw [List.flatMap_cons, List.length_append, ih]; simp; omega
theorem dflat_get : ∀ (L : List Cw) (k : Nat) (c : Cw), L[k]? = some c → (dflat L)[k * 2]? = some c.av ∧ (dflat L)[k * 2 + 1]? = some c.wv
  | [], k, c, h => by cases h
  | x :: l, 0, c, h => by cases h; exact ⟨rfl, rfl⟩
  | x :: l, k + 1, c, h => by
    have := dflat_get l k c (by simpa using h)
    have e : dflat (x :: l) = x.av :: x.wv :: dflat l := rfl
    rw [e, show (k + 1) * 2 = k * 2 + 1 + 1 by omega]
    simpa using this
section
variable {m : M} {d cb : Nat} {L : List Cw} {fused dead : Bool} {fuse writes : Int}
theorem blocks_spec (h : DevAt m d cb L fused dead fuse writes) : WpF Try.prog tb fn_Dev_Blocks [.ptr d 0] m fun v m' => v = iv L.length ∧ m' = m := by
  refine WpF_intro at_Dev_Blocks rfl rfl ?_
  unfold c_Dev_Blocks
  refine C_sr fun Q' hQ => ?_
  simp only [r_Dev_Blocks_0, WpO_op, WpO_nil, WpON_some, o_mv, ev_cst, putD_some, fill_cons, fill_nil, Nat.zero_add]
  refine hQ _ _ (WpC_seq (C_sr fun Q' hQ => ?_))
  simp only [r_Dev_Blocks_1, b_np24, WpO_op, WpO_nil, WpON_some, o_mv, o_eqp, v_rto, v_eqp_n, ev_tm, ev_cst, putD_some, reduceIte, Nat.reduceEqDiff]
  refine hQ _ _ (WpC_cond (t := false) ?_ (WpC_skip (C_sr fun Q' hQ => ?_)))
  · simp only [ev_tm, reduceIte, Nat.reduceEqDiff]
  simp only [r_Dev_Blocks_3, h.dev.rd, WpO_op, WpO_nil, WpON_some, o_mv, o_load, o_nil, o_fa, o_len, v_elPtr, v_ob, v_rto, v_nil, v_fa, len_sl, ev_tm, putD_some, reduceIte, Nat.reduceEqDiff, Nat.zero_add, List.getElem?_cons_succ, List.getElem?_cons_zero]
  refine hQ _ _ (WpC_ret ⟨.inr rfl, _, ares1, ?_⟩)
  simp only [and_self, ev_tm, one_1, reduceIte, Nat.reduceEqDiff]
theorem block_spec (h : DevAt m d cb L fused dead fuse writes) : WpF Try.prog tb fn_Dev_Block [.ptr d 0] m fun v m' => v = iv 64 ∧ m' = m := by
  refine WpF_intro at_Dev_Block rfl rfl ?_
  unfold c_Dev_Block
  refine C_sr fun Q' hQ => ?_
  simp only [r_Dev_Block_0, WpO_op, WpO_nil, WpON_some, o_mv, ev_cst, putD_some, fill_cons, fill_nil, Nat.zero_add]
  refine hQ _ _ (WpC_seq (C_sr fun Q' hQ => ?_))
  simp only [r_Dev_Block_1, b_np24, WpO_op, WpO_nil, WpON_some, o_mv, o_eqp, v_rto, v_eqp_n, ev_tm, ev_cst, putD_some, reduceIte, Nat.reduceEqDiff]
  refine hQ _ _ (WpC_cond (t := false) ?_ (WpC_skip (C_sr fun Q' hQ => ?_)))
  · simp only [ev_tm, reduceIte, Nat.reduceEqDiff]
  simp only [r_Dev_Block_3, h.dev.rd, WpO_op, WpO_nil, WpON_some, o_mv, o_load, o_nil, o_fa, v_elPtr, v_rto, v_nil, v_fa, ev_tm, putD_some, reduceIte, Nat.reduceEqDiff, Nat.zero_add, List.getElem?_cons_zero]
  refine hQ _ _ (WpC_ret ⟨.inr rfl, _, ares1, ?_⟩)
  simp only [and_self, ev_tm, one_1, reduceIte, Nat.reduceEqDiff]
theorem at_spec (h : DevAt m d cb L fused dead fuse writes) {k : Nat} (hk : k < L.length) : WpF Try.prog tb fn_Dev_at [.ptr d 0, iv k] m fun v m' => v = .ptr cb (k * 2) ∧ m' = m := by
  refine WpF_intro at_Dev_at rfl rfl ?_
  unfold c_Dev_at
  refine C_sr fun Q' hQ => ?_
  simp only [r_Dev_at_0, WpO_op, WpO_nil, WpON_some, o_mv, ev_cst, putD_some, fill_cons, fill_nil, Nat.reduceAdd, Nat.zero_add]
  refine hQ _ _ (WpC_seq (C_sr fun Q' hQ => ?_))
  simp only [r_Dev_at_1, h.dev.rd, show ((k : Int) < 0) = False from eq_false (by omega), show ((L.length : Int) ≤ (k : Int)) = False from eq_false (by omega), WpO_op, WpO_opG, WpO_nil, WpON_some, WpOG_true, o_mv, o_pick, o_load, o_nil, o_lt, o_ge, o_fa, o_len, v_elB, v_elPtr, v_ob, v_rto, v_nil, v_fa, b_lt, b_ge, len_sl, ev_tm, ev_cst, putD_some, want_b, bc_false, reduceIte, Nat.reduceEqDiff, Nat.zero_add, decide_false, Bool.not_false, List.getElem?_cons_succ, List.getElem?_cons_zero]
  refine hQ _ _ (WpC_cond (t := false) ?_ (WpC_skip (C_sr fun Q' hQ => ?_)))
  · simp only [ev_tm, reduceIte, Nat.reduceEqDiff]
  simp only [r_Dev_at_3, h.dev.rd, v_iaS 2 cb 0 L.length L.length false hk, WpO_op, WpO_nil, WpON_some, o_mv, o_load, o_nil, o_fa, o_iaS, v_elPtr, v_rto, v_nil, v_fa, ev_tm, putD_some, reduceIte, Nat.reduceEqDiff, Nat.zero_add, List.getElem?_cons_succ, List.getElem?_cons_zero]
  refine hQ _ _ (WpC_ret ⟨.inr rfl, _, ares1, ?_⟩)
  simp only [and_self, ev_tm, one_1, reduceIte, Nat.reduceEqDiff]
theorem last_spec (h : DevAt m d cb L fused dead fuse writes) {k : Nat} {c : Cw} (hk : L[k]? = some c) (hl : c.wl.length ≤ 1000000) : WpF Try.prog tb fn_Cell_last [.ptr cb (k * 2)] m fun v m' => v = c.last.1 ∧ m' = m := by
  have hc := h.ok c (List.mem_of_getElem? hk)
  obtain ⟨g0, g1⟩ := dflat_get L k c hk
  have h0 : m.rd cb (k * 2 + 0) = some c.av := by rw [h.row.rd]; exact g0
  have h1 : m.rd cb (k * 2 + 1) = some c.wv := by rw [h.row.rd]; exact g1
  refine WpF_intro at_Cell_last rfl rfl ?_
  unfold c_Cell_last
  refine C_sr fun Q' hQ => ?_
  simp only [r_Cell_last_0, WpO_op, WpO_nil, WpON_some, o_mv, ev_cst, putD_some, fill_cons, fill_nil, Nat.zero_add]
  refine hQ _ _ (WpC_seq (C_sr fun Q' hQ => ?_))
  simp only [r_Cell_last_1, h1, hc.sl.len, WpO_op, WpO_nil, WpON_some, o_mv, o_load, o_nil, o_fa, o_len, v_elPtr, v_ob, v_rto, v_nil, v_fa, ev_tm, putD_some, reduceIte, Nat.reduceEqDiff]
  refine hQ _ _ (C_sr fun Q' hQ => ?_)
  by_cases hw : c.wl = []
  · have hl0 : c.wl.length = 0 := by rw [hw]; rfl
    have hlast : c.last = (c.av, c.al, c.ab) := by unfold Cw.last; rw [hw]; rfl
    simp only [r_Cell_last_2, hl0, show ((0 : Int) < ((0 : Nat) : Int)) = False from eq_false (by omega), WpO_op, WpO_nil, WpON_some, o_mv, o_gt, v_rto, b_gt, ev_tm, ev_cst, putD_some, reduceIte, Nat.reduceEqDiff, decide_false]
    refine hQ _ _ (WpC_cond (t := false) ?_ (WpC_skip (C_sr fun Q' hQ => ?_)))
    · simp only [ev_tm, reduceIte, Nat.reduceEqDiff]
    simp only [r_Cell_last_4, h0, WpO_op, WpO_nil, WpON_some, o_mv, o_load, o_nil, o_fa, v_elPtr, v_rto, v_nil, v_fa, ev_tm, putD_some, reduceIte, Nat.reduceEqDiff]
    refine hQ _ _ (WpC_ret ⟨.inr rfl, _, ares1, ?_⟩)
    simp only [hlast, and_self, ev_tm, one_1, reduceIte, Nat.reduceEqDiff]
  · have hpos : 0 < c.wl.length := List.length_pos_iff.2 hw
    obtain ⟨b, cap, hx, _, hr⟩ := elem1 hc.sl (k := c.wl.length - 1) (by omega)
    have hA : (c.wl.length : Int) - 1 = ((c.wl.length - 1 : Nat) : Int) := by omega
    have hlast : m.rd b (c.wl.length - 1) = some c.last.1 := by
      rw [hr, List.getElem?_map]
      unfold Cw.last
      rw [List.getLast?_eq_getElem?]
      cases hg : c.wl[c.wl.length - 1]? with
      | none => rw [List.getElem?_eq_none_iff] at hg; omega
      | some e => rfl
    simp only [r_Cell_last_2, show ((0 : Int) < (c.wl.length : Int)) = True from eq_true (by omega), WpO_op, WpO_nil, WpON_some, o_mv, o_gt, v_rto, b_gt, ev_tm, ev_cst, putD_some, reduceIte, Nat.reduceEqDiff, decide_true]
    refine hQ _ _ (WpC_cond (t := true) ?_ (C_sr fun Q' hQ => ?_))
    · simp only [ev_tm, reduceIte, Nat.reduceEqDiff]
    simp only [r_Cell_last_3, h1, hx, b_sub 3 (show -9223372036854775808 ≤ (c.wl.length : Int) - 1 by omega) (show (c.wl.length : Int) - 1 ≤ 9223372036854775807 by omega), hA, v_iaS 1 b 0 c.wl.length cap false (show c.wl.length - 1 < c.wl.length by omega), Nat.mul_one, hlast, WpO_op, WpO_nil, WpON_some, o_mv, o_load, o_nil, o_sub, o_fa, o_iaS, v_elPtr, v_rto, v_nil, v_fa, ev_tm, ev_cst, putD_some, reduceIte, Nat.reduceEqDiff, Nat.zero_add]
    refine hQ _ _ (WpC_ret ⟨.inr rfl, _, ares1, ?_⟩)
    simp only [and_self, ev_tm, one_1, reduceIte, Nat.reduceEqDiff]
theorem read_spec (hw : Wf m) (h : DevAt m d cb L fused false fuse writes) {k : Nat} {c : Cw} (hk : L[k]? = some c) (hl : c.wl.length ≤ 1000000) (h0 : c.last.2.1 ≠ []) (hz : c.last.2.1.length ≤ 1000000) (hcl : BsAt m c.last.1 c.last.2.1 c.last.2.2) {Q : AV → M → Prop}
    (hQ0 : ∀ m' s' b', BsAt m' s' c.last.2.1 b' → Keep m m' (fun _ => False) → m.next ≤ b' → Q (.tuple [s', iv 0]) m') : WpF Try.prog tb fn_Dev_Read [.ptr d 0, iv k] m Q := by
  have hlt := (List.getElem?_eq_some_iff.1 hk).1
  refine WpF_intro at_Dev_Read rfl rfl ?_
  unfold c_Dev_Read
  refine C_sr fun Q' hQ => ?_
  simp only [r_Dev_Read_0, WpO_op, WpO_nil, WpON_some, o_mv, ev_cst, putD_some, fill_cons, fill_nil, Nat.reduceAdd, Nat.zero_add]
  refine hQ _ _ (WpC_seq (WpC_block (C_sr fun Q' hQ => ?_)))
  simp only [r_Dev_Read_1, b_np24, WpO_op, WpO_nil, WpON_some, o_mv, o_eqp, v_rto, v_eqp_n, ev_tm, ev_cst, putD_some, reduceIte, Nat.reduceEqDiff]
  refine hQ _ _ (WpC_cond (t := false) ?_ (C_sr fun Q' hQ => ?_))
  · simp only [ev_tm, reduceIte, Nat.reduceEqDiff]
  simp only [r_Dev_Read_3, h.dev.rd, WpO_op, WpO_nil, WpON_some, o_mv, o_load, o_nil, o_fa, v_elPtr, v_rto, v_nil, v_fa, ev_tm, putD_some, reduceIte, Nat.reduceEqDiff, Nat.zero_add, List.getElem?_cons_succ, List.getElem?_cons_zero]
  refine hQ _ _ (WpC_cond (t := false) ?_ (WpC_skip ?_))
  · simp only [ev_tm, reduceIte, Nat.reduceEqDiff]
  clear hQ
  refine C_sr fun Q' hQ => ?_
  simp only [r_Dev_Read_5, WpO_op, WpO_call, WpON_some, o_mv, ev_tm, evs_cons, evs_nil, putD_some, reduceIte, Nat.reduceEqDiff]
  refine WpOC.to ((at_spec h hlt).mono ?_)
  rintro v m' ⟨rfl, rfl⟩
  simp only [WpO_op, WpO_nil, WpON_some, o_mv, ev_tm, putD_some, reduceIte, Nat.reduceEqDiff]
  refine hQ _ _ (WpC_seq (C_sr fun Q' hQ => ?_))
  simp only [r_Dev_Read_6, b_np77, WpO_op, WpO_nil, WpON_some, o_mv, o_eqp, v_rto, v_eqp_n, ev_tm, ev_cst, putD_some, reduceIte, Nat.reduceEqDiff]
  refine hQ _ _ (WpC_cond (t := false) ?_ (WpC_skip (C_sr fun Q' hQ => ?_)))
  · simp only [ev_tm, reduceIte, Nat.reduceEqDiff]
  simp only [r_Dev_Read_8, WpO_op, WpO_call, WpON_some, o_mv, ev_tm, evs_cons, evs_nil, putD_some, reduceIte, Nat.reduceEqDiff]
  refine WpOC.to ((last_spec h hk hl).mono ?_)
  rintro v m' ⟨rfl, rfl⟩
  simp only [WpO_call, ev_tm, evs_cons, evs_nil, putD_some, reduceIte, Nat.reduceEqDiff]
  refine WpOC.to (cloneB_spec hw hcl h0 hz fun m1 s' b' hb hk1 hn => ?_)
  simp only [WpO_op, WpO_nil, WpON_some, o_mv, ev_tm, ev_cst, putD_some, reduceIte, Nat.reduceEqDiff]
  refine hQ _ _ (WpC_ret ⟨.inr rfl, _, ares2, ?_⟩)
  simp only [ev_tm, one_2, reduceIte, Nat.reduceEqDiff]
  exact hQ0 m1 s' b' hb hk1 hn
end
end Go.Proofs.Ytmkbjcjlnidjiaa
