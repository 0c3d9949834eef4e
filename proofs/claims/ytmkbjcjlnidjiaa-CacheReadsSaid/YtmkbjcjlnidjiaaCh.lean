import Derived.Test.YtmkbjcjlnidjiaaCg
set_option linter.unusedVariables false
set_option linter.unusedVariables false
/- The law CacheReads, walked. -/
namespace Go.Proofs.Ytmkbjcjlnidjiaa
open Go Go.Am
abbrev ty_l8_Op : TypeId := 51
theorem b_nn28 : binS Try.prog .eql ty_pcache_Cache nilp nilp = some (.b true) := by kernel_rfl
theorem o_iaA (len size : Nat) (x i : RO) (fr : Fr) (m : M) : run (.iaA len size x i) fr m = rIaA len size (.cst (ev x fr)) (.cst (ev i fr)) .leaf m := rfl
theorem v_iaA (len sz b off : Nat) (m : M) {k : Nat} (h : k < len) : rIaA len sz (.cst (.ptr b off)) (.cst (iv (k : Int))) .leaf m = some (.ptr b (off + k * sz), m) := by
  show bc (Nat.ble (Nat.succ k) len) (fc (Nat.add off (Nat.mul k sz)) fun o => some (AV.ptr b o, m)) none = _
  rw [nble, decide_eq_true (by omega), bc_true, fc_eq]; rfl
theorem q_and7 (z : Int) : ∃ k : Nat, k < 8 ∧ binS Try.prog .and ty_int (iv z) (iv 7) = some (iv (k : Int)) := by
  rw [binS_iv]
  have e : intAll .and .i64 z .i64 7 = some (ofI .i64 (IntKind.i64.wrap ((BitVec.ofInt 64 z &&& BitVec.ofInt 64 7).toNat : Int))) := rfl
  have hk : (BitVec.ofInt 64 z &&& BitVec.ofInt 64 7).toNat ≤ 7 := by
    rw [BitVec.toNat_and]
    exact Nat.and_le_right
  generalize (BitVec.ofInt 64 z &&& BitVec.ofInt 64 7).toNat = k at e hk
  refine ⟨k, by omega, ?_⟩
  rw [e, IntWalk.i64_in _ (by omega)]
  rfl
theorem lwakes {m : M} : Ran Try.prog tb fn_l8_wakes [] m (.b true) m := WpF_known (tab_get Try.func6) rfl ⟨rfl, rfl⟩
theorem lfull {m : M} (hw : Wf m) (x : UInt8) : ∃ m' s b, BtU m' s (List.replicate 64 x) b ∧ Keep m m' (fun _ => False) ∧ m.next ≤ b ∧ Ran Try.prog tb fn_l8_full [.y x.toNat] m s m' := by
  obtain ⟨m1, e1, h1, k1, n1⟩ := zrow hw
  have hw1 := k1.wf
  have key : WpF Try.prog tb fn_l8_full [.y x.toNat] m fun s m' => BtU m' s (List.replicate 64 x) m.next ∧ Keep m m' (fun _ => False) := by
    refine WpF.go at_l8_full ?_
    simp -implicitDefEqProofs only [o_l8_full, r_l8_full_0, r_l8_full_1, r_l8_full_2, e1, o_mksl, o_mv, ev_tm, ev_cst, putD_some, fill_cons, fill_nil, ↓reduceIte, Nat.zero_add, GO_nil, GO_op, GN_some, GX_reg, GX_seq, GX_block, RK_app, SK_normal]
    refine GX_loop (fun j fr mk => ∃ k, k ≤ 64 ∧ j = 64 - k ∧ (ev (tm 0) fr = .y x.toNat ∧ ev (tm 3) fr = .slice m.next 0 64 64 false ∧ ev (tm 4) fr = iv (k : Nat)) ∧ Keep m mk (fun _ => False) ∧ At mk m.next ty_uint8 true (List.replicate k (.y x.toNat) ++ List.replicate (64 - k) (.y 0))) (k := 64) ⟨0, by omega, rfl, by simp -implicitDefEqProofs only [ev_tm, ↓reduceIte, Nat.reduceEqDiff, nc0, and_self], k1, h1⟩ ?_
    rintro j fr mk ⟨k, hk, rfl, ⟨e0, e3, e4⟩, kk, hbk⟩
    have hwk := kk.wf
    by_cases hlt : k < 64
    · obtain ⟨m2, e2, h2, k2, n2⟩ := hbk.st hwk k [.y x.toNat] rfl (by simp; omega)
      rw [splice_rep hlt] at h2
      simp -implicitDefEqProofs only [o_l8_full, r_l8_full_3, r_l8_full_5, r_l8_full_4, e0, e3, e4, show ((k : Int) < 64) = True from eq_true (by omega), v_iaS 1 m.next 0 64 64 false hlt, Nat.mul_one, e2, b_add ty_int (show -9223372036854775808 ≤ (k : Int) + 1 by omega) (show (k : Int) + 1 ≤ 9223372036854775807 by omega), o_mv, o_store, o_add, o_lt, o_iaS, v_elPtr, v_ob, v_rto, b_lt, ev_tm, ev_cst, putD_none, putD_some, bc_true, nbeq, ↓reduceIte, Nat.reduceEqDiff, List.length_cons, List.length_nil, Nat.zero_add, decide_true, GO_nil, GO_op, GN_some, GX_skip, GX_reg, GX_seq, GX_cond, GX_block, RK_app, SK_normal, GC_true, BK_normal, cells_yc]
      exact LK_n (k' := 64 - (k + 1)) (by omega) ⟨k + 1, by omega, rfl, by simp -implicitDefEqProofs only [e0, e3, show (k : Int) + 1 = ((k + 1 : Nat) : Int) from rfl, ev_tm, ↓reduceIte, Nat.reduceEqDiff, and_self], kk.trans k2 fun b hb e => by omega, h2⟩
    · have hk64 : k = 64 := by omega
      subst hk64
      simp -implicitDefEqProofs only [o_l8_full, r_l8_full_3, r_l8_full_6, e3, e4, show (((64 : Nat) : Int) < 64) = False from eq_false (by omega), o_mv, o_lt, v_rto, b_lt, ev_tm, ev_cst, putD_some, nbeq, ↓reduceIte, Nat.reduceEqDiff, Nat.reduceSub, decide_true, decide_false, GO_nil, GO_op, GN_some, GX_reg, GX_seq, GX_cond, GX_exit, GX_ret, RK_app, SK_normal, SK_exit, GC_false, BK_exit, BE_true, LK_exit, FK_ret1]
      rw [Nat.sub_self, List.replicate_zero, List.append_nil] at hbk
      exact ⟨bt_rep hbk, kk⟩
  obtain ⟨s, m', ⟨g1, g2⟩, r⟩ := key.ran
  exact ⟨m', s, m.next, g1, g2, Nat.le_refl _, r⟩
/-- A script that is handed in. -/
abbrev Sop : Type := Int × Int × UInt8 × AV
noncomputable def scells (o : Sop) : List AV := [iv o.1, iv o.2.1, .y o.2.2.1.toNat, o.2.2.2]
inductive ScAt (m : M) : AV → List Sop → Prop where
  | nil : ScAt m nils []
  | empty {b cap : Nat} {lim : Bool} : ScAt m (.slice b 0 0 cap lim) []
  | row {b cap : Nat} {lim : Bool} {l : List Sop} (h : AtR m b (l.flatMap scells)) (hk : kd m b roK) : ScAt m (.slice b 0 l.length cap lim) l
theorem ScAt.kp {m m' : M} {x : AV} {l : List Sop} {E S : List Nat} (h : ScAt m x l) (hw : Wf m) (k : KeepK m m' E S) (hE : roK ∉ E := by decide) : ScAt m' x l := by
  cases h with
  | nil => exact .nil
  | empty => exact .empty
  | row h hk => exact .row (h.keep hw k (Kinds.not hk hE (by decide))) (hk.kp hw k hE)
theorem ScAt.len {m : M} {x : AV} {l : List Sop} (h : ScAt m x l) : lenK false x = some l.length := by cases h <;> rfl
theorem flat4 : ∀ (l : List Sop) (k : Nat) (o : Sop) (r : Nat), l[k]? = some o → r < 4 → (l.flatMap scells)[k * 4 + r]? = (scells o)[r]?
  | [], k, o, r, h, _ => by cases h
  | x :: l, 0, o, r, h, hr => by
    cases h
    rw [List.flatMap_cons, List.getElem?_append_left (by show _ < 4; omega), Nat.zero_mul, Nat.zero_add]
  | x :: l, k + 1, o, r, h, hr => by
    rw [List.flatMap_cons, List.getElem?_append_right (by show 4 ≤ _; omega)]
    rw [show (k + 1) * 4 + r - (scells x).length = k * 4 + r by show _ - 4 = _; omega]
    exact flat4 l k o r (by simpa using h) hr
theorem ScAt.elem {m : M} {x : AV} {l : List Sop} (h : ScAt m x l) {k : Nat} {o : Sop} (hk : l[k]? = some o) : ∃ b cap lim, x = .slice b 0 l.length cap lim ∧ k < l.length ∧ m.rd b (k * 4) = some (iv o.1) ∧ m.rd b (k * 4 + 1) = some (iv o.2.1) ∧ m.rd b (k * 4 + 2) = some (.y o.2.2.1.toNat) := by
  have hlt := (List.getElem?_eq_some_iff.1 hk).1
  cases h with
  | nil => cases hk
  | empty => cases hk
  | row h =>
    refine ⟨_, _, _, rfl, hlt, ?_, ?_, ?_⟩
    · rw [h.rd]; exact flat4 l k o 0 hk (by omega)
    · rw [h.rd]; exact flat4 l k o 1 hk (by omega)
    · rw [h.rd]; exact flat4 l k o 2 hk (by omega)
noncomputable def yv (x : UInt8) : AV := .y x.toNat
structure RI (m : M) (c d cb hb cap : Nat) (C : Cc) (D : Dv) (vals : List UInt8) (n : Nat) : Prop where
  wf : Wf m
  cc : CcAt m c d C
  dv : DvAt m d cb D
  cl : C.Lim D
  dl : D.Lim n n
  l8 : D.L.length = 8
  fu : D.fused = false
  de : D.dead = false
  ec : C.cap = cap
  con : Con C D
  pins : ∀ k, pinsOf C k = 0
  v8 : vals.length = 8
  vs : ∀ k v, vals[k]? = some v → vw C D k = some (List.replicate 64 v)
  hv : At m hb ty_8_uint8 true (vals.map yv)
section
variable {m m' : M} {c d cb hb cap n : Nat} {C C' : Cc} {D D' : Dv} {vals : List UInt8}
theorem RI.k0 (h : RI m c d cb hb cap C D vals n) (k : Keep m m' fun _ => False) : RI m' c d cb hb cap C D vals n :=
  { h with wf := k.wf, cc := h.cc.k0 h.wf k, dv := h.dv.k0 h.wf k, hv := h.hv.keep h.wf k fun h => h }
theorem RI.mono {n' : Nat} (h : RI m c d cb hb cap C D vals n) (hn : n ≤ n') : RI m c d cb hb cap C D vals n' := { h with dl := h.dl.mono hn hn }
theorem RI.live (h : RI m c d cb hb cap C D vals n) : D.dies = false := by unfold Dv.dies; rw [h.de, h.fu]; rfl
theorem RI.nofull (h : RI m c d cb hb cap C D vals n) (h1 : ∀ l ∈ C.ls, 0 < l.pins) (h2 : ¬ C.ls.length < C.cap) : False := by
  have hc := h.cl.cap1
  cases hls : C.ls with
  | nil => rw [hls] at h2; simp at h2; omega
  | cons l ls =>
    have hl : l ∈ C.ls := by rw [hls]; exact List.mem_cons_self ..
    have := h.pins l.b
    unfold pinsOf at this
    rw [fl_mem h.cc.old.nb hl] at this
    have h3 := h1 l hl
    have : l.pins = 0 := this
    omega
theorem Rm.dies {C C' : Cc} {D D' : Dv} (h : Rm C D C' D') : D'.fused = D.fused ∧ D'.dead = D.dead := by
  rcases h with ⟨_, _, rfl⟩ | ⟨_, v, _, _, _, _, _, ⟨_, rfl⟩ | ⟨_, _, hw⟩⟩
  · exact ⟨rfl, rfl⟩
  · exact ⟨rfl, rfl⟩
  · exact ⟨hw.dead.2, hw.dead.1⟩
theorem GetR.lim {C C2 : Cc} {D D2 : Dv} {k : Nat} {t : Bs} {n w : Nat} (h : GetR C D k t C2 D2) (hC : C.Lim D) (hD : D.Lim n w) (hk : k < D.L.length) (h64 : t.length = 64) : C2.Lim D2 ∧ D2.Lim (n + 1) (w + 1) ∧ D2.L.length = D.L.length ∧ C2.cap = C.cap ∧ C2.mb = C.mb ∧ D2.fused = D.fused ∧ D2.dead = D.dead := by
  rcases h with ⟨l, hf, rfl, rfl, rfl⟩ | ⟨hf, C1, n1, x, hr, rfl, hb, hp, hd, hdl, hx, ht⟩
  · exact ⟨hC, hD.mono (by omega) (by omega), rfl, rfl, rfl, rfl, rfl⟩
  · obtain ⟨g1, g2, g3, g4, g5, g6⟩ := hr.lim hC hD
    refine ⟨⟨by show 1 ≤ C1.cap; rw [g3]; exact hC.cap1, by show C1.cap ≤ 1000; rw [g3]; exact hC.cap2, by show (C1.ls ++ [n1]).length ≤ C1.cap; rw [List.length_append]; simp; omega, fun l hl => ?_⟩, g1, g2, g3, g4, hr.dies.1, hr.dies.2⟩
    rcases List.mem_append.1 hl with hl | hl
    · rw [g2]; exact hC.each l (g6 l hl)
    · cases List.mem_singleton.1 hl
      rw [hb, hdl, g2]
      exact ⟨hk, h64⟩
theorem PutR.lim {C C2 : Cc} {D D2 : Dv} {k : Nat} {t : Bs} {n w : Nat} (h : PutR C D k t C2 D2) (hC : C.Lim D) (hD : D.Lim n w) (hk : k < D.L.length) (h64 : t.length = 64) : C2.Lim D2 ∧ D2.Lim (n + 1) (w + 1) ∧ D2.L.length = D.L.length ∧ C2.cap = C.cap ∧ C2.mb = C.mb ∧ D2.fused = D.fused ∧ D2.dead = D.dead := by
  rcases h with ⟨l, n1, hf, hb, hp, hpins, hd, hdl, rfl, rfl⟩ | ⟨hf, C1, n1, hr, rfl, hb, hp, hd, hdl⟩
  · refine ⟨⟨hC.cap1, hC.cap2, by show (setl C.ls n1).length ≤ C.cap; unfold setl; rw [List.length_map]; exact hC.len, fun x hx => ?_⟩, hD.mono (by omega) (by omega), rfl, rfl, rfl, rfl, rfl⟩
    obtain ⟨y, hy, ⟨_, rfl⟩ | ⟨e, rfl⟩⟩ := setl_mem hx
    · rw [hb, hdl]; exact ⟨hk, h64⟩
    · exact hC.each x hy
  · obtain ⟨g1, g2, g3, g4, g5, g6⟩ := hr.lim hC hD
    refine ⟨⟨by show 1 ≤ C1.cap; rw [g3]; exact hC.cap1, by show C1.cap ≤ 1000; rw [g3]; exact hC.cap2, by show (C1.ls ++ [n1]).length ≤ C1.cap; rw [List.length_append]; simp; omega, fun l hl => ?_⟩, g1, g2, g3, g4, hr.dies.1, hr.dies.2⟩
    rcases List.mem_append.1 hl with hl | hl
    · rw [g2]; exact hC.each l (g6 l hl)
    · cases List.mem_singleton.1 hl
      rw [hb, hdl, g2]
      exact ⟨hk, h64⟩
theorem OutR.dies {ks : List Nat} {C C2 : Cc} {D D2 : Dv} (h : OutR ks C D C2 D2) : D2.fused = D.fused ∧ D2.dead = D.dead := by
  induction h with
  | nil => exact ⟨rfl, rfl⟩
  | step h s ih =>
    rcases s with ⟨_, _, rfl⟩ | ⟨l, _, _, _, _, hw⟩
    · exact ih
    · exact ⟨hw.dead.2.trans ih.1, hw.dead.1.trans ih.2⟩
/-- Get, as it is seen from here. -/
theorem RI.get (h : RI m c d cb hb cap C D vals n) (hn : n < 399) {k : Nat} {v : UInt8} (hk : vals[k]? = some v) {Q : AV → M → Prop}
    (hQ : ∀ m' C' D' s b, RI m' c d cb hb cap C' D' vals (n + 1) → BtU m' s (List.replicate 64 v) b → KeepK m m' cdK [C.mb] → C'.mb = C.mb → ((∀ l ∈ C.ls, l.dirty = false) → ∀ l ∈ C'.ls, l.dirty = false) → Q (.tuple [s, iv 0]) m') : WpF Try.prog tb fn_Ca_Get [.ptr c 0, iv k] m Q := by
  have hk8 : k < 8 := by rw [← h.v8]; exact (List.getElem?_eq_some_iff.1 hk).1
  refine cget h.wf h.cc h.dv h.cl h.dl (by omega) (by omega) h.de (by rw [h.l8]; exact hk8) (fun m1 C1 D1 s t b hg hb h1 hd1 k1 hbn => ?_) (fun hf hall hlt _ _ _ _ => (h.nofull hall hlt).elim) (fun _ hd _ _ _ _ _ _ _ _ _ => by rw [h.live] at hd; cases hd)
  obtain ⟨g1, g2, g3, g4, g5⟩ := hg.good h.cc.old.nb h.con
  have ht : t = List.replicate 64 v := by rw [h.vs k v hk] at g4; exact (Option.some.inj g4).symm
  obtain ⟨i1, i2, i3, i4, i5, i6, i7⟩ := hg.lim h.cl h.dl (by rw [h.l8]; exact hk8) (by rw [ht]; simp)
  subst ht
  exact hQ m1 C1 D1 s b ⟨k1.wf, h1, hd1, i1, i2, i3.trans h.l8, i6.trans h.fu, i7.trans h.de, i4.trans h.ec, g2, fun j => (g5 j).trans (h.pins j), h.v8, fun j w hj => (g3 j).trans (h.vs j w hj), h.hv.kp h.wf k1⟩ hb k1 i5 fun hcl l hl => by
    rcases hg with ⟨_, _, _, rfl, _⟩ | ⟨_, Cx, nx, _, hr, rfl, _, _, hd, _⟩
    · exact hcl l hl
    · rcases List.mem_append.1 hl with hl | hl
      · exact hcl l ((hr.lim h.cl h.dl).2.2.2.2.2 l hl)
      · cases List.mem_singleton.1 hl
        exact hd
theorem set_row {vals : List UInt8} {k : Nat} {x : UInt8} (hk : k < vals.length) : splice (vals.map yv) k [yv x] = (vals.set k x).map yv := by
  apply List.ext_getElem?
  intro j
  rw [splice_get (by simp; omega), List.getElem?_map, List.getElem?_map, List.getElem?_set]
  simp only [List.length_cons, List.length_nil]
  by_cases e : k = j
  · subst e
    rw [if_pos (by omega), if_pos rfl, if_pos hk, Nat.sub_self]; rfl
  · rw [if_neg (by omega), if_neg e]
theorem RI.put (h : RI m c d cb hb cap C D vals n) (hn : n < 399) {k : Nat} (hk8 : k < 8) {x : UInt8} {s : AV} {b : Nat} (hs : BtU m s (List.replicate 64 x) b) {Q : AV → M → Prop}
    (hQ : ∀ m' C' D', (∀ m2, m'.wr hb k [yv x] = some m2 → RI m2 c d cb hb cap C' D' (vals.set k x) (n + 1) ∧ KeepK m m2 ((ty_8_uint8 + 1) :: cdK) [C.mb]) → (∃ m2, m'.wr hb k [yv x] = some m2) → KeepK m m' cdK [C.mb] → C'.mb = C.mb → Q (iv 0) m') : WpF Try.prog tb fn_Ca_Put [.ptr c 0, iv k, s] m Q := by
  refine cput h.wf h.cc h.dv h.cl h.dl (by omega) (by omega) (by rw [h.l8]; exact hk8) hs (by simp) (fun m1 C1 D1 hp h1 hd1 k1 => ?_) (fun hf hall hlt _ _ _ _ => (h.nofull hall hlt).elim) (fun _ hd _ _ _ _ _ _ _ _ _ => by rw [h.live] at hd; cases hd)
  obtain ⟨g1, g2, g3, g4⟩ := hp.good h.cc.old.nb h.con
  obtain ⟨i1, i2, i3, i4, i5, i6, i7⟩ := hp.lim h.cl h.dl (by rw [h.l8]; exact hk8) (by simp)
  have hw1 := k1.wf
  have hv1 := h.hv.kp h.wf k1
  obtain ⟨m2, e2, hv2, k2, n2⟩ := hv1.st hw1 k [yv x] (set_row (by rw [h.v8]; exact hk8)) (by rw [List.length_map, h.v8]; simp; omega)
  have kk2 := k2.k1 (E := [ty_8_uint8 + 1]) (S := []) hv1.kd
  refine hQ m1 C1 D1 (fun m2' e => ?_) ⟨m2, e2⟩ k1 i5
  rw [e2] at e
  cases e
  refine ⟨⟨k2.wf, h1.kp hw1 kk2, hd1.kp hw1 kk2, i1, i2, i3.trans h.l8, i6.trans h.fu, i7.trans h.de, i4.trans h.ec, g2, fun j => (g4 j).trans (h.pins j), by rw [List.length_set]; exact h.v8, fun j w hj => ?_, hv2⟩, (k1.sub (G := (ty_8_uint8 + 1) :: cdK) (R := [C.mb])).tk kk2⟩
  rw [g3]
  rw [List.getElem?_set] at hj
  by_cases e : k = j
  · rw [if_pos e, if_pos (by rw [h.v8]; exact hk8)] at hj
    cases hj
    rw [if_pos e.symm]
  · rw [if_neg e] at hj
    rw [if_neg fun h => e h.symm]
    exact h.vs j w hj
theorem RI.out (h : RI m c d cb hb cap C D vals n) (hn : n < 390) {k : Nat} (hk8 : k < 8) {b cap' : Nat} {xt : Bool} (hs : At m b ty_int xt [iv k, iv k]) {Q : AV → M → Prop}
    (hQ : ∀ m' C' D', RI m' c d cb hb cap C' D' vals (n + 2) → KeepK m m' cdK [C.mb] → C'.mb = C.mb → Q (iv 0) m') : WpF Try.prog tb fn_Ca_Out [.ptr c 0, .slice b 0 2 cap' false] m Q := by
  refine cout h.wf h.cc h.dv h.cl h.dl (zs := [(k : Int), (k : Int)]) rfl (fun m' kk => vs_at (hs.keep h.wf kk fun h => h) rfl rfl) (by simp; omega) (by omega) (ks := [k, k]) ?_ (fun j hj => by rw [h.l8]; simp at hj; omega) (fun m1 C1 D1 hO h1 hd1 k1 => ?_) (fun hf => by rw [h.fu, h.de] at hf; simp at hf)
  · show ins (k : Int) (ins (k : Int) []) = _
    simp [ins, bc_true]
  · obtain ⟨g1, g2, g3, g4, _⟩ := hO.good h.cc.old.nb h.con
    obtain ⟨i1, i2, i3, i4, i5, _⟩ := hO.lim h.cl h.dl
    have kk := k1.sub (G := cdK) (R := [C.mb])
    exact hQ m1 C1 D1 ⟨k1.wf, h1, hd1, i1, i2, i3.trans h.l8, hO.dies.1.trans h.fu, hO.dies.2.trans h.de, i4.trans h.ec, g2, fun j => (g4 j).trans (h.pins j), h.v8, fun j w hj => (g3 j).trans (h.vs j w hj), h.hv.kp h.wf k1⟩ kk i5
/-- What the law's loop holds between rounds, with its frame. -/
structure FI (fr : Fr) (y : AV) (c d hb cap i : Nat) : Prop where
  e0 : ev (tm 0) fr = iv cap
  e2 : ev (tm 2) fr = y
  e7 : ev (tm 7) fr = .ptr d 0
  e9 : ev (tm 9) fr = .ptr c 0
  e11 : ev (tm 11) fr = .ptr hb 0
  e12 : ev (tm 12) fr = iv i
theorem FI.of {fr : Fr} {y : AV} {c d hb cap i : Nat} (h : ev (tm 0) fr = iv cap ∧ ev (tm 2) fr = y ∧ ev (tm 7) fr = .ptr d 0 ∧ ev (tm 9) fr = .ptr c 0 ∧ ev (tm 11) fr = .ptr hb 0 ∧ ev (tm 12) fr = iv i) : FI fr y c d hb cap i := ⟨h.1, h.2.1, h.2.2.1, h.2.2.2.1, h.2.2.2.2.1, h.2.2.2.2.2⟩
theorem cheld_len (h : RI m c d cb hb cap C D vals n) {Q : AV → M → Prop} (hQ : ∀ m' x, lenK false x = some C.ls.length → Keep m m' (fun _ => False) → Q x m') : WpF Try.prog tb fn_Ca_Held [.ptr c 0] m Q := by
  refine cheld h.wf h.cc h.cl h.dl.len fun m1 x hx k1 => hQ m1 x ?_ k1
  rcases hx with ⟨e, rfl⟩ | ⟨_, B, rfl, _, _⟩
  · rw [e]; rfl
  · rfl
theorem Lst.len {m : M} {x : AV} {zs : List Int} {n0 : Nat} (h : Lst m x zs n0) : lenK false x = some zs.length := by
  rcases h with ⟨rfl, rfl⟩ | ⟨b, cap, junk, xt, rfl, h2, h3⟩ <;> rfl
set_option maxRecDepth 20000 in
/-- The end of a round: nothing went wrong. -/
theorem rtail {fr : Fr} {y : AV} {i : Nat} (h : RI m c d cb hb cap C D vals n) (hf : FI fr y c d hb cap i) (e10 : ev (tm 10) fr = iv 0) {K : X → Fr → M → Prop}
    (hK : ∀ fr' m', FI fr' y c d hb cap i → Keep m m' (fun _ => False) → K .normal fr' m') : GX Try.prog tb k_l8_CacheReads_39 K fr m := by
  have hl := h.cl.len
  rw [h.ec] at hl
  have hdz := dz_len C
  simp -implicitDefEqProofs only [o_l8_CacheReads_39, r_l8_CacheReads_23, e10, hf.e9, o_mv, o_ne, v_rto, b_ne, ev_tm, ev_cst, evs_cons, evs_nil, putD_some, want_b, bc_false, ↓reduceIte, Nat.reduceEqDiff, decide_true, Bool.not_true, Bool.not_false, GO_op, GO_opG, GO_callG, GN_some, GG_true, GFG_true, GX_reg, GX_seq]
  refine cheld_len h fun m1 x1 hx1 k1 => ?_
  have h1 := h.k0 k1
  simp -implicitDefEqProofs only [hx1, hf.e0, hf.e9, show ((cap : Int) < (C.ls.length : Int)) = False from eq_false (by omega), o_mv, o_pick, o_gt, o_len, v_elB, v_ob, v_rto, b_gt, ev_tm, ev_cst, evs_cons, evs_nil, putD_some, want_b, bc_false, ↓reduceIte, Nat.reduceEqDiff, decide_false, Bool.not_false, GO_op, GO_opG, GO_callG, GN_some, GG_true, GFG_true, CK_app]
  refine cdirty h1.wf h1.cc h1.cl h1.dl.len fun m2 x2 hx2 k2 => ?_
  have h2 := h1.k0 k2
  simp -implicitDefEqProofs only [hx2.len, hf.e9, o_mv, o_len, v_ob, ev_tm, evs_cons, evs_nil, putD_some, want_b, bc_false, ↓reduceIte, Nat.reduceEqDiff, Bool.not_false, GO_opG, GO_callG, GN_some, GG_true, GFG_true, CK_app]
  refine cheld_len h2 fun m3 x3 hx3 k3 => ?_
  simp -implicitDefEqProofs only [o_l8_CacheReads, hx3, show ((C.ls.length : Int) < (C.dz.length : Int)) = False from eq_false (by omega), o_pick, o_gt, o_len, v_elB, v_ob, v_rto, b_gt, ev_tm, ev_cst, putD_some, want_b, bc_false, ↓reduceIte, Nat.reduceEqDiff, decide_false, Bool.not_false, GO_nil, GO_op, GO_opG, GN_some, GG_true, CK_app, GX_skip, GX_cond, RK_app, SK_normal, GC_false]
  exact hK _ m3 (.of (by simp -implicitDefEqProofs only [hf.e0, hf.e2, hf.e7, hf.e9, hf.e11, hf.e12, ev_tm, ↓reduceIte, Nat.reduceEqDiff, and_self])) ((k1.tf k2).tf k3)
theorem sub_len' : ∀ (A B : List Nat), A.Nodup → (∀ a ∈ A, a ∈ B) → A.length ≤ B.length
  | [], B, _, _ => Nat.zero_le _
  | a :: A, B, hn, hs => by
    rw [List.nodup_cons] at hn
    have ha : a ∈ B := hs a (List.mem_cons_self ..)
    have := sub_len' A (B.erase a) hn.2 fun x hx => by
      have hxa : x ≠ a := fun e => hn.1 (e ▸ hx)
      exact (List.mem_erase_of_ne hxa).2 (hs x (List.mem_cons_of_mem _ hx))
    rw [List.length_erase_of_mem ha] at this
    have hB : 0 < B.length := List.length_pos_of_mem ha
    show A.length + 1 ≤ _
    omega
theorem Cc.few (hn : Nb C) (hC : C.Lim D) : C.ls.length ≤ D.L.length := by
  have := sub_len' (C.ls.map (·.b)) (List.range D.L.length) hn fun a ha => by
    obtain ⟨l, hl, rfl⟩ := List.mem_map.1 ha
    exact List.mem_range.2 (hC.each l hl).1
  simpa using this
theorem OutR.clean {ks : List Nat} (h : OutR ks C D C' D') (hn : Nb C) (hc : Con C D) (hk : ∀ l ∈ C.ls, l.dirty = true → l.b ∈ ks) : ∀ l ∈ C'.ls, l.dirty = false := by
  obtain ⟨g1, g2, g3, g4, g5, g6, g7⟩ := h.good hn hc
  intro l hl
  have hf := fl_mem g1 hl
  by_cases hlk : l.b ∈ ks
  · exact g5 _ hlk l hf
  · cases h0 : fl C.ls l.b with
    | none => rw [g7 _ h0] at hf; cases hf
    | some l0 =>
      obtain ⟨hm, hb⟩ := fl_some h0
      cases hd : l0.dirty with
      | true => exact absurd (hb ▸ hk l0 hm hd) hlk
      | false =>
        rw [g6 _ l0 h0 hd] at hf
        cases hf; exact hd
theorem RI.dev (h : RI m c d cb hb cap C D vals n) (hcl : ∀ l ∈ C.ls, l.dirty = false) {k : Nat} {v : UInt8} (hk : vals[k]? = some v) : D.rd k = some (List.replicate 64 v) := by
  rw [← h.vs k v hk]
  unfold vw
  cases hf : fl C.ls k with
  | none => rfl
  | some l =>
    obtain ⟨hm, rfl⟩ := fl_some hf
    exact h.con l hm (hcl l hm)
set_option maxRecDepth 20000 in
set_option maxHeartbeats 2000000 in
/-- The law's end: all is written out, flushed, and read. -/
theorem rend {fr : Fr} {y : AV} {i : Nat} (h : RI m c d cb hb cap C D vals n) (hn : n ≤ 250) (hf : FI fr y c d hb cap i) : GX Try.prog tb k_l8_CacheReads_43 (FK Try.prog [.tmp 6] fun v x => v = .b true) fr m := by
  have hl8 := Cc.few h.cc.old.nb h.cl
  rw [h.l8] at hl8
  simp -implicitDefEqProofs only [o_l8_CacheReads_43, r_l8_CacheReads_25, hf.e9, o_mv, ev_tm, ev_cst, evs_cons, evs_nil, putD_some, ↓reduceIte, List.append_nil, GO_op, GO_call, GN_some, GF_func, GX_reg, GX_seq]
  refine call h.wf h.cc h.dv h.cl h.dl (by omega) (by omega) (fun m1 C1 D1 ks hO hks hkd h1 hd1 k1 => ?_) (fun hf => by rw [h.fu, h.de] at hf; simp at hf)
  obtain ⟨g1, g2, g3, g4, _⟩ := hO.good h.cc.old.nb h.con
  obtain ⟨i1, i2, i3, i4, i5, _⟩ := hO.lim h.cl h.dl
  have hcl := hO.clean h.cc.old.nb h.con hkd
  have hR1 : RI m1 c d cb hb cap C1 D1 vals (n + 8) := ⟨k1.wf, h1, hd1, i1, i2.mono (by omega) (by omega), i3.trans h.l8, hO.dies.1.trans h.fu, hO.dies.2.trans h.de, i4.trans h.ec, g2, fun j => (g4 j).trans (h.pins j), h.v8, fun j w hj => (g3 j).trans (h.vs j w hj), h.hv.kp h.wf k1⟩
  clear hO g1 g2 g3 g4 i1 i2 i3 i4 i5 hks hkd
  have hb1 := hR1.dl
  simp -implicitDefEqProofs only [o_l8_CacheReads, r_l8_CacheReads_26, hf.e7, o_mv, ev_tm, ev_cst, evs_cons, evs_nil, putD_some, ↓reduceIte, Nat.reduceEqDiff, List.append_nil, GO_nil, GO_op, GO_call, GN_some, GF_func, CK_app, GX_reg, GX_seq, RK_app, SK_normal]
  refine dflush_ok hR1.wf hR1.dv hR1.live (by have := hb1.f1; omega) hb1.f2 hb1.w1 (by have := hb1.w2; omega) hb1.len (fun x hx => by have := hb1.wl x hx; omega) fun m2 hd2 k2 => ?_
  simp -implicitDefEqProofs only [o_l8_CacheReads, r_l8_CacheReads_27, hf.e7, o_mv, ev_tm, ev_cst, evs_cons, evs_nil, putD_some, ↓reduceIte, Nat.reduceEqDiff, List.append_nil, GO_nil, GO_op, GO_call, GN_some, GF_func, CK_app, GX_reg, GX_seq, RK_app, SK_normal]
  have hmap : ((D1.L.map Cw.fl).map Cw.dr) = D1.L.map Cw.fl := by
    rw [List.map_congr_left (g := id)]
    · simp
    · intro x hx
      obtain ⟨z, _, rfl⟩ := List.mem_map.1 hx
      rfl
  have hfw : ∀ x ∈ D1.L.map Cw.fl, x.wl = [] := fun x hx => by
    obtain ⟨z, _, rfl⟩ := List.mem_map.1 hx
    rfl
  refine dcrash0 k2.wf hd2 (by show (D1.L.map Cw.fl).length ≤ _; rw [List.length_map]; exact hb1.len) (fun x hx => by rw [hfw x hx]; simp) fun m3 hd3 k3 => ?_
  have k13 := k2.tk k3
  have hrd : ∀ k, (⟨D1.L.map Cw.fl, false, false, D1.fuse - 1, D1.writes + 1⟩ : Dv).rd k = D1.rd k := fun k => by
    unfold Dv.rd
    show ((D1.L.map Cw.fl)[k]?).map _ = _
    rw [List.getElem?_map, Option.map_map]
    congr 1
    funext x
    show x.fl.last.2.1 = _
    rw [Cw.fl_last]
  have hvw : ∀ k, vw C1 ⟨D1.L.map Cw.fl, false, false, D1.fuse - 1, D1.writes + 1⟩ k = vw C1 D1 k := fun k => by
    unfold vw
    rw [hrd]
  have hR3 : RI m3 c d cb hb cap C1 ⟨D1.L.map Cw.fl, false, false, D1.fuse - 1, D1.writes + 1⟩ vals (n + 9) := by
    refine ⟨k13.wf, hR1.cc.kp hR1.wf k13, ?_, ⟨hR1.cl.cap1, hR1.cl.cap2, hR1.cl.len, fun l hl => ?_⟩, ⟨fun x hx => by rw [hfw x hx]; simp, fun x hx => ?_, ?_, ?_, ?_, ?_, ?_⟩, ?_, rfl, rfl, hR1.ec, fun l hl hd => (hrd _).trans (hR1.con l hl hd), hR1.pins, hR1.v8, fun k v hk => (hvw k).trans (hR1.vs k v hk), hR1.hv.kp hR1.wf k13⟩
    · have hd3' : DvAt m3 d cb ⟨(D1.L.map Cw.fl).map Cw.dr, false, false, D1.fuse - 1, D1.writes + 1⟩ := hd3
      rwa [hmap] at hd3'
    · rw [show (⟨D1.L.map Cw.fl, false, false, D1.fuse - 1, D1.writes + 1⟩ : Dv).L.length = D1.L.length from List.length_map ..]
      exact hR1.cl.each l hl
    · obtain ⟨z, hz, rfl⟩ := List.mem_map.1 hx
      rw [Cw.fl_last]; exact hb1.l64 z hz
    · show (D1.L.map Cw.fl).length ≤ _; rw [List.length_map]; exact hb1.len
    · have := hb1.f1; show _ ≤ D1.fuse - 1; omega
    · have := hb1.f2; show D1.fuse - 1 ≤ _; omega
    · have := hb1.w1; show 0 ≤ D1.writes + 1; omega
    · have := hb1.w2; show D1.writes + 1 ≤ _; omega
    · show (D1.L.map Cw.fl).length = 8; rw [List.length_map]; exact hR1.l8
  generalize (⟨D1.L.map Cw.fl, false, false, D1.fuse - 1, D1.writes + 1⟩ : Dv) = D3 at hR3
  have hdz : C1.dz = [] := by
    cases hz : C1.dz with
    | nil => rfl
    | cons z zs =>
      obtain ⟨l, hl, _, hd⟩ := (dz_mem hR3.cc).1 (show z ∈ C1.dz by rw [hz]; exact List.mem_cons_self ..)
      rw [hcl l hl] at hd; cases hd
  simp -implicitDefEqProofs only [o_l8_CacheReads, r_l8_CacheReads_28, hf.e9, o_mv, o_pick, o_ne, v_elB, v_rto, b_ne, ev_tm, ev_cst, evs_cons, evs_nil, putD_some, want_b, bc_false, ↓reduceIte, Nat.reduceEqDiff, decide_true, Bool.not_true, Bool.not_false, GO_nil, GO_op, GO_opG, GO_callG, GN_some, GG_true, GFG_true, CK_app, GX_reg, GX_seq, RK_app, SK_normal]
  refine cdirty hR3.wf hR3.cc hR3.cl hR3.dl.len fun m4 x4 hx4 k4 => ?_
  have hx4l := hx4.len
  rw [hdz] at hx4l
  simp -implicitDefEqProofs only [o_l8_CacheReads, r_l8_CacheReads_30, hx4l, o_mv, o_pick, o_ne, o_len, v_elB, v_ob, v_rto, b_ne, ev_tm, ev_cst, putD_some, want_b, bc_false, ↓reduceIte, Nat.reduceEqDiff, List.length_nil, decide_true, Bool.not_true, Bool.not_false, GO_nil, GO_op, GO_opG, GN_some, GG_true, CK_app, GX_skip, GX_reg, GX_seq, GX_cond, GX_block, RK_app, SK_normal, GC_false, nc0]
  refine GX_loop (fun j fr mk => ∃ i C D, i ≤ 8 ∧ j = 8 - i ∧ (ev (tm 7) fr = .ptr d 0 ∧ ev (tm 9) fr = .ptr c 0 ∧ ev (tm 11) fr = .ptr hb 0 ∧ ev (tm 17) fr = iv i) ∧ RI mk c d cb hb cap C D vals (n + 9 + i) ∧ ∀ l ∈ C.ls, l.dirty = false) (k := 8) ⟨0, C1, D3, by omega, rfl, by simp -implicitDefEqProofs only [hf.e7, hf.e9, hf.e11, ev_tm, ↓reduceIte, Nat.reduceEqDiff, nc0, and_self], hR3.k0 k4, hcl⟩ ?_
  clear hf
  rintro j fr mk ⟨i, C2, D2, hi, rfl, ⟨e7, e9, e11, e17⟩, hR, hcl2⟩
  by_cases hlt : i < 8
  · have hv : vals[i]? = some (vals[i]'(by rw [hR.v8]; exact hlt)) := List.getElem?_eq_getElem _
    generalize vals[i]'(by rw [hR.v8]; exact hlt) = v at hv
    have hrd2 := hR.dev hcl2 hv
    have hx : D2.L[i]? = some (D2.L[i]'(by rw [hR.l8]; exact hlt)) := List.getElem?_eq_getElem _
    generalize D2.L[i]'(by rw [hR.l8]; exact hlt) = x at hx
    have hxl : x.last.2.1 = List.replicate 64 v := by
      unfold Dv.rd at hrd2
      rw [hx] at hrd2
      exact Option.some.inj hrd2
    obtain ⟨m5, s5, b5, hb5, k5, n5, r5⟩ := dread hR.wf hR.dv hR.de hx (by have := hR.dl.wl x (List.mem_of_getElem? hx); omega) (by rw [hxl]; simp)
    rw [hxl] at hb5
    have hR5 := hR.k0 k5
    simp -implicitDefEqProofs only [o_l8_CacheReads, r_l8_CacheReads_31, r_l8_CacheReads_33, r_l8_CacheReads_34, e7, e9, e17, show ((i : Int) < 8) = True from eq_true (by omega), r5.eq, o_mv, o_lt, o_ext, v_elTup, v_rto, b_lt, ev_tm, ev_cst, evs_cons, evs_nil, putD_some, ↓reduceIte, Nat.reduceEqDiff, decide_true, List.append_nil, List.getElem?_cons_succ, List.getElem?_cons_zero, GO_nil, GO_op, GO_call, GN_some, GF_func, CK_app, GX_skip, GX_reg, GX_seq, GX_cond, GX_block, RK_app, SK_normal, GC_true]
    refine hR5.get (by omega) hv fun m6 C6 D6 s6 b6 hR6 hb6 k6 ec6 hc6 => ?_
    have hb56 := hb5.kp hR5.wf k6
    obtain ⟨m7, s7, b7, hb7, k7, n7, r7⟩ := lfull hR6.wf v
    have hb57 := hb56.keep hR6.wf k7 fun h => h
    have hb67 := hb6.keep hR6.wf k7 fun h => h
    have hs1 := (same_spec (m := m7) hb57.bs hb7.bs).eq
    have hs2 := (same_spec (m := m7) hb67.bs hb57.bs).eq
    have hrd6 : m6.rd hb i = some (.y v.toNat) := by rw [hR6.hv.rd, List.getElem?_map, hv]; rfl
    simp -implicitDefEqProofs only [o_l8_CacheReads, r_l8_CacheReads_35, r_l8_CacheReads_32, e11, e17, o_iaA, v_iaA 8 1 hb 0 m6 hlt, Nat.mul_one, hrd6, r7.eq, hs1, hs2, b_add ty_int (show -9223372036854775808 ≤ (i : Int) + 1 by omega) (show (i : Int) + 1 ≤ 9223372036854775807 by omega), o_mv, o_pick, o_load, o_add, o_ne, o_un, o_ext, v_elB, v_elPtr, v_elTup, v_rto, v_not, b_ne, ev_tm, ev_cst, evs_cons, evs_nil, putD_some, want_b, bc_false, ↓reduceIte, Nat.reduceEqDiff, Nat.zero_add, decide_true, Bool.not_true, Bool.not_false, List.getElem?_cons_succ, List.getElem?_cons_zero, GO_nil, GO_op, GO_opG, GO_callG, GN_some, GG_true, GFG_true, CK_app, GX_skip, GX_reg, GX_seq, GX_cond, RK_app, SK_normal, GC_false, BK_normal]
    exact LK_n (k' := 8 - (i + 1)) (by omega) ⟨i + 1, C6, D6, by omega, rfl, by simp -implicitDefEqProofs only [e7, e9, e11, show (i : Int) + 1 = ((i + 1 : Nat) : Int) from rfl, ev_tm, ↓reduceIte, Nat.reduceEqDiff, and_self], (hR6.k0 k7).mono (by omega), hc6 hcl2⟩
  · have hi8 : i = 8 := by omega
    subst hi8
    simp -implicitDefEqProofs only [o_l8_CacheReads, r_l8_CacheReads_31, r_l8_CacheReads_37, e17, show (((8 : Nat) : Int) < 8) = False from eq_false (by omega), o_mv, o_lt, v_rto, b_lt, ev_tm, ev_cst, putD_some, nbeq, ↓reduceIte, Nat.reduceSub, decide_true, decide_false, GO_nil, GO_op, GN_some, GX_reg, GX_seq, GX_cond, GX_exit, GX_ret, RK_app, SK_normal, SK_exit, GC_false, BK_exit, BE_true, LK_exit, FK_ret1]
set_option maxRecDepth 20000 in
set_option maxHeartbeats 2000000 in
theorem reads_spec {m : M} {a : Int} {x y : AV} {ps : List Int} {po : Option Nat} {ops : List Sop} (hw : Wf m) (hx : RsAt m x (ps.map iv) po) (hxl : ps.length * 8 ≤ 140737488355328) (hy : ScAt m y ops) (hyl : ops.length ≤ 1000000000000000) : WpF Try.prog tb fn_l8_CacheReads [iv a, x, y] m fun v _ => v = .b true := by
  refine WpF.go at_l8_CacheReads ?_
  simp -implicitDefEqProofs only [o_l8_CacheReads, r_l8_CacheReads_0, r_l8_CacheReads_1, r_l8_CacheReads_3, lwakes.eq, o_mv, o_un, v_rto, v_not, ev_tm, ev_cst, evs_cons, evs_nil, putD_some, fill_cons, fill_nil, ↓reduceIte, Nat.reduceAdd, Nat.zero_add, Bool.not_true, List.append_nil, GO_nil, GO_op, GO_call, GN_some, GF_func, CK_app, GX_skip, GX_reg, GX_seq, GX_cond, RK_app, SK_normal, GC_false]
  refine dnew (n := 8) hw (by omega) (by omega) fun m1 d cb D hd hL hfu hde hf0 hw0 hfr k1 => ?_
  have hw1 := k1.wf
  simp -implicitDefEqProofs only [o_l8_CacheReads, r_l8_CacheReads_4, o_mv, o_ext, v_elTup, v_rto, ev_tm, ev_cst, evs_cons, evs_nil, putD_some, ↓reduceIte, Nat.reduceEqDiff, List.append_nil, List.getElem?_cons_succ, List.getElem?_cons_zero, GO_nil, GO_op, GO_call, GN_some, GF_func, CK_app, GX_reg, GX_seq, RK_app, SK_normal]
  by_cases hcap : a < 1 ∨ 512 < a
  · simp -implicitDefEqProofs only [(cnew_no hcap).eq, o_l8_CacheReads, r_l8_CacheReads_5, r_l8_CacheReads_6, show ((1 : Int) = 0) = False from eq_false (by omega), b_nn28, o_mv, o_lt, o_ne, o_eqp, o_ext, v_elTup, v_rto, v_eqp_nn, b_lt, b_ne, ev_tm, ev_cst, putD_some, want_b, bc_true, ↓reduceIte, Nat.reduceEqDiff, decide_false, Bool.not_true, Bool.not_false, List.getElem?_cons_succ, List.getElem?_cons_zero, GO_nil, GO_op, GO_opG, GN_some, GG_true, CK_app, GX_reg, GX_seq, GX_cond, RK_app, SK_normal, GC_true]
    by_cases h1 : a < 1
    · simp -implicitDefEqProofs only [eq_true h1, o_mv, o_pick, v_elB, ev_tm, ev_cst, putD_some, want_b, bc_true, ↓reduceIte, Nat.reduceEqDiff, decide_true, Bool.not_true, Bool.not_false, GO_nil, GO_op, GO_opG, GN_some, GG_true, GG_false, GX_ret, RK_app, SK_normal, SK_ret, FK_ret1]
    · simp -implicitDefEqProofs only [eq_false h1, show (512 < a) = True from eq_true (by omega), o_mv, o_pick, o_gt, v_elB, v_rto, b_gt, ev_tm, ev_cst, putD_some, want_b, bc_true, bc_false, ↓reduceIte, Nat.reduceEqDiff, decide_true, decide_false, Bool.not_true, Bool.not_false, GO_nil, GO_op, GO_opG, GN_some, GG_true, GX_ret, RK_app, SK_normal, SK_ret, FK_ret1]
  obtain ⟨cap, rfl⟩ : ∃ cap : Nat, a = cap := ⟨a.toNat, by omega⟩
  refine cnew hw1 (by omega) (by omega) (hx.keep hw k1 fun _ _ h => h) hxl fun m2 c C hc hcc hcl hcm k2 => ?_
  have hw2 := k2.wf
  obtain ⟨m3, e3, hv3, k3, n3⟩ := addZ_at hw2 ty_8_uint8 8 [.y 0, .y 0, .y 0, .y 0, .y 0, .y 0, .y 0, .y 0]
  have hw3 := k3.wf
  have k13 := (k1.tf k2).tf k3
  have h0 : RI m3 c d cb m2.next cap C D (List.replicate 8 0) 0 := by
    refine ⟨hw3, hc.k0 hw2 k3, (hd.k0 hw1 k2).k0 hw2 k3, ⟨by omega, by omega, by rw [hcl]; simp, fun l hl => by rw [hcl] at hl; cases hl⟩, ⟨fun x hx => by rw [(hfr x hx).2]; exact Nat.le_refl _, fun x hx => ?_, by omega, by rw [hf0]; simp, by rw [hf0]; omega, by rw [hw0]; simp, by rw [hw0]; simp⟩, hL, hfu, hde, hcc, fun l hl => (by rw [hcl] at hl; cases hl), fun k => (by unfold pinsOf fl; rw [hcl]; rfl), rfl, fun k v hv => ?_, hv3⟩
    · unfold Cw.last
      rw [(hfr x hx).2]
      show x.al.length = 64
      rw [(hfr x hx).1]; simp [zeros]
    · have hv0 : v = 0 := by
        have := List.mem_of_getElem? hv
        rw [List.mem_replicate] at this
        exact this.2
      have hk : k < 8 := by have := (List.getElem?_eq_some_iff.1 hv).1; simpa using this
      subst hv0
      unfold vw Dv.rd fl
      rw [hcl]
      have : D.L[k]? = some (D.L[k]'(by omega)) := List.getElem?_eq_getElem _
      have hm := List.mem_of_getElem? this
      generalize D.L[k]'(by omega) = z at this hm
      show (D.L[k]?).map _ = _
      rw [this]
      show some z.last.2.1 = _
      unfold Cw.last
      rw [(hfr z hm).2]
      show some z.al = _
      rw [(hfr z hm).1]; rfl
  simp -implicitDefEqProofs only [o_l8_CacheReads, r_l8_CacheReads_5, r_l8_CacheReads_7, r_l8_CacheReads_9, r_l8_CacheReads_10, b_np28, e3, o_mv, o_alloc, o_ne, o_eqp, o_ext, v_elTup, v_rto, v_eqp_n, b_ne, ev_tm, ev_cst, putD_some, ↓reduceIte, Nat.reduceEqDiff, decide_true, Bool.not_true, List.getElem?_cons_succ, List.getElem?_cons_zero, GO_nil, GO_op, GN_some, CK_app, GX_skip, GX_reg, GX_seq, GX_cond, GX_block, RK_app, SK_normal, GC_false]
  refine GX_loop (fun j fr mk => ∃ i C D vals, i ≤ 100 ∧ i ≤ ops.length ∧ j = 100 - i ∧ FI fr y c d m2.next cap i ∧ RI mk c d cb m2.next cap C D vals (2 * i) ∧ ScAt mk y ops) (k := 100) ⟨0, C, D, _, by omega, by omega, rfl, .of (by simp -implicitDefEqProofs only [ev_tm, ↓reduceIte, Nat.reduceEqDiff, nc0, and_self]), h0, hy.kp (E := []) (S := []) hw k13.k0⟩ ?_
  clear h0 hcl hcm hfr hc hcc hd hL hfu hde hf0 hw0
  rintro j fr mk ⟨i, C, D, vals, hi1, hi2, rfl, hf, hR, hsc⟩
  have k02 : ∀ {m' E S}, KeepK mk m' E S → roK ∉ E → ScAt m' y ops := fun k hE => hsc.kp hR.wf k hE
  by_cases hlt : i < ops.length
  case neg =>
    have hi : i = ops.length := by omega
    simp -implicitDefEqProofs only [o_l8_CacheReads, r_l8_CacheReads_11, hf.e2, hf.e12, hsc.len, show ((i : Int) < (ops.length : Int)) = False from eq_false (by omega), o_mv, o_pick, o_lt, o_len, v_elB, v_ob, v_rto, b_lt, ev_tm, ev_cst, putD_some, want_b, bc_false, nbeq, ↓reduceIte, Nat.reduceEqDiff, decide_true, decide_false, Bool.not_true, GO_nil, GO_op, GO_opG, GN_some, GG_false, GX_reg, GX_seq, GX_cond, GX_exit, RK_app, SK_normal, SK_exit, GC_false, BK_exit, BE_true, LK_exit]
    exact rend (y := y) (i := i) hR (by omega) (.of (by simp -implicitDefEqProofs only [hf.e0, hf.e2, hf.e7, hf.e9, hf.e11, hf.e12, ev_tm, ↓reduceIte, Nat.reduceEqDiff, and_self]))
  by_cases h100 : i < 100
  case neg =>
    simp -implicitDefEqProofs only [o_l8_CacheReads, r_l8_CacheReads_11, hf.e2, hf.e12, hsc.len, show ((i : Int) < (ops.length : Int)) = True from eq_true (by omega), show ((i : Int) < 100) = False from eq_false (by omega), o_mv, o_pick, o_lt, o_len, v_elB, v_ob, v_rto, b_lt, ev_tm, ev_cst, putD_some, want_b, bc_true, nbeq, ↓reduceIte, Nat.reduceEqDiff, decide_true, decide_false, Bool.not_true, GO_nil, GO_op, GO_opG, GN_some, GG_true, GX_reg, GX_seq, GX_cond, GX_exit, RK_app, SK_normal, SK_exit, GC_false, BK_exit, BE_true, LK_exit]
    exact rend (y := y) (i := i) hR (by omega) (.of (by simp -implicitDefEqProofs only [hf.e0, hf.e2, hf.e7, hf.e9, hf.e11, hf.e12, ev_tm, ↓reduceIte, Nat.reduceEqDiff, and_self]))
  have ho : ops[i]? = some ops[i] := List.getElem?_eq_getElem hlt
  generalize ops[i] = o at ho
  obtain ⟨b, capx, lim, hyx, _, q0, q1, q2⟩ := hsc.elem ho
  obtain ⟨k, hk8, eand⟩ := q_and7 o.2.1
  have e2 : ev (tm 2) fr = .slice b 0 ops.length capx lim := by rw [hf.e2, hyx]
  have qq : ∀ {m'}, ScAt m' y ops → m'.rd b (i * 4 + 2) = some (.y o.2.2.1.toNat) := fun h => by
    obtain ⟨b', _, _, e, _, _, _, g⟩ := h.elem ho
    rw [hyx] at e
    cases e
    exact g
  have hvk : vals[k]? = some (vals[k]'(by rw [hR.v8]; exact hk8)) := List.getElem?_eq_getElem _
  generalize vals[k]'(by rw [hR.v8]; exact hk8) = v at hvk
  /- What comes behind a branch. -/
  have fin : ∀ fr1 m1 C1 D1 vals1, FI fr1 y c d m2.next cap i → ev (tm 10) fr1 = iv 0 → RI m1 c d cb m2.next cap C1 D1 vals1 (2 * (i + 1)) → ScAt m1 y ops →
      GX Try.prog tb k_l8_CacheReads_39 (BK 1 (SK Try.prog tb k_l8_CacheReads_42 (LK (fun j fr mk => ∃ i C D vals, i ≤ 100 ∧ i ≤ ops.length ∧ j = 100 - i ∧ FI fr y c d m2.next cap i ∧ RI mk c d cb m2.next cap C D vals (2 * i) ∧ ScAt mk y ops) (100 - i) (BK 0 (SK Try.prog tb k_l8_CacheReads_43 (FK Try.prog [.tmp 6] fun v x => v = .b true)))))) fr1 m1 := by
    intro fr1 m1 C1 D1 vals1 hf1 e10 hR1 hs1
    refine rtail hR1 hf1 e10 fun fr2 m3 hf2 k3 => ?_
    simp -implicitDefEqProofs only [o_l8_CacheReads, r_l8_CacheReads_12, hf2.e12, b_add ty_int (show -9223372036854775808 ≤ (i : Int) + 1 by omega) (show (i : Int) + 1 ≤ 9223372036854775807 by omega), o_mv, o_add, v_rto, ev_tm, ev_cst, putD_some, ↓reduceIte, GO_nil, GO_op, GN_some, GX_reg, RK_app, SK_normal, BK_normal]
    exact LK_n (k' := 100 - (i + 1)) (by omega) ⟨i + 1, C1, D1, vals1, by omega, by omega, rfl, .of (by simp -implicitDefEqProofs only [hf2.e0, hf2.e2, hf2.e7, hf2.e9, hf2.e11, show (i : Int) + 1 = ((i + 1 : Nat) : Int) from rfl, ev_tm, ↓reduceIte, Nat.reduceEqDiff, and_self]), hR1.k0 k3, hs1.kp (E := []) (S := []) hR1.wf k3.k0⟩
  by_cases hk2 : o.1 = 2
  · obtain ⟨m5, s5, b5, hb5, k5, n5, r5⟩ := lfull hR.wf o.2.2.1
    simp -implicitDefEqProofs only [o_l8_CacheReads, r_l8_CacheReads_11, r_l8_CacheReads_13, r_l8_CacheReads_14, r_l8_CacheReads_15, e2, hf.e9, hf.e12, show ((i : Int) < (ops.length : Int)) = True from eq_true (by omega), show ((i : Int) < 100) = True from eq_true (by omega), len_sl, v_iaS 4 b 0 ops.length capx lim hlt, q0, q1, q2, q_andop, eand, eq_true hk2, r5.eq, o_mv, o_pick, o_load, o_lt, o_eq, o_fa, o_iaS, o_len, v_elB, v_elPtr, v_ob, v_rto, v_fa, b_lt, b_eq, len_sl, ev_tm, ev_cst, evs_cons, evs_nil, putD_some, want_b, bc_true, ↓reduceIte, Nat.reduceEqDiff, Nat.zero_add, Nat.add_zero, decide_true, Bool.not_true, List.append_nil, GO_nil, GO_op, GO_opG, GO_call, GN_some, GG_true, GF_func, CK_app, GX_skip, GX_reg, GX_seq, GX_cond, GX_block, RK_app, SK_normal, GC_true]
    refine (hR.k0 k5).put (by omega) hk8 hb5 fun m6 C1 D1 hnext ⟨m7, e7⟩ k6 ec => ?_
    have hs6 := (k02 (k5.k0 (E := []) (S := [])) (by decide)).kp (hR.k0 k5).wf k6
    obtain ⟨hR7, k7⟩ := hnext m7 e7
    have hs7 := (k02 (k5.k0 (E := []) (S := [])) (by decide)).kp (hR.k0 k5).wf k7
    have e7' : m6.wr m2.next k [.y o.2.2.1.toNat] = some m7 := e7
    simp -implicitDefEqProofs only [o_l8_CacheReads, r_l8_CacheReads_16, e2, hf.e11, hf.e12, v_iaS 4 b 0 ops.length capx lim hlt, qq hs6, o_iaA, v_iaA 8 1 m2.next 0 m6 hk8, Nat.mul_one, cells_yc, e7', o_mv, o_load, o_store, o_fa, o_iaS, v_elPtr, v_ob, v_rto, v_fa, ev_tm, putD_none, putD_some, bc_true, nbeq, ↓reduceIte, Nat.reduceEqDiff, List.length_cons, List.length_nil, Nat.zero_add, decide_true, GO_nil, GO_op, GN_some, CK_app, GX_reg, RK_app, SK_normal, cells_yc]
    exact fin _ m7 C1 D1 _ (.of (by simp -implicitDefEqProofs only [hf.e0, hf.e2, hf.e7, hf.e9, hf.e11, hf.e12, ev_tm, ↓reduceIte, Nat.reduceEqDiff, and_self])) (by simp -implicitDefEqProofs only [ev_tm, ↓reduceIte, Nat.reduceEqDiff]) (hR7.mono (by omega)) hs7
  by_cases hk7 : o.1 = 7
  · obtain ⟨m5, e5, h5, k5, n5⟩ := addL_at hR.wf ty_int 2 [iv k, iv k]
    simp -implicitDefEqProofs only [o_l8_CacheReads, r_l8_CacheReads_11, r_l8_CacheReads_13, r_l8_CacheReads_14, r_l8_CacheReads_17, r_l8_CacheReads_18, e2, hf.e9, hf.e12, show ((i : Int) < (ops.length : Int)) = True from eq_true (by omega), show ((i : Int) < 100) = True from eq_true (by omega), len_sl, v_iaS 4 b 0 ops.length capx lim hlt, q0, q1, q_andop, eand, eq_false hk2, eq_true hk7, e5, o_mv, o_pick, o_bslice, o_load, o_lt, o_eq, o_fa, o_iaS, o_len, v_elB, v_elPtr, v_ob, v_rto, v_fa, b_lt, b_eq, len_sl, cells_iv, pv_nil, pv_cons, fillA_nil, fillA_cons, repl_2, ev_tm, ev_cst, evs_cons, evs_nil, putD_some, want_b, bc_true, nbeq, nble, ↓reduceIte, Nat.reduceEqDiff, Nat.reduceAdd, Nat.reduceLeDiff, List.length_cons, List.length_nil, Nat.zero_add, Nat.add_zero, decide_true, decide_false, Bool.true_and, Bool.and_true, Bool.not_true, List.take_succ_cons, List.take_zero, List.drop_succ_cons, List.drop_zero, List.drop_nil, List.nil_append, List.cons_append, List.append_nil, GO_nil, GO_op, GO_opG, GO_call, GN_some, GG_true, GF_func, GX_skip, GX_reg, GX_seq, GX_cond, GX_block, RK_app, SK_normal, GC_true, GC_false]
    refine (hR.k0 k5).out (by omega) hk8 h5 fun m6 C1 D1 hR6 k6 ec => ?_
    have hs6 := (k02 (k5.k0 (E := []) (S := [])) (by decide)).kp (hR.k0 k5).wf k6
    simp -implicitDefEqProofs only [o_mv, ev_tm, putD_some, ↓reduceIte, GO_nil, GO_op, GN_some, CK_app, RK_app, SK_normal]
    exact fin _ m6 C1 D1 _ (.of (by simp -implicitDefEqProofs only [hf.e0, hf.e2, hf.e7, hf.e9, hf.e11, hf.e12, ev_tm, ↓reduceIte, Nat.reduceEqDiff, and_self])) (by simp -implicitDefEqProofs only [ev_tm, ↓reduceIte]) (hR6.mono (by omega)) hs6
  · simp -implicitDefEqProofs only [o_l8_CacheReads, r_l8_CacheReads_11, r_l8_CacheReads_13, r_l8_CacheReads_14, r_l8_CacheReads_17, r_l8_CacheReads_19, r_l8_CacheReads_20, e2, hf.e9, hf.e12, show ((i : Int) < (ops.length : Int)) = True from eq_true (by omega), show ((i : Int) < 100) = True from eq_true (by omega), len_sl, v_iaS 4 b 0 ops.length capx lim hlt, q0, q1, q_andop, eand, eq_false hk2, eq_false hk7, o_mv, o_pick, o_load, o_lt, o_eq, o_fa, o_iaS, o_len, v_elB, v_elPtr, v_ob, v_rto, v_fa, b_lt, b_eq, len_sl, ev_tm, ev_cst, evs_cons, evs_nil, putD_some, want_b, bc_true, ↓reduceIte, Nat.reduceEqDiff, Nat.zero_add, Nat.add_zero, decide_true, decide_false, Bool.not_true, List.append_nil, GO_nil, GO_op, GO_opG, GO_call, GN_some, GG_true, GF_func, GX_skip, GX_reg, GX_seq, GX_cond, GX_block, RK_app, SK_normal, GC_true, GC_false]
    refine hR.get (by omega) hvk fun m6 C1 D1 s6 b6 hR6 hb6 k6 ec _ => ?_
    have hs6 := k02 k6 (by decide)
    obtain ⟨m7, s7, b7, hb7, k7, n7, r7⟩ := lfull hR6.wf v
    have hsame := (same_spec (m := m7) (hb6.bs.keep hR6.wf k7 fun h => h) hb7.bs).eq
    have hrd : m6.rd m2.next k = some (.y v.toNat) := by rw [hR6.hv.rd, List.getElem?_map, hvk]; rfl
    simp -implicitDefEqProofs only [o_l8_CacheReads, r_l8_CacheReads_21, hf.e11, o_iaA, v_iaA 8 1 m2.next 0 m6 hk8, Nat.mul_one, hrd, r7.eq, hsame, o_mv, o_load, o_un, o_ext, v_elPtr, v_elTup, v_rto, v_not, ev_tm, ev_cst, evs_cons, evs_nil, putD_some, ↓reduceIte, Nat.reduceEqDiff, Nat.zero_add, decide_true, Bool.not_true, List.append_nil, List.getElem?_cons_succ, List.getElem?_cons_zero, GO_nil, GO_op, GO_call, GN_some, GF_func, CK_app, GX_skip, GX_reg, GX_seq, GX_cond, RK_app, SK_normal, GC_false]
    exact fin _ m7 C1 D1 _ (.of (by simp -implicitDefEqProofs only [hf.e0, hf.e2, hf.e7, hf.e9, hf.e11, hf.e12, ev_tm, ↓reduceIte, Nat.reduceEqDiff, and_self])) (by simp -implicitDefEqProofs only [ev_tm, ↓reduceIte, Nat.reduceEqDiff]) ((hR6.k0 k7).mono (by omega)) (hs6.kp (E := []) (S := []) hR6.wf k7.k0)
end
end Go.Proofs.Ytmkbjcjlnidjiaa
