import Derived.Test.YthbfinjddaembaaGreatWbA
import Derived.Test.YthbfinjddaembaaGreatAmWm
set_option linter.unusedVariables false
set_option linter.unusedSimpArgs false
/- A device in memory: what is read of it. -/
namespace Go.Proofs.YthbfinjddaembaaGreat
open Go Go.Am
abbrev Bs := List UInt8
theorem repl_0 (z : List AV) : repl 0 z = [] := rfl
theorem b_np24 (b o : Nat) : binS Tryz.prog .eql ty_pdevice_Device (.ptr b o) nilp = some (.b false) := by kernel_rfl
theorem b_np77 (b o : Nat) : binS Tryz.prog .eql ty_pdevice_cell (.ptr b o) nilp = some (.b false) := by kernel_rfl
theorem b_sl31 (b o l c : Nat) (q : Bool) : binS Tryz.prog .eql ty_suint8 (.slice b o l c q) nils = some (.b false) := by kernel_rfl
theorem elem1 {m : M} {e : TypeId} {x : AV} {len : Nat} {cells : List AV} {o : Option Nat} (h : SlAt m e 1 x len cells o) {k : Nat} (hk : k < len) : ∃ b cap, x = .slice b 0 len cap false ∧ o = some b ∧ m.rd b k = cells[k]? := by
  cases h with
  | nil => omega
  | row h hl hj hc h0 => exact ⟨_, _, rfl, rfl, by rw [h.rd, List.getElem?_append_left (by omega)]⟩
theorem run_clone0 {m : M} {e e' sz bytes k b : Nat} {z new cells : List AV} {y : AV} (hb : At m b e' true cells) (hw : Wf m) (hy : Rds m y sz k new) (h0 : 0 < k) (hroom : room k bytes = true) :
    ∃ m', rApp e sz bytes z (.cst (.slice b 0 0 0 false)) (.cst y) .leaf m = some (.slice m.next 0 k k false, m') ∧ SlAt m' e sz (.slice m.next 0 k k false) k new (some m.next) ∧ Keep m m' (fun _ => False) ∧ m'.next = m.next + 1 := by
  obtain ⟨hy1, hy2, hy3⟩ := hy
  obtain ⟨s', m', h1, h2, h3, h4⟩ := appNew_at (e := e) (z := z) hy3 h0 hw
  have hs : s' = .slice m.next 0 k k false := by
    unfold appNew at h1
    rw [fc_eq] at h1
    cases h1
    rfl
  subst hs
  have hrd : m.rdN b 0 0 = some [] := by rw [hb.rdN (by omega)]; simp
  obtain ⟨c, c1, c2, c3, c4, c5, c6, c7⟩ := hb.row
  refine ⟨m', ?_, h2, h3, h4⟩
  show (ob (Am.lenA y) fun k => ob (firstA m sz k y) fun new => aappend e sz bytes z m (.slice b 0 0 0 false) k new) = _
  rw [hy1, v_ob, hy2, v_ob, aappend_sl]
  rw [Nat.zero_add, nble, decide_eq_false (by omega), bc_false, hroom, bc_true, M.cel_some.2 c1, v_ob, Nat.zero_mul, hrd, v_ob, c4, c6]
  exact h1
theorem bs_of {m : M} {l : Bs} {e : TypeId} {b : Nat} (h : SlAt m e 1 (.slice b 0 l.length l.length false) l.length (ycells l) (some b)) : BsAt m (.slice b 0 l.length l.length false) l b := by
  have hy : (ycells l).length = l.length := by simp [ycells]
  cases h with
  | row h hl hj hc h0 => exact .row h.r (by simp; omega) (by rw [List.drop_zero, List.take_append_of_le_length (by omega), List.take_of_length_le (by omega)])
structure Cw where
  av : AV
  al : Bs
  ab : Nat
  wv : AV
  wl : List (AV × Bs × Nat)
  wb : Option Nat
def Cw.last (c : Cw) : AV × Bs × Nat := c.wl.getLast?.getD (c.av, c.al, c.ab)
def dflat (L : List Cw) : List AV := L.flatMap fun c => [c.av, c.wv]
structure CwOk (m : M) (c : Cw) : Prop where
  ar : BsAt m c.av c.al c.ab
  sl : SlAt m ty_suint8 1 c.wv c.wl.length (c.wl.map (·.1)) c.wb
  ws : ∀ e ∈ c.wl, BsAt m e.1 e.2.1 e.2.2
structure DevAt (m : M) (d cb : Nat) (L : List Cw) (fused dead : Bool) (fuse writes : Int) : Prop where
  dev : At m d ty_device_Device true [iv 64, .slice cb 0 L.length L.length false, .b fused, iv fuse, .b dead, iv writes]
  row : At m cb ty_device_cell true (dflat L)
  ok : ∀ c ∈ L, CwOk m c
theorem dflat_len (L : List Cw) : (dflat L).length = L.length * 2 := by
  unfold dflat
  induction L with
  | nil => rfl
  | cons c l ih => rw [List.flatMap_cons, List.length_append, ih]; simp; omega
theorem dflat_get : ∀ (L : List Cw) (k : Nat) (c : Cw), L[k]? = some c → (dflat L)[k * 2]? = some c.av ∧ (dflat L)[k * 2 + 1]? = some c.wv
  | [], k, c, h => by cases h
  | x :: l, 0, c, h => by cases h; exact ⟨rfl, rfl⟩
  | x :: l, k + 1, c, h => by
    have := dflat_get l k c (by simpa using h)
    have e : dflat (x :: l) = x.av :: x.wv :: dflat l := rfl
    rw [e, show (k + 1) * 2 = k * 2 + 1 + 1 by omega]
    simpa using this
section
variable {m : M} {d cb : Nat} {L : List Cw} {fused dead : Bool} {fuse writes : Int}
end
abbrev uB : Nat := ty_uint8 + 1
abbrev BtU (m : M) (s : AV) (l : Bs) (b : Nat) : Prop := Bt m ty_uint8 s l b
theorem clone_ran2 {m : M} {s : AV} {l : Bs} {b : Nat} (hw : Wf m) (h : BsAt m s l b) (h0 : l ≠ []) (hl : l.length ≤ 1000000) :
    ∃ m' s' b', BtU m' s' l b' ∧ SlAt m' ty_uint8 1 s' l.length (ycells l) (some b') ∧ Keep m m' (fun _ => False) ∧ m.next ≤ b' ∧ Ran Tryz.prog tb fn_a6 [s] m s' m' := by
  have hpos : 0 < l.length := List.length_pos_iff.2 h0
  obtain ⟨m1, ea, ha, hk1, hn1⟩ := addL_at hw ty_uint8 0 []
  have hw1 := hk1.wf
  have h1 := h.keep hw hk1 fun h => h
  obtain ⟨m2, hr, hs2, hk2, hn2⟩ := run_clone0 (e := ty_uint8) (bytes := 1) (z := [.y 0]) ha hw1 h1.src hpos (room_of (by omega) (by omega))
  have hb31 : binS Tryz.prog .eql ty_suint8 s nils = some (.b false) := by cases h; exact b_sl31 _ _ _ _ _
  refine ⟨m2, _, _, ⟨bs_of hs2, hs2.kd⟩, hs2, hk1.ft hk2, by omega, ?_⟩
  refine WpF.go at_a6 ?_
  simp -implicitDefEqProofs only [o_a6, r_a6_0, r_a6_1, r_a6_3, hb31, repl_0, ea, hr, ↓reduceIte, Nat.reduceEqDiff, wA, wB, wC, wD]
theorem clone_ran {m : M} {s : AV} {l : Bs} {b : Nat} (hw : Wf m) (h : BsAt m s l b) (h0 : l ≠ []) (hl : l.length ≤ 1000000) :
    ∃ m' s' b', BtU m' s' l b' ∧ Keep m m' (fun _ => False) ∧ m.next ≤ b' ∧ Ran Tryz.prog tb fn_a6 [s] m s' m' := by
  obtain ⟨m', s', b', h1, _, h2, h3, h4⟩ := clone_ran2 hw h h0 hl
  exact ⟨m', s', b', h1, h2, h3, h4⟩
structure Bu (m : M) (s : AV) (l : Bs) (b : Nat) : Prop where
  bs : BsAt m s l b
  kd : Am.kd m b uB ∨ Am.kd m b roK
theorem Bu.kp {m m' : M} {s : AV} {l : Bs} {b : Nat} {E S : List Nat} (h : Bu m s l b) (hw : Wf m) (hk : KeepK m m' E S) (hE : uB ∉ E := by decide) (hR : roK ∉ E := by decide) : Bu m' s l b := by
  have hn : ¬ Kinds m E S b := by
    rcases h.kd with e | e
    · exact Kinds.not e hE (by decide)
    · exact Kinds.not e hR (by decide)
  refine ⟨h.bs.keep hw hk hn, ?_⟩
  rcases h.kd with e | e
  · exact .inl (e.of_get (hk.get b (e.lt hw) hn))
  · exact .inr (e.of_get (hk.get b (e.lt hw) hn))
theorem bu_of {m : M} {s : AV} {l : Bs} {b : Nat} (h : BtU m s l b) : Bu m s l b := ⟨h.bs, .inl h.kd⟩
structure Dv where
  L : List Cw
  fused : Bool
  dead : Bool
  fuse : Int
  writes : Int
structure ClAt (m : M) (c : Cw) : Prop where
  ar : BtU m c.av c.al c.ab
  sl : SlAt m ty_suint8 1 c.wv c.wl.length (c.wl.map (·.1)) c.wb
  ws : ∀ e ∈ c.wl, BtU m e.1 e.2.1 e.2.2
structure DvAt (m : M) (d cb : Nat) (D : Dv) : Prop where
  dev : At m d ty_device_Device true [iv 64, .slice cb 0 D.L.length D.L.length false, .b D.fused, iv D.fuse, .b D.dead, iv D.writes]
  row : At m cb ty_device_cell true (dflat D.L)
  ok : ∀ c ∈ D.L, ClAt m c
  wd : ∀ (i j : Nat) (c c' : Cw) (b : Nat), D.L[i]? = some c → D.L[j]? = some c' → c.wb = some b → c'.wb = some b → i = j
abbrev devK : List Nat := [ty_device_Device + 1, ty_device_cell + 1, ty_suint8 + 1]
theorem ClAt.keep {m m' : M} {c : Cw} (h : ClAt m c) (hw : Wf m) {F : Nat → Prop} (k : Keep m m' F) (h1 : ∀ b, kd m b (ty_uint8 + 1) → ¬ F b) (h2 : ∀ b, c.wb = some b → ¬ F b) : ClAt m' c :=
  ⟨h.ar.keep hw k (h1 _ h.ar.kd), h.sl.keep hw k h2, fun e he => (h.ws e he).keep hw k (h1 _ (h.ws e he).kd)⟩
theorem DvAt.kp {m m' : M} {d cb : Nat} {D : Dv} {E S : List Nat} (h : DvAt m d cb D) (hw : Wf m) (k : KeepK m m' E S) (hE : ∀ x ∈ [ty_device_Device + 1, ty_device_cell + 1, ty_suint8 + 1, ty_uint8 + 1], x ∉ E := by decide) : DvAt m' d cb D := by
  refine ⟨h.dev.kp hw k (hE _ (by simp)), h.row.kp hw k (hE _ (by simp)), fun c hc => (h.ok c hc).keep hw k (fun b hb => Kinds.not hb (hE _ (by simp)) (by decide)) (fun b hb => ?_), h.wd⟩
  have := (h.ok c hc).sl
  rw [hb] at this
  exact Kinds.not this.kd (hE _ (by simp)) (by decide)
theorem DvAt.k0 {m m' : M} {d cb : Nat} {D : Dv} (h : DvAt m d cb D) (hw : Wf m) (k : Keep m m' fun _ => False) : DvAt m' d cb D := h.kp hw (E := []) (S := []) k.k0
theorem dflat_get? (L : List Cw) (j : Nat) : (dflat L)[j]? = (L[j / 2]?).map fun c => if j % 2 = 0 then c.av else c.wv := by
  cases h : L[j / 2]? with
  | none =>
    rw [List.getElem?_eq_none_iff] at h
    rw [List.getElem?_eq_none (by rw [dflat_len]; have := Nat.div_add_mod j 2; have := Nat.mod_lt j (show 0 < 2 by omega); omega)]; rfl
  | some c =>
    obtain ⟨h1, h2⟩ := dflat_get L (j / 2) c h
    by_cases hj : j % 2 = 0
    · rw [show j / 2 * 2 = j by omega] at h1
      rw [h1]; simp [hj]
    · rw [show j / 2 * 2 + 1 = j by omega] at h2
      rw [h2]; simp [hj]
theorem dflat_set0 {L : List Cw} {k : Nat} {c c' : Cw} (h : L[k]? = some c) (hv : c'.wv = c.wv) : splice (dflat L) (k * 2) [c'.av] = dflat (L.set k c') := by
  have hk := (List.getElem?_eq_some_iff.1 h).1
  apply List.ext_getElem?
  intro j
  rw [splice_get (by rw [dflat_len]; simp; omega), dflat_get?, dflat_get?, List.getElem?_set]
  simp only [List.length_cons, List.length_nil]
  by_cases hj : k = j / 2
  · subst hj
    rw [if_pos rfl, if_pos hk, h]
    by_cases h2 : j % 2 = 0
    · rw [if_pos (show j / 2 * 2 ≤ j ∧ j < j / 2 * 2 + (0 + 1) by omega), show j - j / 2 * 2 = 0 by omega]; simp [h2]
    · rw [if_neg (show ¬ (j / 2 * 2 ≤ j ∧ j < j / 2 * 2 + (0 + 1)) by omega)]; simp [h2, hv]
  · rw [if_neg hj, if_neg (show ¬ (k * 2 ≤ j ∧ j < k * 2 + (0 + 1)) by omega)]
theorem dflat_set1 {L : List Cw} {k : Nat} {c c' : Cw} (h : L[k]? = some c) (hv : c'.av = c.av) : splice (dflat L) (k * 2 + 1) [c'.wv] = dflat (L.set k c') := by
  have hk := (List.getElem?_eq_some_iff.1 h).1
  apply List.ext_getElem?
  intro j
  rw [splice_get (by rw [dflat_len]; simp; omega), dflat_get?, dflat_get?, List.getElem?_set]
  simp only [List.length_cons, List.length_nil]
  by_cases hj : k = j / 2
  · subst hj
    rw [if_pos rfl, if_pos hk, h]
    by_cases h2 : j % 2 = 0
    · rw [if_neg (show ¬ (j / 2 * 2 + 1 ≤ j ∧ j < j / 2 * 2 + 1 + (0 + 1)) by omega)]; simp [h2, hv]
    · rw [if_pos (show j / 2 * 2 + 1 ≤ j ∧ j < j / 2 * 2 + 1 + (0 + 1) by omega), show j - (j / 2 * 2 + 1) = 0 by omega]; simp [h2]
  · rw [if_neg hj, if_neg (show ¬ (k * 2 + 1 ≤ j ∧ j < k * 2 + 1 + (0 + 1)) by omega)]
section
variable {m : M} {d cb : Nat} {D : Dv}
theorem DvAt.cell (h : DvAt m d cb D) {k : Nat} {c : Cw} (hk : D.L[k]? = some c) : m.rd cb (k * 2) = some c.av ∧ m.rd cb (k * 2 + 1) = some c.wv := by
  obtain ⟨g0, g1⟩ := dflat_get D.L k c hk
  exact ⟨by rw [h.row.rd]; exact g0, by rw [h.row.rd]; exact g1⟩
theorem dblocks (h : DvAt m d cb D) : Ran Tryz.prog tb fn_b4 [.ptr d 0] m (iv D.L.length) m := by
  refine WpF.go at_b4 ?_
  simp -implicitDefEqProofs only [o_b4, r_b4_0, r_b4_1, r_b4_3, b_np24, h.dev.rd, ↓reduceIte, Nat.reduceEqDiff, wA, wB, wC, wD]
theorem dblock (h : DvAt m d cb D) : Ran Tryz.prog tb fn_b3 [.ptr d 0] m (iv 64) m := by
  refine WpF.go at_b3 ?_
  simp -implicitDefEqProofs only [o_b3, r_b3_0, r_b3_1, r_b3_3, b_np24, h.dev.rd, ↓reduceIte, Nat.reduceEqDiff, wA, wB, wC, wD]
theorem dat (h : DvAt m d cb D) {k : Nat} (hk : k < D.L.length) : Ran Tryz.prog tb fn_c2 [.ptr d 0, iv k] m (.ptr cb (k * 2)) m := by
  refine WpF.go at_c2 ?_
  simp -implicitDefEqProofs only [o_c2, r_c2_0, r_c2_1, r_c2_3, h.dev.rd, show ((k : Int) < 0) = False from eq_false (by omega), show ((D.L.length : Int) ≤ (k : Int)) = False from eq_false (by omega), v_iaS 2 cb 0 D.L.length D.L.length false hk, ↓reduceIte, Nat.reduceEqDiff, Nat.reduceAdd, wA, wB, wC, wD]
theorem dlast (h : DvAt m d cb D) {k : Nat} {c : Cw} (hk : D.L[k]? = some c) (hl : c.wl.length ≤ 1000000) : Ran Tryz.prog tb fn_a2 [.ptr cb (k * 2)] m c.last.1 m := by
  have hc := h.ok c (List.mem_of_getElem? hk)
  obtain ⟨h0, h1⟩ := h.cell hk
  refine WpF.go at_a2 ?_
  by_cases hw : c.wl = []
  · have hl0 : c.wl.length = 0 := by rw [hw]; rfl
    have hlast : c.last = (c.av, c.al, c.ab) := by unfold Cw.last; rw [hw]; rfl
    simp -implicitDefEqProofs only [o_a2, r_a2_0, r_a2_1, r_a2_2, r_a2_4, h0, h1, hc.sl.len, hl0, hlast, ↓reduceIte, Nat.reduceEqDiff, wA, wB, wC, wD]
  · have hpos : 0 < c.wl.length := List.length_pos_iff.2 hw
    obtain ⟨b, cap, hx, _, hr⟩ := elem1 hc.sl (k := c.wl.length - 1) (by omega)
    have hA : (c.wl.length : Int) - 1 = ((c.wl.length - 1 : Nat) : Int) := by omega
    have hlast : m.rd b (c.wl.length - 1) = some c.last.1 := by
      rw [hr, List.getElem?_map]
      unfold Cw.last
      rw [List.getLast?_eq_getElem?]
      cases hg : c.wl[c.wl.length - 1]? with
      | none => rw [List.getElem?_eq_none_iff] at hg; omega
      | some e => rfl
    rw [hx] at h1
    simp -implicitDefEqProofs only [o_a2, r_a2_0, r_a2_1, r_a2_2, r_a2_3, h1, show ((0 : Int) < (c.wl.length : Int)) = True from eq_true (by omega), b_sub ty_int (show -9223372036854775808 ≤ (c.wl.length : Int) - 1 by omega) (show (c.wl.length : Int) - 1 ≤ 9223372036854775807 by omega), hA, v_iaS 1 b 0 c.wl.length cap false (show c.wl.length - 1 < c.wl.length by omega), Nat.mul_one, hlast, ↓reduceIte, Nat.reduceEqDiff, wA, wB, wC, wD]
theorem ClAt.last {c : Cw} (h : ClAt m c) : BtU m c.last.1 c.last.2.1 c.last.2.2 := by
  unfold Cw.last
  cases hg : c.wl.getLast? with
  | none => exact h.ar
  | some e => exact h.ws e (List.mem_of_getLast? hg)
def Dv.dies (D : Dv) : Bool := D.dead || (D.fused && decide (D.fuse = 0))
theorem burn_dead (hw : Wf m) (h : DvAt m d cb D) (hd : D.dies = true) : ∃ m', DvAt m' d cb { D with dead := true } ∧ KeepK m m' devK ∧ Ran Tryz.prog tb fn_c3 [.ptr d 0] m (iv 7) m' := by
  obtain ⟨m1, e1, h1, k1, n1⟩ := h.dev.st hw 4 [.b true]
  have kk := k1.k1 (E := [ty_device_Device + 1]) (S := []) h.dev.kd
  refine ⟨m1, ⟨h1, h.row.kp hw kk, fun c hc => (h.ok c hc).keep hw k1 (fun b hb e => ?_) (fun b hb e => ?_), h.wd⟩, kk.sub, ?_⟩
  · subst e; exact absurd (hb.inj h.dev.kd) (by decide)
  · subst e
    have := (h.ok c hc).sl
    rw [hb] at this
    exact absurd (this.kd.inj h.dev.kd) (by decide)
  refine WpF.go at_c3 ?_
  unfold Dv.dies at hd
  cases hx : D.dead with
  | true => simp -implicitDefEqProofs only [o_c3, r_c3_0, r_c3_1, r_c3_2, r_c3_3, h.dev.rd, hx, e1, h1.rd, ↓reduceIte, Nat.reduceEqDiff, Nat.reduceAdd, splice, wA, wB, wC, wD]
  | false =>
    rw [hx, Bool.false_or, Bool.and_eq_true, decide_eq_true_eq] at hd
    simp -implicitDefEqProofs only [o_c3, r_c3_0, r_c3_1, r_c3_2, r_c3_3, h.dev.rd, hx, hd.1, hd.2, e1, h1.rd, ↓reduceIte, Nat.reduceEqDiff, Nat.reduceAdd, splice, wA, wB, wC, wD]
theorem DvAt.nd (h : DvAt m d cb D) {c : Cw} (hc : c ∈ D.L) {b : Nat} (hb : c.wb = some b) : b ≠ d ∧ b ≠ cb := by
  have := (h.ok c hc).sl
  rw [hb] at this
  exact ⟨this.kd.ne h.dev.kd, this.kd.ne h.row.kd⟩
theorem burn_ok (hw : Wf m) (h : DvAt m d cb D) (hd : D.dies = false) (hf : -1000000000 ≤ D.fuse) (hf2 : D.fuse ≤ 9223372036854775807) (hx1 : 0 ≤ D.writes) (hx2 : D.writes ≤ 1000000000) :
    ∃ m', DvAt m' d cb { D with fuse := D.fuse - 1, writes := D.writes + 1 } ∧ KeepK m m' devK ∧ Ran Tryz.prog tb fn_c3 [.ptr d 0] m (iv 0) m' := by
  unfold Dv.dies at hd
  rw [Bool.or_eq_false_iff] at hd
  obtain ⟨hd1, hd2⟩ := hd
  obtain ⟨m1, e1, h1, k1, n1⟩ := h.dev.st hw 4 [.b false]
  obtain ⟨m2, e2, h2, k2, n2⟩ := h1.st k1.wf 3 [iv (D.fuse - 1)]
  obtain ⟨m3, e3, h3, k3, n3⟩ := h2.st k2.wf 5 [iv (D.writes + 1)]
  have k : Keep m m3 fun x => x = d := (k1.trans k2 fun _ _ h => h).trans k3 fun _ _ h => h
  have kk := k.k1 (E := [ty_device_Device + 1]) (S := []) h.dev.kd
  refine ⟨m3, ⟨by rw [hd1]; exact h3, h.row.kp hw kk, fun c hc => (h.ok c hc).keep hw k (fun b hb e => ?_) (fun b hb e => (h.nd hc hb).1 e), h.wd⟩, kk.sub, ?_⟩
  · subst e; exact absurd (hb.inj h.dev.kd) (by decide)
  refine WpF.go at_c3 ?_
  cases hx : D.fused with
  | false => simp -implicitDefEqProofs only [o_c3, r_c3_0, r_c3_1, r_c3_2, r_c3_4, r_c3_5, r_c3_6, h.dev.rd, hx, hd1, e1, h1.rd, b_sub ty_int (show -9223372036854775808 ≤ D.fuse - 1 by omega) (show D.fuse - 1 ≤ 9223372036854775807 by omega), e2, h2.rd, b_add ty_int (show -9223372036854775808 ≤ D.writes + 1 by omega) (show D.writes + 1 ≤ 9223372036854775807 by omega), e3, ↓reduceIte, Nat.reduceEqDiff, Nat.reduceAdd, splice, wA, wB, wC, wD]
  | true =>
    have hz : ¬ D.fuse = 0 := by
      rw [hx, Bool.true_and] at hd2
      exact of_decide_eq_false hd2
    simp -implicitDefEqProofs only [o_c3, r_c3_0, r_c3_1, r_c3_2, r_c3_4, r_c3_5, r_c3_6, h.dev.rd, hx, hd1, hz, e1, h1.rd, b_sub ty_int (show -9223372036854775808 ≤ D.fuse - 1 by omega) (show D.fuse - 1 ≤ 9223372036854775807 by omega), e2, h2.rd, b_add ty_int (show -9223372036854775808 ≤ D.writes + 1 by omega) (show D.writes + 1 ≤ 9223372036854775807 by omega), e3, ↓reduceIte, Nat.reduceEqDiff, Nat.reduceAdd, splice, wA, wB, wC, wD]
end
section
variable {m : M} {d cb : Nat} {D : Dv}
theorem dfits (h : DvAt m d cb D) {k : Nat} (hk : k < D.L.length) {s : AV} {t : Bs} {b : Nat} (hs : BsAt m s t b) (h64 : t.length = 64) : Ran Tryz.prog tb fn_c4 [.ptr d 0, iv k, s] m (iv 0) m := by
  refine WpF.go at_c4 ?_
  simp -implicitDefEqProofs only [o_c4, r_c4_0, r_c4_1, r_c4_3, r_c4_5, r_c4_7, b_np24, (dat h hk).eq, b_np77, hs.len, h64, h.dev.rd, show (((64 : Nat) : Int) = 64) = True from eq_true (by omega), ↓reduceIte, Nat.reduceEqDiff, Nat.reduceAdd, wA, wB, wC, wD]
structure Cw.Push (m0 : Nat) (c c' : Cw) (t : Bs) : Prop where
  av : c'.av = c.av
  al : c'.al = c.al
  ab : c'.ab = c.ab
  wl : ∃ s b, c'.wl = c.wl ++ [(s, t, b)] ∧ m0 ≤ b
  wb : c'.wb = c.wb ∨ ∃ b, c'.wb = some b ∧ m0 ≤ b
theorem DvAt.setc {m' : M} (h : DvAt m d cb D) (hw : Wf m) {k : Nat} {c c' : Cw} (hk : D.L[k]? = some c) (kk : Keep m m' fun b => b = cb ∨ c.wb = some b) (hr : At m' cb ty_device_cell true (dflat (D.L.set k c'))) (hc : ClAt m' c') (hb : ∀ b, c'.wb = some b → c.wb = some b ∨ m.next ≤ b) : DvAt m' d cb { D with L := D.L.set k c' } := by
  have hcm := h.ok c (List.mem_of_getElem? hk)
  refine ⟨?_, hr, fun x hx => ?_, fun i j c1 c2 b h1 h2 h3 h4 => ?_⟩
  · rw [show (D.L.set k c').length = D.L.length from List.length_set]
    refine h.dev.keep hw kk fun hx => ?_
    rcases hx with e | e
    · exact (h.dev.ty h.row (by decide)) e
    · exact (h.nd (List.mem_of_getElem? hk) e).1 rfl
  · obtain ⟨i, hi, hxi⟩ := List.mem_iff_getElem.1 hx
    have hxi' : (D.L.set k c')[i]? = some x := List.getElem?_eq_some_iff.2 ⟨hi, hxi⟩
    rw [List.getElem?_set] at hxi'
    by_cases hik : k = i
    · rw [if_pos hik, if_pos (List.getElem?_eq_some_iff.1 hk).1] at hxi'
      cases hxi'
      exact hc
    · rw [if_neg hik] at hxi'
      refine (h.ok x (List.mem_of_getElem? hxi')).keep hw kk (fun b hb e => ?_) fun b hb e => ?_
      · rcases e with e | e
        · subst e; exact absurd (hb.inj h.row.kd) (by decide)
        · have := hcm.sl
          rw [e] at this
          exact absurd (this.kd.inj hb) (by decide)
      · rcases e with e | e
        · exact (h.nd (List.mem_of_getElem? hxi') hb).2 e
        · exact hik (h.wd _ _ _ _ b hk hxi' e hb)
  · have key : ∀ i c1, (D.L.set k c')[i]? = some c1 → c1.wb = some b → (i = k ∧ c1 = c') ∨ (i ≠ k ∧ D.L[i]? = some c1 ∧ b < m.next) := by
      intro i c1 h1 h3
      rw [List.getElem?_set] at h1
      by_cases hik : k = i
      · rw [if_pos hik, if_pos (List.getElem?_eq_some_iff.1 hk).1] at h1
        cases h1
        exact .inl ⟨hik.symm, rfl⟩
      · rw [if_neg hik] at h1
        refine .inr ⟨fun e => hik e.symm, h1, ?_⟩
        have := (h.ok c1 (List.mem_of_getElem? h1)).sl
        rw [h3] at this
        exact this.blk_lt hw rfl
    rcases key i c1 h1 h3 with ⟨rfl, rfl⟩ | ⟨g1, g2, g3⟩ <;> rcases key j c2 h2 h4 with ⟨g4, rfl⟩ | ⟨g4, g5, g6⟩
    · exact g4.symm
    · rcases hb b h3 with e | e
      · exact absurd (h.wd _ _ _ _ b hk g5 e h4).symm g4
      · omega
    · rcases hb b h4 with e | e
      · exact absurd (h.wd _ _ _ _ b hk g2 e h3).symm g1
      · omega
    · exact h.wd _ _ _ _ b g2 g5 h3 h4
theorem DvAt.setK (h : DvAt m d cb D) {k : Nat} {c : Cw} (hk : D.L[k]? = some c) {b : Nat} (e : b = cb ∨ c.wb = some b) : Kinds m devK [] b := by
  rcases e with e | e
  · subst e; exact .inl ⟨_, by simp, h.row.kd⟩
  · have := (h.ok c (List.mem_of_getElem? hk)).sl
    rw [e] at this
    exact .inl ⟨_, by simp, this.kd⟩
theorem dwrite_dead (hw : Wf m) (h : DvAt m d cb D) (hd : D.dies = true) {k : Nat} (hk : k < D.L.length) {s : AV} {t : Bs} {b : Nat} (hs : BsAt m s t b) (h64 : t.length = 64) : ∃ m', DvAt m' d cb { D with dead := true } ∧ KeepK m m' devK ∧ Ran Tryz.prog tb fn_c0 [.ptr d 0, iv k, s] m (iv 7) m' := by
  obtain ⟨m1, h1, k1, r1⟩ := burn_dead hw h hd
  refine ⟨m1, h1, k1, ?_⟩
  refine WpF.go at_c0 ?_
  simp -implicitDefEqProofs only [o_c0, r_c0_0, r_c0_1, r_c0_2, r_c0_4, r_c0_5, r_c0_6, (dfits h hk hs h64).eq, r1.eq, show ((7 : Int) = 0) = False from eq_false (by omega), ↓reduceIte, Nat.reduceEqDiff, Nat.reduceAdd, wA, wB, wC, wD]
set_option maxHeartbeats 2000000 in
theorem dwrite_ok (hw : Wf m) (h : DvAt m d cb D) (hd : D.dies = false) (hf : -1000000000 ≤ D.fuse) (hf2 : D.fuse ≤ 9223372036854775807) (hx1 : 0 ≤ D.writes) (hx2 : D.writes ≤ 1000000000)
    {k : Nat} {c : Cw} (hk : D.L[k]? = some c) (hl : c.wl.length < 400) {s : AV} {t : Bs} {b : Nat} (hs : Bu m s t b) (h64 : t.length = 64) :
    ∃ m' c', c.Push m.next c' t ∧ DvAt m' d cb { D with L := D.L.set k c', fuse := D.fuse - 1, writes := D.writes + 1 } ∧ KeepK m m' devK ∧ Ran Tryz.prog tb fn_c0 [.ptr d 0, iv k, s] m (iv 0) m' := by
  have hlt := (List.getElem?_eq_some_iff.1 hk).1
  obtain ⟨m1, h1, k1, r1⟩ := burn_ok hw h hd hf hf2 hx1 hx2
  have hw1 := k1.wf
  have hs1 := hs.kp hw k1
  obtain ⟨m2, s2, b2, hb2, k2, n2, r2⟩ := clone_ran hw1 hs1.bs (fun e => by rw [e] at h64; cases h64) (by omega)
  have hw2 := k2.wf
  have h2 := h1.k0 hw1 k2
  obtain ⟨m3, e3, ha3, k3, n3⟩ := addL_at hw2 ty_suint8 1 [s2]
  have hw3 := k3.wf
  have h3 := h2.k0 hw2 k3
  have hy : Rds m3 (.slice m2.next 0 1 1 false) 1 1 [s2] := (SlAt.row (xt := true) (junk := []) (cells := [s2]) (len := 1) (cap := 1) ha3 rfl rfl (Nat.le_refl _) (by omega)).src
  have hc3 := h3.ok c (List.mem_of_getElem? hk)
  obtain ⟨x4, m4, o4, e4, hs4, k4, ho4⟩ := hc3.sl.append (bytes := 24) (z := [nils]) hw3 hy (room_of (by omega) (by omega))
  have hw4 := k4.wf
  have hr4 : At m4 cb ty_device_cell true (dflat D.L) := h3.row.keep hw3 k4 fun e => (h3.nd (List.mem_of_getElem? hk) e).2 rfl
  have hlen : k * 2 + 1 + [x4].length ≤ (dflat D.L).length := by rw [dflat_len]; simp; omega
  obtain ⟨m5, e5, hr5, k5, n5⟩ := hr4.st hw4 (k * 2 + 1) [x4] rfl hlen
  have hset := dflat_set1 (c' := ⟨c.av, c.al, c.ab, x4, c.wl ++ [(s2, t, b2)], o4⟩) hk rfl
  have hb3 := hb2.keep hw2 k3 fun h => h
  have k35 : Keep m3 m5 fun b => b = cb ∨ c.wb = some b := (k4.mono fun _ _ h => .inr h).trans k5 fun _ _ h => .inl h
  have hU : ∀ b, kd m3 b (ty_uint8 + 1) → ¬ (b = cb ∨ c.wb = some b) := fun b hb e => by
    rcases e with e | e
    · subst e; exact absurd (hb.inj h3.row.kd) (by decide)
    · have := hc3.sl
      rw [e] at this
      exact absurd (this.kd.inj hb) (by decide)
  have hn3 : m.next ≤ m3.next := by have := k1.next; have := k2.next; omega
  have hlt4 := h3.row.lt hw3
  refine ⟨m5, ⟨c.av, c.al, c.ab, x4, c.wl ++ [(s2, t, b2)], o4⟩, ⟨rfl, rfl, rfl, ⟨_, _, rfl, by have := k1.next; omega⟩, ?_⟩, ?_, ?_, ?_⟩
  · rcases ho4 with e | ⟨b, e, hb, _⟩
    · exact .inl e
    · exact .inr ⟨b, e, by omega⟩
  · refine DvAt.setc (D := { D with fuse := D.fuse - 1, writes := D.writes + 1 }) h3 hw3 hk k35 (hset ▸ hr5) ⟨hc3.ar.keep hw3 k35 (hU _ hc3.ar.kd), ?_, fun e he => ?_⟩ fun b hb => ?_
    · have : SlAt m5 ty_suint8 1 x4 (c.wl.length + 1) (c.wl.map (·.1) ++ [s2]) o4 := hs4.keep hw4 k5 fun b hb e => by
        subst e
        rcases ho4 with e | ⟨b', e, hb', _⟩
        · exact (h3.nd (List.mem_of_getElem? hk) (e ▸ hb)).2 rfl
        · rw [e] at hb
          cases hb
          omega
      simpa using this
    · rcases List.mem_append.1 he with he | he
      · exact (hc3.ws e he).keep hw3 k35 (hU _ (hc3.ws e he).kd)
      · cases List.mem_singleton.1 he
        exact hb3.keep hw3 k35 (hU _ hb3.kd)
    · rcases ho4 with e | ⟨b', e, hb', _⟩
      · exact .inl (e ▸ hb)
      · have hb : o4 = some b := hb
        rw [e] at hb
        cases hb
        exact .inr (by omega)
  · have k13 : KeepK m m3 devK := (k1.tf k2).tf k3
    exact k13.trans k35 fun b hb e => .back k13 hb (fun _ h => h) (fun _ h => h) (h3.setK hk e)
  · have hz : ¬ ((c.wl.length : Int) = 400) := by omega
    have q1 := (h1.cell hk).2
    have q2 := (h2.cell hk).2
    have q3 := (h3.cell hk).2
    have q4 : m4.rd cb (k * 2 + 1) = some c.wv := by rw [hr4.rd]; exact (dflat_get D.L k c hk).2
    refine WpF.go at_c0 ?_
    simp -implicitDefEqProofs only [o_c0, r_c0_0, r_c0_1, r_c0_2, r_c0_4, r_c0_5, r_c0_7, r_c0_8, r_c0_11, r_c0_12, (dfits h hlt hs.bs h64).eq, r1.eq, (dat h1 hlt).eq, q1, q2, q3, (h1.ok c (List.mem_of_getElem? hk)).sl.len, eq_false hz, r2.eq, hb2.bs.cells1, e3, e4, hs4.cells1, e5, hc3.sl.aq, ↓reduceIte, Nat.reduceEqDiff, Nat.reduceAdd, Nat.reduceLeDiff, exists_eq_left', wA, wB, wC, wD]
end
def Cw.arr (c : Cw) (j : Nat) : AV × Bs × Nat := if j = 0 then (c.av, c.al, c.ab) else c.wl[j - 1]?.getD (c.av, c.al, c.ab)
def Cw.settle (c : Cw) (j : Nat) : Cw := ⟨(c.arr j).1, (c.arr j).2.1, (c.arr j).2.2, nils, [], none⟩
section
variable {m : M} {d cb : Nat} {D : Dv}
theorem ClAt.arr {c : Cw} (h : ClAt m c) (j : Nat) : BtU m (c.arr j).1 (c.arr j).2.1 (c.arr j).2.2 := by
  unfold Cw.arr
  split
  · exact h.ar
  · cases hg : c.wl[j - 1]? with
    | none => exact h.ar
    | some e => exact h.ws e (List.mem_of_getElem? hg)
theorem settle_ran (hw : Wf m) (h : DvAt m d cb D) {k : Nat} {c : Cw} (hk : D.L[k]? = some c) {j : Nat} (hj : j ≤ c.wl.length) (hl : c.wl.length ≤ 1000000) :
    ∃ m', DvAt m' d cb { D with L := D.L.set k (c.settle j) } ∧ KeepK m m' [ty_device_cell + 1] ∧ Ran Tryz.prog tb fn_a3 [.ptr cb (k * 2), iv (j : Nat)] m (.tuple []) m' := by
  have hlt := (List.getElem?_eq_some_iff.1 hk).1
  have hc := h.ok c (List.mem_of_getElem? hk)
  obtain ⟨q0, q1⟩ := h.cell hk
  have hl0 : k * 2 + [(c.arr j).1].length ≤ (dflat D.L).length := by rw [dflat_len]; simp; omega
  obtain ⟨m1, e1, hr1, k1, n1⟩ := h.row.st hw (k * 2) [(c.arr j).1] rfl hl0
  let c1 : Cw := ⟨(c.arr j).1, c.al, c.ab, c.wv, c.wl, c.wb⟩
  have hs0 := dflat_set0 (c' := c1) hk rfl
  have hk1 : (D.L.set k c1)[k]? = some c1 := by rw [List.getElem?_set, if_pos rfl, if_pos hlt]
  have hr1' : At m1 cb ty_device_cell true (dflat (D.L.set k c1)) := hs0 ▸ hr1
  have hl1 : k * 2 + 1 + [nils].length ≤ (dflat (D.L.set k c1)).length := by rw [dflat_len, List.length_set]; simp; omega
  obtain ⟨m2, e2, hr2, k2, n2⟩ := hr1'.st k1.wf (k * 2 + 1) [nils] rfl hl1
  have hs1 := dflat_set1 (c' := c.settle j) hk1 rfl
  have hr2' : At m2 cb ty_device_cell true (dflat (D.L.set k (c.settle j))) := by
    have := hs1 ▸ hr2
    rwa [List.set_set] at this
  have kk : Keep m m2 fun b => b = cb := k1.trans k2 fun _ _ h => h
  have hU : ∀ b, kd m b (ty_uint8 + 1) → ¬ b = cb := fun b hb e => by subst e; exact absurd (hb.inj h.row.kd) (by decide)
  have ha := hc.arr j
  by_cases hj0 : j = 0
  · have hav : (c.arr j).1 = c.av := by unfold Cw.arr; rw [if_pos hj0]
    obtain ⟨m3, e3, hr3, k3, n3⟩ := h.row.st hw (k * 2 + 1) [nils] rfl (by rw [dflat_len]; simp; omega)
    have hs3 := dflat_set1 (c' := c.settle j) hk hav
    refine ⟨m3, h.setc hw hk (k3.mono fun _ _ h => .inl h) (hs3 ▸ hr3) ⟨ha.keep hw k3 (hU _ ha.kd), .nil, fun _ h => nomatch h⟩ (fun b hb => nomatch hb), k3.k1 h.row.kd, ?_⟩
    refine WpF.go at_a3 ?_
    simp -implicitDefEqProofs only [o_a3, r_a3_0, r_a3_2, hj0, e3, ↓reduceIte, Nat.reduceEqDiff, Nat.reduceAdd, wA, wB, wC, wD]
  · refine ⟨m2, h.setc hw hk (kk.mono fun _ _ h => .inl h) hr2' ⟨ha.keep hw kk (hU _ ha.kd), .nil, fun _ h => nomatch h⟩ (fun b hb => nomatch hb), kk.k1 h.row.kd, ?_⟩
    obtain ⟨b, cap, hx, _, hr⟩ := elem1 hc.sl (k := j - 1) (by omega)
    have hA : (j : Int) - 1 = ((j - 1 : Nat) : Int) := by omega
    have harr : m.rd b (j - 1) = some (c.arr j).1 := by
      rw [hr, List.getElem?_map]
      unfold Cw.arr
      rw [if_neg hj0]
      have : c.wl[j - 1]? = some c.wl[j - 1] := List.getElem?_eq_getElem (by omega)
      rw [this]; rfl
    rw [hx] at q1
    refine WpF.go at_a3 ?_
    simp -implicitDefEqProofs only [o_a3, r_a3_0, r_a3_1, r_a3_2, show ((0 : Int) < (j : Int)) = True from eq_true (by omega), q1, b_sub ty_int (show -9223372036854775808 ≤ (j : Int) - 1 by omega) (show (j : Int) - 1 ≤ 9223372036854775807 by omega), hA, v_iaS 1 b 0 c.wl.length cap false (show j - 1 < c.wl.length by omega), Nat.mul_one, harr, ha.bs.cells1, e1, e2, ↓reduceIte, Nat.reduceEqDiff, Nat.reduceAdd, wA, wB, wC, wD]
def Cw.fl (c : Cw) : Cw := c.settle c.wl.length
theorem Cw.fl_last {c : Cw} : c.fl.last = c.last := by
  unfold Cw.fl Cw.settle Cw.last Cw.arr
  simp only [List.getLast?_eq_getElem?]
  cases hw : c.wl with
  | nil => rfl
  | cons e l => simp
set_option maxHeartbeats 1000000 in
theorem dflush_ok (hw : Wf m) (h : DvAt m d cb D) (hd : D.dies = false) (hf : -1000000000 ≤ D.fuse) (hf2 : D.fuse ≤ 9223372036854775807) (hx1 : 0 ≤ D.writes) (hx2 : D.writes ≤ 1000000000) (hL : D.L.length ≤ 1000000) (hl : ∀ c ∈ D.L, c.wl.length ≤ 1000000) {Q : AV → M → Prop}
    (hQ : ∀ m', DvAt m' d cb { D with L := D.L.map Cw.fl, fuse := D.fuse - 1, writes := D.writes + 1 } → KeepK m m' devK → Q (iv 0) m') : WpF Tryz.prog tb fn_b7 [.ptr d 0] m Q := by
  obtain ⟨m1, h1, k1, r1⟩ := burn_ok hw h hd hf hf2 hx1 hx2
  have hw1 := k1.wf
  refine WpF.go at_b7 ?_
  simp -implicitDefEqProofs only [o_b7, r_b7_0, r_b7_1, r_b7_3, r_b7_4, r_b7_6, b_np24, r1.eq, h1.dev.rd, ↓reduceIte, Nat.reduceEqDiff, wA, wB, wC, wD]
  refine GX_loop (fun j fr mk => ∃ k L', k ≤ D.L.length ∧ j = D.L.length - k ∧ (ev (tm 0) fr = .ptr d 0 ∧ ev (tm 16) fr = iv (D.L.length : Nat) ∧ ev (tm 17) fr = iv (k : Nat)) ∧ L'.length = D.L.length ∧ (∀ i, L'[i]? = (D.L[i]?).map fun c => if i < k then c.fl else c) ∧ DvAt mk d cb { D with L := L', fuse := D.fuse - 1, writes := D.writes + 1 } ∧ KeepK m1 mk devK) (k := D.L.length) ?_ ?_
  · refine ⟨0, D.L, Nat.zero_le _, rfl, by simp -implicitDefEqProofs only [ev_tm, ↓reduceIte, Nat.reduceEqDiff, nc0, and_self], rfl, fun i => ?_, h1, Keep.refl hw1 _⟩
    cases D.L[i]? <;> simp
  rintro j fr mk ⟨k, L', hk, rfl, ⟨e0, e16, e17⟩, hlen, hL', hdk, kk⟩
  have hwk := kk.wf
  by_cases hlt : k < D.L.length
  · have hck : D.L[k]? = some D.L[k] := List.getElem?_eq_getElem hlt
    generalize D.L[k] = c at hck
    have hck' : L'[k]? = some c := by rw [hL', hck]; simp
    have hcl := hl c (List.mem_of_getElem? hck)
    obtain ⟨m2, h2, k2, r2⟩ := settle_ran hwk hdk hck' (Nat.le_refl _) hcl
    have q1 := (hdk.cell hck').2
    have hsl := (hdk.ok c (List.mem_of_getElem? hck')).sl
    simp -implicitDefEqProofs only [o_b7, r_b7_7, r_b7_8, r_b7_9, r_b7_10, e0, e16, e17, show ((k : Int) < (D.L.length : Int)) = True from eq_true (by omega), hdk.dev.rd, v_iaS 2 cb 0 L'.length L'.length false (show k < L'.length by omega), q1, hsl.len, hsl.aq, r2.eq, b_add ty_int (show -9223372036854775808 ≤ (k : Int) + 1 by omega) (show (k : Int) + 1 ≤ 9223372036854775807 by omega), ↓reduceIte, Nat.reduceEqDiff, exists_eq_left', wA, wB, wC, wD]
    refine LK_n (k' := D.L.length - (k + 1)) (by omega) ⟨k + 1, L'.set k c.fl, by omega, rfl, by simp -implicitDefEqProofs only [e0, e16, show (k : Int) + 1 = ((k + 1 : Nat) : Int) from rfl, ev_tm, ↓reduceIte, Nat.reduceEqDiff, and_self], by rw [List.length_set]; exact hlen, fun i => ?_, h2, kk.tk k2⟩
    rw [List.getElem?_set]
    by_cases hik : k = i
    · subst hik
      rw [if_pos rfl, if_pos (by omega), hck]; simp
    · rw [if_neg hik, hL']
      congr 1
      funext x
      by_cases h3 : i < k
      · rw [if_pos h3, if_pos (by omega)]
      · rw [if_neg h3, if_neg (by omega)]
  · have hke : k = D.L.length := by omega
    subst hke
    simp -implicitDefEqProofs only [o_b7, r_b7_7, r_b7_11, e16, e17, show ((D.L.length : Int) < (D.L.length : Int)) = False from eq_false (by omega), ↓reduceIte, wA, wB, wC, wD]
    have : L' = D.L.map Cw.fl := List.ext_getElem? fun i => by
      rw [hL', List.getElem?_map]
      cases hi : D.L[i]? with
      | none => rfl
      | some c => simp [(List.getElem?_eq_some_iff.1 hi).1]
    subst this
    exact hQ mk hdk (k1.tk kk)
end
section
variable {m : M} {d cb : Nat} {D : Dv}
end
end Go.Proofs.YthbfinjddaembaaGreat
