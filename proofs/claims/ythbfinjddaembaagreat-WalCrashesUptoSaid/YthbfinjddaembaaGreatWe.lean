import Derived.Test.YthbfinjddaembaaGreatDy
set_option linter.unusedVariables false
set_option linter.unusedSimpArgs false
/- Lines that take other values; bytes compared. -/
namespace Go.Proofs.YthbfinjddaembaaGreat
open Go Go.Am
section
variable {m : M}
theorem cells_y (n : Nat) : cellsO (.y n) = some [.y n] := rfl
theorem rep_flat (n : Nat) (a : AV) : (List.replicate n [a]).flatten = List.replicate n a := by
  induction n with
  | zero => rfl
  | succ n ih => rw [List.replicate_succ, List.flatten_cons, ih]; rfl
theorem ycells_rep (n : Nat) (x : UInt8) : ycells (List.replicate n x) = List.replicate n (.y x.toNat) := by
  unfold ycells
  rw [List.map_replicate]
end
end Go.Proofs.YthbfinjddaembaaGreat
/- Numbers as bytes: shifts, bytes of numbers, field.Put. -/
namespace Go.Am
open Go Go.RowKit
section
variable {P : Program} {m : M} {fr : Fr}
theorem o_slow (sl : AV → AV → Option AV) (x y : RO) : run (.slow sl x y) fr m = rto m (sl (ev x fr) (ev y fr)) := rfl
theorem o_convI (k : IntKind) (x : RO) (fr : Fr) (m : M) : run (.convI k x) fr m = rConvI k (.cst (ev x fr)) .leaf m := rfl
theorem v_convI (k : IntKind) (i : Int) (m : M) : rConvI k (.cst (iv i)) .leaf m = some (ofI k (k.wrap i), m) := by
  show (ob (toI (iv i)) fun q => some (ofI k (k.wrap q.2), m)) = _
  rw [toI_iv]; rfl
theorem v_u8 (n : Nat) : ofI .u8 (IntKind.u8.wrap (n : Int)) = .y (n % 256) := by
  rw [IntKind.wrap_u8]; rfl
theorem b_mulI (t : TypeId) {a b : Int} (h1 : -9223372036854775808 ≤ a * b) (h2 : a * b ≤ 9223372036854775807) : binS P .mul t (iv a) (iv b) = some (iv (a * b)) := by
  rw [binS_iv]
  show some (iv (IntKind.i64.wrap (a * b))) = _
  rw [IntWalk.i64_in _ ⟨h1, h2⟩]
theorem b_shr (t : TypeId) {a k : Nat} (hk : k ≤ 64) : binS P .shr t (iv (a : Int)) (iv (k : Int)) = some (iv ((a / 2 ^ k : Nat) : Int)) := by
  rw [binS_iv]
  show (if (k : Int) < 0 then none else some (ofI .i64 ((a : Int).fdiv (2 ^ min (k : Int).toNat 64)))) = _
  rw [if_neg (by omega), Int.toNat_natCast, Nat.min_eq_left hk]
  show some (iv ((a : Int).fdiv (2 ^ k))) = _
  rw [Int.fdiv_eq_ediv_of_nonneg _ (by exact Int.pow_nonneg (by omega))]
  congr 2
theorem o_slh (sz : Nat) (x l h : RO) : run (.sl sz false x (some l) (some h) none) fr m = rSl sz false (.cst (ev x fr)) (some (.cst (ev l fr))) (some (.cst (ev h fr))) none .leaf m := rfl
theorem v_sub (sz b off len cap : Nat) (lim : Bool) {lo hi : Nat} (h1 : lo < hi) (h2 : hi ≤ cap) :
    rSl sz false (.cst (.slice b off len cap lim)) (some (.cst (iv (lo : Int)))) (some (.cst (iv (hi : Int)))) none .leaf m = some (.slice b (off + lo * sz) (hi - lo) (cap - lo) lim, m) := by
  rw [rSl_eq, evo_some, evo_some, ev_cst, ev_cst, bnd_iv h2, ob_some', bnd_iv (show lo ≤ hi by omega), ob_some', nble, decide_eq_true h2]
  simp only [bc_true, fc_eq, nbeq]
  rw [decide_eq_false (show ¬ cap = lo by omega)]
  show some (AV.slice b (off + lo * sz) (hi - lo) (cap - lo) (lim || false), m) = _
  rw [Bool.or_false]
theorem v_mkE {e : Nat} {n : Nat} {z : AV} (h : n ≤ 1000000) : rMkSl e 1 1 [z] (.cst (iv (n : Int))) (.cst (iv (n : Int))) .leaf m = some (.slice m.next 0 n n false, m.addZ e (n * 1) [z]) := by
  show bc (Nat.ble n n && (Nat.ble n 1099511627776 && Nat.ble (n * 1) 1099511627776)) (fc (Nat.mul n 1) fun k => some (AV.slice m.next (nat_lit 0) n n false, m.new (.cells ⟨e, k, .leaf, [z], none, false, true, false⟩))) none = _
  rw [nble, nble, nble, decide_eq_true (by omega), decide_eq_true (by omega), decide_eq_true (by omega)]
  rw [show (true && (true && true)) = true from rfl, bc_true, fc_eq]
  rfl
def le (w v : Nat) : List UInt8 := (List.range w).map fun i => UInt8.ofNat (v / 2 ^ (8 * i))
theorem le_len (w v : Nat) : (le w v).length = w := by simp [le]
theorem ycells_le (w v : Nat) : ycells (le w v) = (List.range w).map fun i => AV.y (v / 2 ^ (8 * i) % 256) := by
  unfold ycells le
  rw [List.map_map]
  refine List.map_congr_left fun i _ => ?_
  show AV.y (UInt8.ofNat (v / 2 ^ (8 * i))).toNat = _
  rw [UInt8.toNat_ofNat']
theorem splice_le {v w k : Nat} {l junk : List AV} (hl : l.length = w) (hk : k < w) :
    splice ((List.range k).map (fun i => AV.y (v / 2 ^ (8 * i) % 256)) ++ (l.drop k ++ junk)) k [AV.y (v / 2 ^ (8 * k) % 256)] = (List.range (k + 1)).map (fun i => AV.y (v / 2 ^ (8 * i) % 256)) ++ (l.drop (k + 1) ++ junk) := by
  unfold splice
  have h1 : ((List.range k).map (fun i => AV.y (v / 2 ^ (8 * i) % 256))).length = k := by simp
  rw [List.take_append_of_le_length (by rw [h1]; exact Nat.le_refl _), List.take_of_length_le (by rw [h1]; exact Nat.le_refl _), show [AV.y (v / 2 ^ (8 * k) % 256)].length = 1 from rfl, List.drop_append, List.drop_of_length_le (by rw [h1]; omega), List.nil_append, h1, show k + 1 - k = 1 by omega, List.drop_append, List.drop_drop, List.range_succ, List.map_append]
  have h2 : 1 - (l.drop k).length = 0 := by rw [List.length_drop]; omega
  rw [h2, List.drop_zero]
  simp
end
end Go.Am
namespace Go.Proofs.YthbfinjddaembaaGreat
open Go Go.Am
section
variable {m : M}
theorem part_ran {b off len cap : Nat} {lim : Bool} {at' n : Nat} (h0 : 0 < n) (h : at' + n ≤ len) (hl : len ≤ cap) (hc : len ≤ 1000000000000) : Ran Tryz.prog tb fn_f3 [.slice b off len cap lim, iv at', iv n] m (.tuple [.slice b (off + at') n (cap - at') lim, .b true]) m := by
  refine WpF.go at_f3 ?_
  have hC : (at' : Int) + (n : Int) = ((at' + n : Nat) : Int) := by omega
  have hD : at' + n - at' = n := by omega
  simp -implicitDefEqProofs only [o_f3, r_f3_0, r_f3_1, r_f3_3, show ((at' : Int) < 0) = False from eq_false (by omega), show ((n : Int) < 0) = False from eq_false (by omega), show ((len : Int) < (at' : Int)) = False from eq_false (by omega), b_sub ty_int (show -9223372036854775808 ≤ (len : Int) - (at' : Int) by omega) (show (len : Int) - (at' : Int) ≤ 9223372036854775807 by omega), show (((len : Int) - (at' : Int)) < (n : Int)) = False from eq_false (by omega), b_add ty_int (show -9223372036854775808 ≤ (at' : Int) + (n : Int) by omega) (show (at' : Int) + (n : Int) ≤ 9223372036854775807 by omega), hC, o_slh, v_sub 1 b off len cap lim (show at' < at' + n by omega) (show at' + n ≤ cap by omega), hD, Nat.mul_one, ↓reduceIte, Nat.reduceEqDiff, Nat.reduceAdd, wA, wB, wC, wD]
theorem number_ran {b off len cap : Nat} {lim : Bool} {at' n : Nat} (hn : n = 1 ∨ n = 2 ∨ n = 4) (h : at' + n ≤ len) (hl : len ≤ cap) (hc : len ≤ 1000000000000) : Ran Tryz.prog tb fn_f2 [.slice b off len cap lim, iv at', iv n] m (.tuple [.slice b (off + at') n (cap - at') lim, iv 0]) m := by
  have hp := part_ran (m := m) (b := b) (off := off) (lim := lim) (show 0 < n by omega) h hl hc
  refine WpF.go at_f2 ?_
  rcases hn with rfl | rfl | rfl
  · have e1 : ((1 : Nat) : Int) = 1 := rfl
    rw [e1] at hp
    simp -implicitDefEqProofs only [o_f2, r_f2_0, r_f2_1, r_f2_2, r_f2_5, r_f2_6, r_f2_8, e1, hp.eq, ↓reduceIte, Nat.reduceEqDiff, Nat.reduceAdd, wA, wB, wC, wD]
  · have e1 : ((2 : Nat) : Int) = 2 := rfl
    rw [e1] at hp
    simp -implicitDefEqProofs only [o_f2, r_f2_0, r_f2_1, r_f2_2, r_f2_3, r_f2_5, r_f2_6, r_f2_8, e1, hp.eq, show ((2 : Int) = 1) = False from eq_false (by omega), ↓reduceIte, Nat.reduceEqDiff, Nat.reduceAdd, wA, wB, wC, wD]
  · have e1 : ((4 : Nat) : Int) = 4 := rfl
    rw [e1] at hp
    simp -implicitDefEqProofs only [o_f2, r_f2_0, r_f2_1, r_f2_2, r_f2_3, r_f2_4, r_f2_5, r_f2_6, r_f2_8, e1, hp.eq, show ((4 : Int) = 1) = False from eq_false (by omega), show ((4 : Int) = 2) = False from eq_false (by omega), ↓reduceIte, Nat.reduceEqDiff, Nat.reduceAdd, wA, wB, wC, wD]
end
section
variable {m : M}
set_option maxRecDepth 20000 in
theorem put_ran {b cap : Nat} {l : Bs} {w v : Nat} (hw : Wf m) (h : BsAt m (.slice b 0 w cap false) l b) (hc : w ≤ cap) (hlw : l.length = w) (hn : w = 1 ∨ w = 2 ∨ w = 4) (hv : v < 2 ^ (8 * w)) :
    ∃ m' s' b', SlAt m' ty_uint8 1 s' w (ycells (le w v)) (some b') ∧ Keep m m' (fun _ => False) ∧ m.next ≤ b' ∧ Ran Tryz.prog tb fn_f1 [.slice b 0 w cap false, iv 0, iv w, iv v] m (.tuple [s', iv 0]) m' := by
  obtain ⟨m1, s1, b1, hbt, hs1, k1, hb1, rc⟩ := clone_ran2 hw h (fun e => by rw [e] at hlw; simp at hlw; omega) (by omega)
  rw [hlw] at hs1
  have hys : (ycells l).length = w := by simp [ycells, hlw]
  generalize ycells l = ys at hs1 hys
  cases hs1 with
  | @row b1 _ c1 cells junk xt ha hl hj hc1 h0 =>
  have hnum := number_ran (m := m) (b := b) (off := 0) (cap := cap) (lim := false) (at' := 0) hn (by omega) hc (by omega)
  rw [nc0] at hnum
  have h8 : v / 2 ^ (8 * w) = 0 := Nat.div_eq_of_lt hv
  have hC : ((8 : Int) * (w : Int)) = ((8 * w : Nat) : Int) := by omega
  have hv64 : (v : Int) ≤ 9223372036854775807 := by
    rcases hn with rfl | rfl | rfl <;> omega
  have key : WpF Tryz.prog tb fn_f1 [.slice b 0 w cap false, iv 0, iv w, iv v] m fun x m' => x = .tuple [.slice b1 0 w c1 false, iv 0] ∧ At m' b1 ty_uint8 xt (ycells (le w v) ++ junk) ∧ Keep m m' (fun _ => False) := by
    refine WpF.go at_f1 ?_
    simp -implicitDefEqProofs only [o_f1, r_f1_0, r_f1_1, r_f1_2, r_f1_4, r_f1_6, r_f1_7, hnum.eq, show ((v : Int) < 0) = False from eq_false (by omega), b_mulI ty_int (show -9223372036854775808 ≤ (8 : Int) * (w : Int) by omega) (show (8 : Int) * (w : Int) ≤ 9223372036854775807 by omega), hC, o_slow, b_shr ty_int (a := v) (show 8 * w ≤ 64 by omega), h8, rc.eq, ↓reduceIte, Nat.reduceEqDiff, Nat.reduceAdd, wA, wB, wC, wD]
    refine GX_loop (fun j fr mk => ∃ k, k ≤ w ∧ j = w - k ∧ (ev (tm 1) fr = iv 0 ∧ ev (tm 3) fr = iv v ∧ ev (tm 12) fr = .slice b1 0 w c1 false ∧ ev (tm 35) fr = iv w ∧ ev (tm 36) fr = iv k) ∧ At mk b1 ty_uint8 xt ((List.range k).map (fun i => AV.y (v / 2 ^ (8 * i) % 256)) ++ (ys.drop k ++ junk)) ∧ Keep m mk (fun _ => False)) (k := w) ⟨0, Nat.zero_le _, rfl, by simp -implicitDefEqProofs only [nc0, ev_tm, ↓reduceIte, Nat.reduceEqDiff, nc0, and_self], by simpa using ha, k1⟩ ?_
    rintro j fr mk ⟨k, hk, rfl, ⟨e1, e3, e12, e35, e36⟩, hak, kk⟩
    by_cases hlt : k < w
    · obtain ⟨m3, e6, ha3, k3, n3⟩ := hak.st kk.wf k [.y (v / 2 ^ (8 * k) % 256)] (splice_le (w := w) (by rw [hl, Nat.mul_one]) hlt) (by simp; omega)
      have hD : ((8 : Int) * (k : Int)) = ((8 * k : Nat) : Int) := by omega
      have hE : (0 : Int) + (k : Int) = (k : Int) := by omega
      have hF : (k : Int) + 1 = ((k + 1 : Nat) : Int) := by omega
      simp -implicitDefEqProofs only [o_f1, r_f1_8, r_f1_9, r_f1_10, r_f1_11, e1, e3, e12, e35, e36, show ((k : Int) < (w : Int)) = True from eq_true (by omega), b_add ty_int (show -9223372036854775808 ≤ (0 : Int) + (k : Int) by omega) (show (0 : Int) + (k : Int) ≤ 9223372036854775807 by omega), hE, b_mulI ty_int (show -9223372036854775808 ≤ (8 : Int) * (k : Int) by omega) (show (8 : Int) * (k : Int) ≤ 9223372036854775807 by omega), hD, o_slow, b_shr ty_int (a := v) (show 8 * k ≤ 64 by omega), o_convI, v_convI, v_u8, v_iaS 1 b1 0 w c1 false hlt, Nat.mul_one, cells_y, e6, b_add ty_int (show -9223372036854775808 ≤ (k : Int) + 1 by omega) (show (k : Int) + 1 ≤ 9223372036854775807 by omega), ↓reduceIte, Nat.reduceEqDiff, wA, wB, wC, wD]
      exact LK_n (k' := w - (k + 1)) (by omega) ⟨k + 1, by omega, rfl, by simp -implicitDefEqProofs only [e1, e3, e12, e35, hF, ev_tm, ↓reduceIte, Nat.reduceEqDiff, and_self], ha3, kk.trans k3 fun x hx e => by omega⟩
    · have hkw : k = w := by omega
      subst hkw
      simp -implicitDefEqProofs only [o_f1, r_f1_8, r_f1_12, e12, e35, e36, ↓reduceIte, Nat.reduceEqDiff, wA, wB, wC, wD]
      refine ⟨?_, kk⟩
      rw [ycells_le]
      rwa [List.drop_of_length_le (by rw [hl, Nat.mul_one]; exact Nat.le_refl _), List.nil_append] at hak
  obtain ⟨v', m', ⟨rfl, ha', kf⟩, r⟩ := key.ran
  exact ⟨m', _, b1, .row ha' (by simp [ycells, le_len]) hj hc1 h0, kf, hb1, r⟩
end
end Go.Proofs.YthbfinjddaembaaGreat
/- The writer of package codec. -/
namespace Go.Am
open Go Go.RowKit
section
variable {P : Program} {m : M} {fr : Fr}
theorem o_appz (e sz b : Nat) (z : List AV) (s x : RO) : run (.appz e sz b z s x) fr m = rAppZ e sz b z (.cst (ev s fr)) (.cst (ev x fr)) .leaf m := rfl
theorem SlAt.cl {e sz : Nat} {x : AV} {len : Nat} {cells : List AV} {o : Option Nat} (h : SlAt m e sz x len cells o) : cellsO x = some [x] := by cases h <;> rfl
theorem repl_reps (z : AV) : ∀ n, repl n [z] = List.replicate n z
  | 0 => rfl
  | n + 1 => by rw [List.replicate_succ, ← repl_reps z n]; rfl
theorem SlAt.appz {e bytes : Nat} {s : AV} {len : Nat} {cells : List AV} {o : Option Nat} (hs : SlAt m e 1 s len cells o) (hw : Wf m) {k : Nat} (hb : bytes = 1) (hroom : len + k ≤ 1000000) :
    ∃ s' m' o', rAppZ e 1 bytes [.y 0] (.cst s) (.cst (iv (k : Int))) .leaf m = some (s', m') ∧ SlAt m' e 1 s' (len + k) (cells ++ List.replicate k (.y 0)) o' ∧ Keep m m' (fun b => o = some b) ∧ (o' = o ∨ ∃ b, o' = some b ∧ m.next ≤ b ∧ b < m'.next) := by
  subst hb
  have hy := src_tv m (List.replicate k (0 : UInt8))
  have e1 : ycells (List.replicate k (0 : UInt8)) = List.replicate k (.y 0) := by unfold ycells; rw [List.map_replicate]; rfl
  rw [List.length_replicate, e1] at hy
  obtain ⟨s', m', o', h1, h2, h3, h4⟩ := hs.append (bytes := 1) (z := [.y 0]) hw hy (room_of (by omega) (by omega))
  refine ⟨s', m', o', ?_, h2, h3, h4⟩
  rw [← h1]
  show bc (Nat.ble k 1099511627776 && Nat.ble (k * 1) 281474976710656) (aappend e 1 1 [.y 0] m s k (repl k [.y 0])) none = _
  rw [nble, nble, decide_eq_true (by omega), decide_eq_true (by omega), Bool.and_self, bc_true, repl_reps]
  show _ = (ob (Go.Am.lenA (tv (List.replicate k (0 : UInt8)))) fun k' => ob (firstA m 1 k' (tv (List.replicate k (0 : UInt8)))) fun new => aappend e 1 1 [.y 0] m s k' new)
  rw [hy.1, v_ob, hy.2.1, v_ob]
end
end Go.Am
namespace Go.Proofs.YthbfinjddaembaaGreat
open Go Go.Am
section
variable {m0 m : M} {c : Nat} {bs : Bs}
abbrev wrK : Nat := ty_codec_writer + 1
structure WrAt (m0 m : M) (c : Nat) (bs : Bs) : Prop where
  kp : Keep m0 m fun _ => False
  lo : m0.next ≤ c
  ex : ∃ x o, At m c ty_codec_writer true [x, iv 0] ∧ SlAt m ty_uint8 1 x bs.length (ycells bs) o ∧ ∀ b, o = some b → m0.next ≤ b
theorem WrAt.keep {m' : M} {F : Nat → Prop} (h : WrAt m0 m c bs) (k : Keep m m' F) (hF : ∀ b, F b → ¬ (m0.next ≤ b ∧ b < m.next) ∧ m0.next ≤ b) : WrAt m0 m' c bs := by
  obtain ⟨x, o, h1, h2, h3⟩ := h.ex
  refine ⟨h.kp.trans k fun b hb hf => absurd hb (by have := (hF b hf).2; omega), h.lo, x, o, h1.keep h.kp.wf k fun hf => (hF c hf).1 ⟨h.lo, h1.kd.lt h.kp.wf⟩, h2.keep h.kp.wf k fun b hb hf => (hF b hf).1 ⟨h3 b hb, h2.blk_lt h.kp.wf hb⟩, h3⟩
theorem ycells_app (a b : Bs) : ycells (a ++ b) = ycells a ++ ycells b := by simp [ycells]
set_option maxRecDepth 20000 in
theorem cwn {w v : Nat} (h : WrAt m0 m c bs) (hbs : bs.length ≤ 100000) (hn : w = 1 ∨ w = 2 ∨ w = 4) (hv : v < 2 ^ (8 * w)) :
    ∃ m', WrAt m0 m' c (bs ++ le w v) ∧ KeepK m m' [uB, wrK] ∧ Ran Tryz.prog tb fn_b0 [.ptr c 0, iv w, iv v] m (.tuple []) m' := by
  obtain ⟨x, o, h1, h2, h3⟩ := h.ex
  have hw := h.kp.wf
  have emk := v_mkE (m := m) (e := ty_uint8) (z := .y 0) (n := w) (by omega)
  have ha := At.addZr (m := m) (e := ty_uint8) (k := w * 1) (z := [.y 0]) w rfl
  rw [rep_flat] at ha
  obtain ⟨m1, e1, k1, n1⟩ : ∃ m1, m.addZ ty_uint8 (w * 1) [.y 0] = m1 ∧ Keep m m1 (fun _ => False) ∧ m1.next = m.next + 1 := ⟨_, rfl, Keep.addZ hw, M.next_addZ ..⟩
  rw [e1] at ha emk
  have hz : BsAt m1 (.slice m.next 0 w w false) (List.replicate w 0) m.next := by
    have hs : SlAt m1 ty_uint8 1 (.slice m.next 0 w w false) w (ycells (List.replicate w 0)) (some m.next) := .row (junk := []) (by rw [List.append_nil, ycells_rep]; exact ha) (by simp [ycells]) (by simp) (Nat.le_refl _) (by omega)
    have hs' : SlAt m1 ty_uint8 1 (.slice m.next 0 (List.replicate w (0 : UInt8)).length (List.replicate w (0 : UInt8)).length false) (List.replicate w (0 : UInt8)).length (ycells (List.replicate w 0)) (some m.next) := by rw [List.length_replicate]; exact hs
    have := bs_of hs'
    rwa [List.length_replicate] at this
  obtain ⟨m2, s2, b2, hs2, k2, hb2, r2⟩ := put_ran k1.wf hz (Nat.le_refl _) (by simp) hn hv
  have k12 := k1.ft k2
  have hA := h1.keep hw k12 (fun h => h)
  have hS := h2.keep hw k12 (fun _ _ h => h)
  obtain ⟨s3, m3, o3, e3, hS3, k3, ho3⟩ := hS.append (bytes := 1) (z := [.y 0]) k12.wf hs2.src (room_of (by omega) (by omega))
  have hoc : ¬ o = some c := fun e => by
    rw [e] at h2
    exact absurd (h2.kd.inj h1.kd) (by decide)
  have hA3 := hA.keep k12.wf k3 hoc
  obtain ⟨m4, e4, hA4, k4, n4⟩ := hA3.st k3.wf 0 [s3]
  have h23 : cellsO s3 = some [s3] := hS3.cl
  have hn12 := k12.next
  have hlt3 : ∀ b, o3 = some b → b ≠ c ∧ m0.next ≤ b := fun b hb => by
    refine ⟨fun e => ?_, ?_⟩
    · subst e
      rw [hb] at hS3
      exact absurd (hS3.kd.inj hA3.kd) (by decide)
    · rcases ho3 with e | ⟨b', e, h5, _⟩
      · exact h3 b (e ▸ hb)
      · rw [e] at hb
        cases hb
        have := h.kp.next
        omega
  refine ⟨m4, ⟨(((h.kp.tf k12).trans k3 fun b hb e => absurd (h3 b e) (by omega)).trans k4 fun b hb e => absurd h.lo (by omega)), h.lo, s3, o3, hA4, ?_, fun b hb => (hlt3 b hb).2⟩, ?_, ?_⟩
  · have : SlAt m4 ty_uint8 1 s3 (bs.length + w) (ycells bs ++ ycells (le w v)) o3 := hS3.keep k3.wf k4 fun b hb e => (hlt3 b hb).1 e
    rw [ycells_app, List.length_append, le_len]
    exact this
  · refine ((k12.mono (G := fun b => o = some b ∨ b = c) fun _ _ h => h.elim).trans k3 fun b hb e => .inl e).trans k4 (fun b hb e => .inr e) |>.mono fun b hb e => ?_
    rcases e with e | e
    · rw [e] at h2; exact .inl ⟨uB, by simp, h2.kd⟩
    · subst e; exact .inl ⟨wrK, by simp, h1.kd⟩
  refine WpF.go at_b0 ?_
  simp -implicitDefEqProofs only [o_b0, r_b0_0, r_b0_1, r_b0_3, emk, r2.eq, hA.rd, e3, h23, e4, ↓reduceIte, Nat.reduceEqDiff, Nat.reduceAdd, wA, wB, wC, wD]
noncomputable abbrev ivn (n : Nat) : AV := iv (n : Int)
def les (w : Nat) (zs : List Nat) : Bs := (zs.map (le w)).flatten
theorem les_len (w : Nat) : ∀ zs, (les w zs).length = w * zs.length
  | [] => rfl
  | z :: zs => by
    show (le w z ++ les w zs).length = _
    rw [List.length_append, le_len, les_len w zs, List.length_cons, Nat.mul_add, Nat.mul_one, Nat.add_comm]
theorem les_snoc (w : Nat) (zs : List Nat) (z : Nat) : les w (zs ++ [z]) = les w zs ++ le w z := by simp [les]
abbrev NsAt (m : M) (x : AV) (zs : List Nat) (o : Option Nat) : Prop := SlAt m ty_int 1 x zs.length (zs.map ivn) o
set_option maxRecDepth 20000 in
theorem cwns {w : Nat} {zs : List Nat} {x : AV} {o : Option Nat} (h : WrAt m0 m c bs) (hx : NsAt m x zs o) (hbs : bs.length + w * zs.length ≤ 100000) (hn : w = 1 ∨ w = 2 ∨ w = 4) (hv : ∀ z ∈ zs, z < 2 ^ (8 * w)) :
    ∃ m', WrAt m0 m' c (bs ++ les w zs) ∧ KeepK m m' [uB, wrK] ∧ Ran Tryz.prog tb fn_b1 [.ptr c 0, iv w, x] m (.tuple []) m' := by
  have hz : zs.length ≤ 100000 := by
    have : zs.length ≤ w * zs.length := Nat.le_mul_of_pos_left _ (by omega)
    omega
  have key : WpF Tryz.prog tb fn_b1 [.ptr c 0, iv w, x] m fun v m' => v = .tuple [] ∧ WrAt m0 m' c (bs ++ les w zs) ∧ KeepK m m' [uB, wrK] := by
    refine WpF.go at_b1 ?_
    simp -implicitDefEqProofs only [o_b1, r_b1_0, hx.len, ↓reduceIte, Nat.reduceAdd, wA, wB, wC, wD]
    refine GX_loop (fun j fr mk => ∃ k, k ≤ zs.length ∧ j = zs.length - k ∧ (ev (tm 0) fr = .ptr c 0 ∧ ev (tm 1) fr = iv w ∧ ev (tm 8) fr = x ∧ ev (tm 9) fr = iv zs.length ∧ ev (tm 10) fr = iv k) ∧ WrAt m0 mk c (bs ++ les w (zs.take k)) ∧ KeepK m mk [uB, wrK]) (k := zs.length) ⟨0, Nat.zero_le _, rfl, by simp -implicitDefEqProofs only [nc0, ev_tm, ↓reduceIte, Nat.reduceEqDiff, nc0, and_self], by simpa [les] using h, (Keep.refl h.kp.wf fun _ => False).k0⟩ ?_
    rintro j fr mk ⟨k, hk, rfl, ⟨e0, e1, e8, e9, e10⟩, hWk, kk⟩
    by_cases hlt : k < zs.length
    · have hz1 : zs[k]? = some zs[k] := List.getElem?_eq_getElem hlt
      have hzv := hv _ (List.getElem_mem hlt)
      have htk : zs.take (k + 1) = zs.take k ++ [zs[k]] := (List.take_append_getElem hlt).symm
      generalize zs[k] = z at hz1 hzv htk
      have hxk := hx.kp h.kp.wf kk
      obtain ⟨b, cap, hxe, _, hr⟩ := elem1 hxk hlt
      rw [List.getElem?_map, hz1] at hr
      have hr : mk.rd b k = some (iv (z : Int)) := hr
      have hlen : (bs ++ les w (zs.take k)).length ≤ 100000 := by
        rw [List.length_append, les_len, List.length_take]
        have : w * min k zs.length ≤ w * zs.length := Nat.mul_le_mul_left _ (by omega)
        omega
      obtain ⟨m3, hW3, k3, r3⟩ := cwn hWk hlen hn hzv
      have hF : (k : Int) + 1 = ((k + 1 : Nat) : Int) := by omega
      rw [hxe] at e8
      simp -implicitDefEqProofs only [o_b1, r_b1_1, r_b1_2, r_b1_3, r_b1_4, e0, e1, e8, e9, e10, show ((k : Int) < (zs.length : Int)) = True from eq_true (by omega), v_iaS 1 b 0 zs.length cap false hlt, Nat.mul_one, hr, r3.eq, b_add ty_int (show -9223372036854775808 ≤ (k : Int) + 1 by omega) (show (k : Int) + 1 ≤ 9223372036854775807 by omega), ↓reduceIte, Nat.reduceEqDiff, wA, wB, wC, wD]
      exact LK_n (k' := zs.length - (k + 1)) (by omega) ⟨k + 1, by omega, rfl, by simp -implicitDefEqProofs only [e0, e1, e8, e9, hF, hxe, ev_tm, ↓reduceIte, Nat.reduceEqDiff, and_self], by rw [htk, les_snoc, ← List.append_assoc]; exact hW3, kk.tk k3⟩
    · have hkz : k = zs.length := by omega
      subst hkz
      rw [List.take_length] at hWk
      simp -implicitDefEqProofs only [o_b1, r_b1_1, e9, e10, ↓reduceIte, wA, wB, wC, wD]
      exact ⟨hWk, kk⟩
  obtain ⟨v', m', ⟨rfl, h1, h2⟩, r⟩ := key.ran
  exact ⟨m', h1, h2, r⟩
end
end Go.Proofs.YthbfinjddaembaaGreat
/- Sums over bytes. -/
namespace Go.Am
open Go Go.RowKit
section
variable {P : Program} {m : M} {fr : Fr}
theorem o_and (t : TypeId) (x y : RO) : run (.and (binS P .and t) x y) fr m = rto m (binS P .and t (ev x fr) (ev y fr)) := quick_and
abbrev uv (a : BitVec 32) : AV := .p (.int .u32 (a.toNat : Int))
theorem ofI_u32 (a : BitVec 32) : ofI .u32 (IntKind.u32.wrap ((a.toNat : Nat) : Int)) = uv a := by
  have := a.isLt
  rw [IntWalk.u32_in _ (by omega)]; rfl
theorem bv_back (a : BitVec 32) : BitVec.ofInt IntKind.u32.bits ((a.toNat : Nat) : Int) = a := by
  show BitVec.ofInt 32 ((a.toNat : Nat) : Int) = a
  rw [BitVec.ofInt_natCast, BitVec.ofNat_toNat, BitVec.setWidth_eq]
theorem u_bin (op : BinOp) (t : TypeId) (a b : BitVec 32) (h : op ≠ .shl ∧ op ≠ .shr) : binS P op t (uv a) (uv b) = intOp op .u32 (a.toNat : Int) (b.toNat : Int) := by
  unfold binS
  show intAll op .u32 _ .u32 _ = _
  unfold intAll
  split
  · exact absurd rfl h.1
  · exact absurd rfl h.2
  · rw [if_pos rfl]
theorem u_xor (t : TypeId) (a b : BitVec 32) : binS P .xor t (uv a) (uv b) = some (uv (a ^^^ b)) := by
  rw [u_bin _ t a b ⟨by decide, by decide⟩]
  show some (ofI .u32 (IntKind.u32.wrap ((BitVec.ofInt IntKind.u32.bits _ ^^^ BitVec.ofInt IntKind.u32.bits _).toNat : Int))) = _
  rw [bv_back, bv_back]
  exact congrArg some (ofI_u32 (a ^^^ b))
theorem u_and (t : TypeId) (a b : BitVec 32) : binS P .and t (uv a) (uv b) = some (uv (a &&& b)) := by
  rw [u_bin _ t a b ⟨by decide, by decide⟩]
  show some (ofI .u32 (IntKind.u32.wrap ((BitVec.ofInt IntKind.u32.bits _ &&& BitVec.ofInt IntKind.u32.bits _).toNat : Int))) = _
  rw [bv_back, bv_back]
  exact congrArg some (ofI_u32 (a &&& b))
theorem u_shr4 (t : TypeId) (a : BitVec 32) : binS P .shr t (uv a) (.p (.int .u64 4)) = some (uv (a >>> 4)) := by
  unfold binS
  show (if (4 : Int) < 0 then none else some (ofI .u32 ((a.toNat : Int).fdiv (2 ^ min (4 : Int).toNat 32)))) = _
  rw [if_neg (by omega)]
  show some (AV.p (.int .u32 ((a.toNat : Int).fdiv 16))) = _
  rw [Int.fdiv_eq_ediv_of_nonneg _ (by omega)]
  congr 3
  rw [BitVec.toNat_ushiftRight, Nat.shiftRight_eq_div_pow]
  rfl
theorem u_com (a : BitVec 32) : unS .xor (uv a) = some (uv (4294967295#32 ^^^ a)) := by
  show some (ofI .u32 (IntKind.u32.wrap ((BitVec.ofInt IntKind.u32.bits IntKind.u32.max ^^^ BitVec.ofInt IntKind.u32.bits _).toNat : Int))) = _
  rw [bv_back]
  exact congrArg some (ofI_u32 (4294967295#32 ^^^ a))
theorem u_ofy (x : UInt8) : rConvI .u32 (.cst (.y x.toNat)) .leaf m = some (uv (BitVec.ofNat 32 x.toNat), m) := by
  show some (ofI .u32 (IntKind.u32.wrap ((x.toNat : Nat) : Int)), m) = _
  have h : (BitVec.ofNat 32 x.toNat).toNat = x.toNat := by
    have := x.toNat_lt
    rw [BitVec.toNat_ofNat, Nat.mod_eq_of_lt (by omega)]
  rw [← ofI_u32, h]
theorem u_i64 (a : BitVec 32) : rConvI .i64 (.cst (uv a)) .leaf m = some (iv (a.toNat : Int), m) := by
  show some (ofI .i64 (IntKind.i64.wrap ((a.toNat : Nat) : Int)), m) = _
  have := a.isLt
  rw [IntWalk.i64_in _ (by omega)]; rfl
theorem o_iaA (len sz : Nat) (x i : RO) : run (.iaA len sz x i) fr m = rIaA len sz (.cst (ev x fr)) (.cst (ev i fr)) .leaf m := rfl
theorem u_iaA (b : Nat) (a : BitVec 32) (h : a.toNat < 16) : rIaA 16 1 (.cst (.ptr b 0)) (.cst (uv a)) .leaf m = some (.ptr b a.toNat, m) := by
  show bc (Nat.ble (Nat.succ a.toNat) 16) (fc (Nat.add 0 (Nat.mul a.toNat 1)) fun o => some (AV.ptr b o, m)) none = _
  rw [nble, decide_eq_true (by omega), bc_true, fc_eq]
  show some (AV.ptr b (0 + a.toNat * 1), m) = _
  rw [Nat.mul_one, Nat.zero_add]
end
section
variable {P : Program} {m : M}
theorem FK_cellA {Q : AV → M → Prop} {fr : Fr} {a t b off n : Nat} {l : List AV} (h1 : tagg P t = some true) (h2 : tsize P t = some n) (hp : ev (tm a) fr = .ptr b off) (hr : m.rdN b off n = some l) : FK P [.cell a t] Q .ret fr m = Q (.agg l) m := by
  refine FK_iff (l := [.agg l]) (.inr rfl) ?_
  show (ob (match tagg P t, tsize P t with | some true, some n => rLoadN n (.tmp (pth a)) fr m | some false, some _ => rLoad (.tmp (pth a)) fr m | _, _ => none) fun q => some [q.1]) = _
  rw [h1, h2]
  show (ob (elPtr none (fun b off => ob (m.rdN b off n) fun l => some (AV.agg l, m)) (ev (tm a) fr)) fun q => some [q.1]) = _
  rw [hp, v_elPtr, hr]; rfl
end
def crcT : List (BitVec 32) := [0#32, 498536548#32, 997073096#32, 651767980#32, 1994146192#32, 1802195444#32, 1303535960#32, 1342533948#32, 3988292384#32, 4027552580#32, 3604390888#32, 3412177804#32, 2607071920#32, 2262029012#32, 2685067896#32, 3183342108#32]
def crcH (c : BitVec 32) : BitVec 32 := (crcT[(c &&& 15#32).toNat]?).getD 0 ^^^ (c >>> 4)
def crcR (c : BitVec 32) (l : List UInt8) : BitVec 32 := l.foldl (fun c x => crcH (crcH (c ^^^ BitVec.ofNat 32 x.toNat))) c
def crc (l : List UInt8) : Nat := (4294967295#32 ^^^ crcR (4294967295#32 ^^^ 0#32) l).toNat
theorem crc_lt (l : List UInt8) : crc l < 2 ^ 32 := BitVec.isLt _
theorem crcI (c : BitVec 32) : (c &&& 15#32).toNat < 16 := by
  rw [BitVec.toNat_and]
  exact Nat.lt_of_le_of_lt Nat.and_le_right (by decide)
theorem crcT_get (c : BitVec 32) : (crcT.map uv)[(c &&& 15#32).toNat]? = some (uv ((crcT[(c &&& 15#32).toNat]?).getD 0)) := by
  have h := crcI c
  rw [List.getElem?_map, List.getElem?_eq_getElem (show (c &&& 15#32).toNat < crcT.length from h)]
  rfl
end Go.Am
namespace Go.Proofs.YthbfinjddaembaaGreat
open Go Go.Am
section
variable {m : M}
theorem uv15 : (AV.p (.int .u32 15)) = uv 15#32 := rfl
theorem uv00 : (AV.p (.int .u32 0)) = uv 0#32 := rfl
theorem nib1 : ∀ Q fr m, GO Tryz.prog tb r_e7_1 Q fr m = GO Tryz.prog tb [.op none none (.store 16 (tm 0) (tm 1))] Q (putD (some (pth 1)) (.agg (crcT.map uv)) fr) m := by
  intros
  kernel_rfl
theorem crcT_len : (crcT.map uv).length = 16 := rfl
set_option maxRecDepth 20000 in
theorem nibs (hw : Wf m) : ∃ m', Keep m m' (fun _ => False) ∧ Ran Tryz.prog tb fn_e7 [] m (.agg (crcT.map uv)) m' := by
  obtain ⟨m1, e1, a1, k1, n1⟩ := addZ_at hw ty_16_uint32 16 [(.p (.int .u32 (0))), (.p (.int .u32 (0))), (.p (.int .u32 (0))), (.p (.int .u32 (0))), (.p (.int .u32 (0))), (.p (.int .u32 (0))), (.p (.int .u32 (0))), (.p (.int .u32 (0))), (.p (.int .u32 (0))), (.p (.int .u32 (0))), (.p (.int .u32 (0))), (.p (.int .u32 (0))), (.p (.int .u32 (0))), (.p (.int .u32 (0))), (.p (.int .u32 (0))), (.p (.int .u32 (0)))]
  obtain ⟨m2, e2, a2, k2, n2⟩ := a1.st k1.wf 0 (crcT.map uv)
  refine ⟨m2, k1.trans k2 fun b hb e => by omega, ?_⟩
  have hl : m2.rdN m.next 0 16 = some (crcT.map uv) := a2.rdN (i := 0) (n := 16) (by decide)
  refine WpF.go at_e7 ?_
  simp -implicitDefEqProofs only [o_e7, r_e7_0, nib1, e1, crcT_len, e2, ↓reduceIte, Nat.reduceEqDiff, wA, wB, wC, wD]
  rw [FK_cellA (b := m.next) (off := 0) (n := 16) (l := crcT.map uv) (by kernel_rfl) (by kernel_rfl) (by simp -implicitDefEqProofs only [ev_tm, ↓reduceIte, Nat.reduceEqDiff]) hl]
  exact ⟨rfl, rfl⟩
set_option maxRecDepth 20000 in
theorem roll {s : AV} {l : Bs} {b : Nat} {c0 : BitVec 32} (hw : Wf m) (h : BsAt m s l b) (hl : l.length ≤ 1000000) : ∃ m', Keep m m' (fun _ => False) ∧ Ran Tryz.prog tb fn_e8 [uv c0, s] m (uv (4294967295#32 ^^^ crcR (4294967295#32 ^^^ c0) l)) m' := by
  obtain ⟨m1, k1, r1⟩ := nibs hw
  obtain ⟨m2, e2, a2, k2, n2⟩ := addZ_at k1.wf ty_16_uint32 16 [(.p (.int .u32 (0))), (.p (.int .u32 (0))), (.p (.int .u32 (0))), (.p (.int .u32 (0))), (.p (.int .u32 (0))), (.p (.int .u32 (0))), (.p (.int .u32 (0))), (.p (.int .u32 (0))), (.p (.int .u32 (0))), (.p (.int .u32 (0))), (.p (.int .u32 (0))), (.p (.int .u32 (0))), (.p (.int .u32 (0))), (.p (.int .u32 (0))), (.p (.int .u32 (0))), (.p (.int .u32 (0)))]
  obtain ⟨m3, e3, a3, k3, n3⟩ := a2.st k2.wf 0 (crcT.map uv)
  have hn1 := k1.next
  have k03 : Keep m m3 fun _ => False := (k1.ft k2).trans k3 fun b hb e => by omega
  have a3' : At m3 m1.next ty_16_uint32 true (crcT.map uv) := a3
  have h3 := h.keep hw k03 (fun h => h)
  refine ⟨m3, k03, ?_⟩
  refine WpF.go at_e8 ?_
  simp -implicitDefEqProofs only [o_e8, r_e8_0, r_e8_1, r_e8_2, r_e8_3, r1.eq, e2, crcT_len, e3, u_com, h.len, ↓reduceIte, Nat.reduceEqDiff, Nat.reduceAdd, wA, wB, wC, wD]
  refine GX_loop (fun j fr mk => ∃ k, k ≤ l.length ∧ j = l.length - k ∧ (ev (tm 0) fr = uv (crcR (4294967295#32 ^^^ c0) (l.take k)) ∧ ev (tm 5) fr = .ptr m1.next 0 ∧ ev (tm 11) fr = s ∧ ev (tm 12) fr = iv l.length ∧ ev (tm 13) fr = iv k) ∧ mk = m3) (k := l.length) ⟨0, Nat.zero_le _, rfl, by simp -implicitDefEqProofs only [crcR, List.foldl_nil, ↓reduceIte, Nat.reduceEqDiff, wA, wB, wC, wD], rfl⟩ ?_
  rintro j fr mk ⟨k, hk, rfl, ⟨e0, e5, e11, e12, e13⟩, rfl⟩
  by_cases hlt : k < l.length
  · have hz1 : l[k]? = some l[k] := List.getElem?_eq_getElem hlt
    have htk : l.take (k + 1) = l.take k ++ [l[k]] := (List.take_append_getElem hlt).symm
    generalize l[k] = z at hz1 htk
    obtain ⟨bb, off, cap, lim, hse, hr⟩ : ∃ bb off cap lim, s = .slice bb off l.length cap lim ∧ mk.rd bb (off + k) = some (.y z.toNat) := by
      cases h3 with
      | @row _ off cap lim _ cells hh hl' hc =>
        refine ⟨b, off, cap, lim, rfl, ?_⟩
        rw [hh.rd]
        have : ((cells.drop off).take l.length)[k]? = some (AV.y z.toNat) := by rw [hc]; unfold ycells; rw [List.getElem?_map, hz1]; rfl
        rwa [List.getElem?_take_of_lt hlt, List.getElem?_drop] at this
    have hF : (k : Int) + 1 = ((k + 1 : Nat) : Int) := by omega
    rw [hse] at e11
    have hd : ∀ c : BitVec 32, mk.rd m1.next (c &&& 15#32).toNat = some (uv ((crcT[(c &&& 15#32).toNat]?).getD 0)) := fun c => by rw [a3'.rd]; exact crcT_get c
    have hstep : crcR (4294967295#32 ^^^ c0) (l.take (k + 1)) = crcH (crcH (crcR (4294967295#32 ^^^ c0) (l.take k) ^^^ BitVec.ofNat 32 z.toNat)) := by
      rw [htk]; unfold crcR; rw [List.foldl_append]; rfl
    rw [← hse] at e11
    generalize crcR (4294967295#32 ^^^ c0) (l.take k) = C at e0 hstep
    have hh1 : (crcT[((C ^^^ BitVec.ofNat 32 z.toNat) &&& 15#32).toNat]?).getD 0 ^^^ ((C ^^^ BitVec.ofNat 32 z.toNat) >>> 4) = crcH (C ^^^ BitVec.ofNat 32 z.toNat) := rfl
    have hh2 : (crcT[(crcH (C ^^^ BitVec.ofNat 32 z.toNat) &&& 15#32).toNat]?).getD 0 ^^^ (crcH (C ^^^ BitVec.ofNat 32 z.toNat) >>> 4) = crcH (crcH (C ^^^ BitVec.ofNat 32 z.toNat)) := rfl
    rw [hse] at e11
    simp -implicitDefEqProofs only [o_e8, r_e8_4, r_e8_5, r_e8_6, r_e8_7, r_e8_8, r_e8_9, e0, e5, e11, e12, e13, show ((k : Int) < (l.length : Int)) = True from eq_true (by omega), v_iaS 1 bb off l.length cap lim hlt, Nat.mul_one, hr, o_convI, u_ofy, o_slow, u_xor, o_and, uv15, u_and, o_iaA, u_iaA m1.next _ (crcI _), hd, u_shr4, hh1, hh2, b_add ty_int (show -9223372036854775808 ≤ (k : Int) + 1 by omega) (show (k : Int) + 1 ≤ 9223372036854775807 by omega), ↓reduceIte, Nat.reduceEqDiff, wA, wB, wC, wD]
    exact LK_n (k' := l.length - (k + 1)) (by omega) ⟨k + 1, by omega, rfl, by simp -implicitDefEqProofs only [e5, e11, e12, hF, hse, hstep, ev_tm, ↓reduceIte, Nat.reduceEqDiff, and_self], rfl⟩
  · have hkz : k = l.length := by omega
    subst hkz
    rw [List.take_length] at e0
    simp -implicitDefEqProofs only [o_e8, r_e8_4, r_e8_10, e0, e12, e13, u_com, ↓reduceIte, Nat.reduceEqDiff, wA, wB, wC, wD]
theorem csum {s : AV} {l : Bs} {b : Nat} (hw : Wf m) (h : BsAt m s l b) (hl : l.length ≤ 1000000) : ∃ m', Keep m m' (fun _ => False) ∧ Ran Tryz.prog tb fn_e6 [s] m (iv (crc l : Nat)) m' := by
  obtain ⟨m1, k1, r1⟩ := roll (c0 := 0#32) hw h hl
  refine ⟨m1, k1, ?_⟩
  refine WpF.go at_e6 ?_
  simp -implicitDefEqProofs only [o_e6, r_e6_0, r_e6_1, uv00, r1.eq, o_convI, u_i64, ↓reduceIte, Nat.reduceEqDiff, wA, wB, wC, wD]
  rfl
end
end Go.Proofs.YthbfinjddaembaaGreat
