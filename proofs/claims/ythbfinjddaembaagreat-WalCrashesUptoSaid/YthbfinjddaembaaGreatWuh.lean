import Derived.Test.YthbfinjddaembaaGreatWhd
set_option linter.unusedVariables false
set_option linter.unusedSimpArgs false
/- The reader of package codec. -/
namespace Go.Proofs.YthbfinjddaembaaGreat
open Go Go.Am
section
variable {m : M} {c b off n cap : Nat} {lim : Bool} {l : Bs}
theorem crn {at' w : Nat} (hw : Wf m) (hR : At m c ty_codec_reader true [.slice b off n cap lim, iv at']) (h : BsAt m (.slice b off n cap lim) l b) (hn : n = l.length) (hcap : n ≤ cap) (hl : n ≤ 1000000) (hwd : w = 1 ∨ w = 2 ∨ w = 4) (hat : at' + w ≤ n) :
    ∃ m', At m' c ty_codec_reader true [.slice b off n cap lim, iv (at' + w : Nat)] ∧ Keep m m' (fun x => x = c) ∧ Ran Tryz.prog tb fn_a8 [.ptr c 0, iv w] m (iv (ge ((l.drop at').take w) : Nat)) m' := by
  obtain ⟨m1, k1, r1⟩ := get_ran hw h hn hcap hl hwd hat
  have hR1 := hR.keep hw k1 fun h => h
  obtain ⟨m2, e2, a2, k2, n2⟩ := hR1.st k1.wf 1 [iv (at' + w : Nat)]
  refine ⟨m2, a2, k1.ft k2, ?_⟩
  have hC : (at' : Int) + (w : Int) = ((at' + w : Nat) : Int) := by omega
  refine WpF.go at_a8 ?_
  simp -implicitDefEqProofs only [o_a8, r_a8_0, r_a8_1, r_a8_2, r_a8_3, hR.rd, r1.eq, hR1.rd, b_add ty_int (show -9223372036854775808 ≤ (at' : Int) + (w : Int) by omega) (show (at' : Int) + (w : Int) ≤ 9223372036854775807 by omega), hC, e2, ↓reduceIte, Nat.reduceEqDiff, Nat.reduceAdd, exists_eq_left', wA, wB, wC, wD]
set_option maxRecDepth 20000 in
theorem crns {at' w N hb : Nat} {e : TypeId} {x : AV} {o : Option Nat} {f : Nat → List AV} {os : Nat → Nat} (hw : Wf m) (hR : At m c ty_codec_reader true [.slice b off n cap lim, iv at']) (h : BsAt m (.slice b off n cap lim) l b) (hn : n = l.length) (hcap : n ≤ cap) (hl : n ≤ 1000000) (hwd : w = 1 ∨ w = 2 ∨ w = 4) (hat : at' + N * w ≤ n)
    (hbc : b ≠ c) (hbh : b ≠ hb) (hch : c ≠ hb) (hH : At m hb e true (f 0)) (hf : ∀ k, k < N → splice (f k) (os k) [iv (ge ((l.drop (at' + k * w)).take w) : Nat)] = f (k + 1) ∧ os k + 1 ≤ (f k).length)
    (hx : SlAt m ty_pint 1 x N ((List.range N).map fun k => .ptr hb (os k)) o) (ho : ∀ bo, o = some bo → bo ≠ c ∧ bo ≠ hb) :
    ∃ m', At m' hb e true (f N) ∧ At m' c ty_codec_reader true [.slice b off n cap lim, iv (at' + N * w : Nat)] ∧ Keep m m' (fun x => x = c ∨ x = hb) ∧ Ran Tryz.prog tb fn_a9 [.ptr c 0, iv w, x] m (.tuple []) m' := by
  have hN : N ≤ 1000000 := by
    have : N ≤ N * w := Nat.le_mul_of_pos_right _ (by omega)
    omega
  have key : WpF Tryz.prog tb fn_a9 [.ptr c 0, iv w, x] m fun v m' => v = .tuple [] ∧ At m' hb e true (f N) ∧ At m' c ty_codec_reader true [.slice b off n cap lim, iv (at' + N * w : Nat)] ∧ Keep m m' (fun x => x = c ∨ x = hb) := by
    refine WpF.go at_a9 ?_
    simp -implicitDefEqProofs only [o_a9, r_a9_0, hx.len, ↓reduceIte, Nat.reduceAdd, wA, wB, wC, wD]
    refine GX_loop (fun j fr mk => ∃ k, k ≤ N ∧ j = N - k ∧ (ev (tm 0) fr = .ptr c 0 ∧ ev (tm 1) fr = iv w ∧ ev (tm 8) fr = x ∧ ev (tm 9) fr = iv N ∧ ev (tm 10) fr = iv k) ∧ At mk hb e true (f k) ∧ At mk c ty_codec_reader true [.slice b off n cap lim, iv (at' + k * w : Nat)] ∧ Keep m mk (fun x => x = c ∨ x = hb)) (k := N) ⟨0, Nat.zero_le _, rfl, by simp -implicitDefEqProofs only [nc0, ev_tm, ↓reduceIte, Nat.reduceEqDiff, nc0, and_self], hH, by rw [Nat.zero_mul, Nat.add_zero]; exact hR, Keep.refl hw _⟩ ?_
    rintro j fr mk ⟨k, hk, rfl, ⟨e0, e1, e8, e9, e10⟩, hHk, hRk, kk⟩
    by_cases hlt : k < N
    · obtain ⟨hf1, hf2⟩ := hf k hlt
      have hxk := hx.keep hw kk fun bo hbo e => e.elim (ho bo hbo).1 (ho bo hbo).2
      obtain ⟨bb, cp, hxe, _, hr⟩ := elem1 hxk hlt
      rw [List.getElem?_map, List.getElem?_range hlt] at hr
      have hr : mk.rd bb k = some (.ptr hb (os k)) := hr
      have hmul : k * w + w ≤ N * w := by
        have := Nat.mul_le_mul_right w (show k + 1 ≤ N from hlt)
        rw [Nat.add_mul, Nat.one_mul] at this
        exact this
      obtain ⟨m3, hR3, k3, r3⟩ := crn kk.wf hRk (h.keep hw kk fun e => e.elim hbc hbh) hn hcap hl hwd (by omega)
      have hH3 := hHk.keep kk.wf k3 fun e => hch e.symm
      obtain ⟨m4, e4, a4, k4, n4⟩ := hH3.st k3.wf (os k) [iv (ge ((l.drop (at' + k * w)).take w) : Nat)] hf1 hf2
      have hF : (k : Int) + 1 = ((k + 1 : Nat) : Int) := by omega
      rw [hxe] at e8
      simp -implicitDefEqProofs only [o_a9, r_a9_1, r_a9_2, r_a9_3, r_a9_4, e0, e1, e8, e9, e10, show ((k : Int) < (N : Int)) = True from eq_true (by omega), v_iaS 1 bb 0 N cp false hlt, Nat.mul_one, hr, r3.eq, e4, b_add ty_int (show -9223372036854775808 ≤ (k : Int) + 1 by omega) (show (k : Int) + 1 ≤ 9223372036854775807 by omega), ↓reduceIte, Nat.reduceEqDiff, wA, wB, wC, wD]
      refine LK_n (k' := N - (k + 1)) (by omega) ⟨k + 1, by omega, rfl, by simp -implicitDefEqProofs only [e0, e1, e8, e9, hF, hxe, ev_tm, ↓reduceIte, Nat.reduceEqDiff, and_self], a4, ?_, (kk.trans k3 fun _ _ e => .inl e).trans k4 fun _ _ e => .inr e⟩
      have hR4 := hR3.keep k3.wf k4 hch
      rw [Nat.add_mul, Nat.one_mul, ← Nat.add_assoc]
      exact hR4
    · have hkz : k = N := by omega
      subst hkz
      simp -implicitDefEqProofs only [o_a9, r_a9_1, e9, e10, ↓reduceIte, wA, wB, wC, wD]
      exact ⟨hHk, hRk, kk⟩
  obtain ⟨v', m', ⟨rfl, h1, h2, h3⟩, r⟩ := key.ran
  exact ⟨m', h1, h2, h3, r⟩
theorem beq_ran {s1 s2 : AV} {t1 t2 : Bs} {b1 b2 : Nat} (h1 : BsAt m s1 t1 b1) (h2 : BsAt m s2 t2 b2) : Ran Tryz.prog tb fn_d8 [s1, s2] m (.b (decide (t1 = t2))) m := by
  refine WpF.go at_d8 ?_
  simp -implicitDefEqProofs only [o_d8, r_d8_0, r_d8_1, h1.run_b2s, h2.run_b2s, ↓reduceIte, Nat.reduceEqDiff, Nat.reduceAdd, wA, wB, wC, wD]
end
end Go.Proofs.YthbfinjddaembaaGreat
/- codec.Unheader, on blocks of 64 bytes. -/
namespace Go.Am
open Go Go.RowKit
theorem FK_cellT {P : Program} {m : M} {Q : AV → M → Prop} {fr : Fr} {a u t b off n : Nat} {l : List AV} (h1 : tagg P t = some true) (h2 : tsize P t = some n) (hp : ev (tm a) fr = .ptr b off) (hr : m.rdN b off n = some l) : FK P [.cell a t, .tmp u] Q .ret fr m = Q (.tuple [.agg l, ev (tm u) fr]) m := by
  refine FK_iff (l := [.agg l, ev (tm u) fr]) (.inr rfl) ?_
  show (ob (match tagg P t, tsize P t with | some true, some n => rLoadN n (.tmp (pth a)) fr m | some false, some _ => rLoad (.tmp (pth a)) fr m | _, _ => none) fun q => some (q.1 :: [ev (tm u) fr])) = _
  rw [h1, h2]
  show (ob (elPtr none (fun b off => ob (m.rdN b off n) fun l => some (AV.agg l, m)) (ev (tm a) fr)) fun q => some (q.1 :: [ev (tm u) fr])) = _
  rw [hp, v_elPtr, hr]; rfl
end Go.Am
namespace Go.Proofs.YthbfinjddaembaaGreat
open Go Go.Am
section
variable {m : M}
theorem sameH {s1 s2 : AV} {t1 t2 : Bs} {b1 b2 : Nat} {x y z : AV} (hw : Wf m) (h1 : BsAt m s1 t1 b1) (h2 : BsAt m s2 t2 b2) :
    ∃ m', Keep m m' (fun _ => False) ∧ Ran Tryz.prog tb fn_e4 [.agg [x, y, z], s1, s2, iv 0] m (if t1 = t2 then .tuple [.agg [x, y, z], iv 0] else .tuple [.agg [iv 0, iv 0, iv 0], iv 4]) m' := by
  obtain ⟨m1, e1, a1, k1, n1⟩ := addL_at hw ty_api_Header 3 [x, y, z]
  obtain ⟨m2, e2, a2, k2, n2⟩ := addZ_at k1.wf ty_api_Header 3 [iv 0, iv 0, iv 0]
  have k02 := k1.tf k2
  have rb := beq_ran (h1.keep hw k02 fun h => h) (h2.keep hw k02 fun h => h)
  have a12 := a1.keep k1.wf k2 fun h => h
  by_cases ht : t1 = t2
  · have q1 : m2.rdN m.next 0 3 = some [x, y, z] := a12.rdN (i := 0) (n := 3) (Nat.le_refl 3)
    obtain ⟨m3, e3, a3, k3, n3⟩ := a2.st k2.wf 0 [x, y, z]
    have q3 : m3.rdN m1.next 0 3 = some [x, y, z] := a3.rdN (i := 0) (n := 3) (Nat.le_refl 3)
    refine ⟨m3, k02.trans k3 fun b hb e => by omega, ?_⟩
    rw [if_pos ht]
    rw [decide_eq_true ht] at rb
    refine WpF.go at_e4 ?_
    simp -implicitDefEqProofs only [o_e4, r_e4_0, r_e4_1, r_e4_4, e1, e2, rb.eq, q1, e3, ↓reduceIte, Nat.reduceEqDiff, Nat.reduceAdd, wA, wB, wC, wD]
    rw [FK_cellT (b := m1.next) (off := 0) (n := 3) (l := [x, y, z]) (by kernel_rfl) (by kernel_rfl) (by simp -implicitDefEqProofs only [ev_tm, ↓reduceIte, Nat.reduceEqDiff]) q3]
    simp -implicitDefEqProofs only [ev_tm, ↓reduceIte, and_self]
  · obtain ⟨m3, e3, a3, k3, n3⟩ := addZ_at k2.wf ty_api_Header 3 [iv 0, iv 0, iv 0]
    have q1 : m3.rdN m2.next 0 3 = some [iv 0, iv 0, iv 0] := a3.rdN (i := 0) (n := 3) (Nat.le_refl 3)
    obtain ⟨m4, e4, a4, k4, n4⟩ := (a2.keep k2.wf k3 fun h => h).st k3.wf 0 [iv 0, iv 0, iv 0]
    have q3 : m4.rdN m1.next 0 3 = some [iv 0, iv 0, iv 0] := a4.rdN (i := 0) (n := 3) (Nat.le_refl 3)
    refine ⟨m4, (k02.trans k3 fun _ _ h => h).trans k4 fun b hb e => by omega, ?_⟩
    rw [if_neg ht]
    rw [decide_eq_false ht] at rb
    refine WpF.go at_e4 ?_
    simp -implicitDefEqProofs only [o_e4, r_e4_0, r_e4_1, r_e4_2, r_e4_3, e1, e2, rb.eq, e3, q1, e4, ↓reduceIte, Nat.reduceEqDiff, Nat.reduceAdd, wA, wB, wC, wD]
    rw [FK_cellT (b := m1.next) (off := 0) (n := 3) (l := [iv 0, iv 0, iv 0]) (by kernel_rfl) (by kernel_rfl) (by simp -implicitDefEqProofs only [ev_tm, ↓reduceIte, Nat.reduceEqDiff]) q3]
    simp -implicitDefEqProofs only [ev_tm, ↓reduceIte, and_self]
def uhA (l : Bs) : Nat := ge ((l.drop 4).take 4)
def uhB (l : Bs) : Nat := ge ((l.drop 8).take 2)
def uhC (l : Bs) : Nat := ge ((l.drop 10).take 2)
theorem uh_lt (l : Bs) : uhA l < 2 ^ 32 ∧ uhB l < 2 ^ 16 ∧ uhC l < 2 ^ 16 := by
  have hb : ∀ (x : Bs) (k : Nat), x.length ≤ k → ge x < 256 ^ k := fun x k h => Nat.lt_of_lt_of_le (ge_lt x) (Nat.pow_le_pow_right (by omega) h)
  refine ⟨?_, ?_, ?_⟩
  · have := hb ((l.drop 4).take 4) 4 (by simp; omega)
    exact this
  · have := hb ((l.drop 8).take 2) 2 (by simp; omega)
    exact this
  · have := hb ((l.drop 10).take 2) 2 (by simp; omega)
    exact this
set_option maxRecDepth 20000 in
theorem unheader {b off cap : Nat} {lim : Bool} {l : Bs} (hw : Wf m) (h : BsAt m (.slice b off 64 cap lim) l b) (hl : l.length = 64) (hcap : 64 ≤ cap) :
    ∃ m', Keep m m' (fun _ => False) ∧ Ran Tryz.prog tb fn_e2 [.slice b off 64 cap lim] m (if l = hdrB (uhA l) (uhB l) (uhC l) then .tuple [.agg [iv (uhA l), iv (uhB l), iv (uhC l)], iv 0] else .tuple [.agg [iv 0, iv 0, iv 0], iv 4]) m' := by
  obtain ⟨l1, l2, l3⟩ := uh_lt l
  have hb0 := h.lt hw
  obtain ⟨m1, e1, a1, k1, n1⟩ := addZ_at hw ty_api_Header 3 [iv 0, iv 0, iv 0]
  obtain ⟨m2, e2, a2, k2, n2⟩ := addZ_at k1.wf ty_api_Header 3 [iv 0, iv 0, iv 0]
  obtain ⟨m3, e3, a3, k3, n3⟩ := addL_at k2.wf ty_codec_reader 2 [.slice b off 64 cap lim, iv 4]
  obtain ⟨m4, e4, a4, k4, n4⟩ := addL_at k3.wf ty_pint 1 [.ptr m1.next 0]
  have k04 := ((k1.tf k2).tf k3).tf k4
  have h4 := h.keep hw k04 fun h => h
  have a34 := a3.keep k3.wf k4 fun h => h
  have a24 := (a2.keep k2.wf k3 fun h => h).keep k3.wf k4 fun h => h
  obtain ⟨m5, h5, r5, k5, c5⟩ := crns (at' := 4) (w := 4) (N := 1) (hb := m1.next) (f := fun | 0 => [iv 0, iv 0, iv 0] | _ => [iv (uhA l), iv 0, iv 0]) (os := fun _ => 0) k4.wf a34 h4 hl.symm hcap (by omega) (by omega) (by omega) (by omega) (by omega) (by omega) a24
    (fun k hk => by
      obtain rfl : k = 0 := by omega
      exact ⟨rfl, Nat.le_of_ble_eq_true rfl⟩)
    (x := .slice m3.next 0 1 1 false) (o := some m3.next) (.row (junk := []) a4 rfl rfl (Nat.le_refl _) (by decide)) (fun bo hbo => by cases hbo; omega)
  obtain ⟨m6, e6, a6, k6, n6⟩ := addL_at k5.wf ty_pint 2 [.ptr m1.next 1, .ptr m1.next 2]
  have k05 : Keep m m5 fun _ => False := k04.trans k5 fun b hb e => by omega
  have k06 := k05.tf k6
  have hn5 := k5.next
  obtain ⟨m7, h7, r7, k7, c7⟩ := crns (at' := 8) (w := 2) (N := 2) (hb := m1.next) (f := fun | 0 => [iv (uhA l), iv 0, iv 0] | 1 => [iv (uhA l), iv (uhB l), iv 0] | _ => [iv (uhA l), iv (uhB l), iv (uhC l)]) (os := fun k => k + 1) k6.wf (r5.keep k5.wf k6 fun h => h) (h.keep hw k06 fun h => h) hl.symm hcap (by omega) (by omega) (by omega) (by omega) (by omega) (by omega) (h5.keep k5.wf k6 fun h => h)
    (fun k hk => by
      match k, hk with
      | 0, _ => exact ⟨rfl, Nat.le_of_ble_eq_true rfl⟩
      | 1, _ => exact ⟨rfl, Nat.le_of_ble_eq_true rfl⟩)
    (x := .slice m5.next 0 2 2 false) (o := some m5.next) (.row (junk := []) a6 rfl rfl (Nat.le_refl _) (by decide)) (fun bo hbo => by cases hbo; omega)
  have k07 : Keep m m7 fun _ => False := k06.trans k7 fun b hb e => by omega
  have q7 : m7.rdN m1.next 0 3 = some [iv (uhA l), iv (uhB l), iv (uhC l)] := h7.rdN (i := 0) (n := 3) (Nat.le_refl 3)
  obtain ⟨m8, s2, b2, rb, k8, hb2, r8⟩ := header (seq := uhA l) (tail := uhB l) (used := uhC l) k7.wf l1 l2 l3
  have h78 := h7.keep k7.wf k8 fun h => h
  have q8 : m8.rdN m1.next 0 3 = some [iv (uhA l), iv (uhB l), iv (uhC l)] := h78.rdN (i := 0) (n := 3) (Nat.le_refl 3)
  obtain ⟨m9, k9, r9⟩ := sameH (x := iv (uhA l)) (y := iv (uhB l)) (z := iv (uhC l)) k8.wf (h.keep hw (k07.tf k8) fun h => h) rb.bs
  have k19 : Keep m1 m9 (fun x => False) := ((((((k2.tf k3).tf k4).trans k5 fun b hb e => by omega).tf k6).trans k7 fun b hb e => by omega).tf k8).tf k9
  have a19 := a1.keep k1.wf k19 fun h => h
  have q64 : ((64 : Nat) : Int) = 64 := rfl
  have q4 : ((4 : Nat) : Int) = 4 := rfl
  have q2 : ((2 : Nat) : Int) = 2 := rfl
  rw [q4] at c5
  rw [q2] at c7
  have hrp : repl 2 [nilp] = [nilp, nilp] := rfl
  by_cases ht : l = hdrB (uhA l) (uhB l) (uhC l)
  · rw [if_pos ht] at r9 ⊢
    obtain ⟨m10, e10, a10, k10, n10⟩ := a19.st k9.wf 0 [iv (uhA l), iv (uhB l), iv (uhC l)]
    have q10 : m10.rdN m.next 0 3 = some [iv (uhA l), iv (uhB l), iv (uhC l)] := a10.rdN (i := 0) (n := 3) (Nat.le_refl 3)
    refine ⟨m10, ((k07.tf k8).tf k9).trans k10 fun b hb e => by omega, ?_⟩
    refine WpF.go at_e2 ?_
    simp -implicitDefEqProofs only [o_e2, r_e2_0, r_e2_1, r_e2_3, r_e2_4, r_e2_5, r_e2_6, r_e2_7, r_e2_8, e1, q64, bsize64.eq, e2, e3, e4, c5.eq, hrp, e6, c7.eq, q7, r8.eq, q8, r9.eq, e10, ↓reduceIte, Nat.reduceEqDiff, Nat.reduceAdd, Nat.reduceLeDiff, wA, wB, wC, wD]
    rw [FK_cellT (b := m.next) (off := 0) (n := 3) (l := [iv (uhA l), iv (uhB l), iv (uhC l)]) (by kernel_rfl) (by kernel_rfl) (by simp -implicitDefEqProofs only [ev_tm, ↓reduceIte, Nat.reduceEqDiff]) q10]
    simp -implicitDefEqProofs only [ev_tm, ↓reduceIte, and_self]
  · rw [if_neg ht] at r9 ⊢
    obtain ⟨m10, e10, a10, k10, n10⟩ := a19.st k9.wf 0 [iv 0, iv 0, iv 0]
    have q10 : m10.rdN m.next 0 3 = some [iv 0, iv 0, iv 0] := a10.rdN (i := 0) (n := 3) (Nat.le_refl 3)
    refine ⟨m10, ((k07.tf k8).tf k9).trans k10 fun b hb e => by omega, ?_⟩
    refine WpF.go at_e2 ?_
    simp -implicitDefEqProofs only [o_e2, r_e2_0, r_e2_1, r_e2_3, r_e2_4, r_e2_5, r_e2_6, r_e2_7, r_e2_8, e1, q64, bsize64.eq, e2, e3, e4, c5.eq, hrp, e6, c7.eq, q7, r8.eq, q8, r9.eq, e10, ↓reduceIte, Nat.reduceEqDiff, Nat.reduceAdd, Nat.reduceLeDiff, wA, wB, wC, wD]
    rw [FK_cellT (b := m.next) (off := 0) (n := 3) (l := [iv 0, iv 0, iv 0]) (by kernel_rfl) (by kernel_rfl) (by simp -implicitDefEqProofs only [ev_tm, ↓reduceIte, Nat.reduceEqDiff]) q10]
    simp -implicitDefEqProofs only [ev_tm, ↓reduceIte, and_self]
end
end Go.Proofs.YthbfinjddaembaaGreat
