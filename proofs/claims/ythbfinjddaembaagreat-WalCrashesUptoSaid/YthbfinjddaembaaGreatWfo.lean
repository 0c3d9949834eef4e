import Derived.Test.YthbfinjddaembaaGreatDy
import Derived.Test.YthbfinjddaembaaGreatWe
import Derived.Test.YthbfinjddaembaaGreatWud
set_option linter.unusedVariables false
set_option linter.unusedSimpArgs false
/- A new device. -/
namespace Go.Proofs.YthbfinjddaembaaGreat
open Go Go.Am
theorem q_and : binS Tryz.prog .and ty_int (iv 64) (iv 63) = some (iv 0) := by kernel_rfl
theorem q_sub : binS Tryz.prog .sub ty_int (iv 64) (iv 1) = some (iv 63) := by kernel_rfl
theorem q_mul {n : Nat} (h : n ≤ 1000000) : binS Tryz.prog .mul ty_int (iv 64) (iv n) = some (iv (64 * n)) := by
  rw [binS_iv]
  show some (iv (IntKind.i64.wrap (64 * (n : Int)))) = _
  rw [IntWalk.i64_in _ ⟨by omega, by omega⟩]
theorem q_andop (t : TypeId) (x y : RO) (fr : Fr) (m : M) : run (.and (binS Tryz.prog .and t) x y) fr m = rto m (binS Tryz.prog .and t (ev x fr) (ev y fr)) := quick_and
def zeros : Bs := List.replicate 64 0
theorem splice_cl {n : Nat} {L : List Cw} {k : Nat} (hL : L.length = k) (hk : k < n) (c : Cw) (hc : c.wv = nils) : splice (dflat L ++ List.replicate ((n - k) * 2) nils) (k * 2) [c.av] = dflat (L ++ [c]) ++ List.replicate ((n - (k + 1)) * 2) nils := by
  have hd : (dflat L).length = k * 2 := by rw [dflat_len, hL]
  have hr : List.replicate ((n - k) * 2) nils = nils :: nils :: List.replicate ((n - (k + 1)) * 2) nils := by
    rw [show (n - k) * 2 = (n - (k + 1)) * 2 + 1 + 1 by omega, List.replicate_succ, List.replicate_succ]
  have hf : dflat (L ++ [c]) = dflat L ++ [c.av, nils] := by
    unfold dflat
    rw [List.flatMap_append, ← hc]
    rfl
  unfold splice
  rw [hf, hr, List.take_append_of_le_length (by omega), List.take_of_length_le (by omega), show [c.av].length = 1 from rfl, List.drop_append, List.drop_of_length_le (by omega), hd, show k * 2 + 1 - k * 2 = 1 by omega]
  simp
theorem rep_nn (n : Nat) : (List.replicate n [nils, nils]).flatten = List.replicate (n * 2) nils := by
  induction n with
  | zero => rfl
  | succ n ih => rw [List.replicate_succ, List.flatten_cons, ih, show (n + 1) * 2 = n * 2 + 1 + 1 by omega, List.replicate_succ, List.replicate_succ]; rfl
theorem zrow {m : M} (hw : Wf m) : ∃ m', rMkSl ty_uint8 1 1 [.y 0] (.cst (iv 64)) (.cst (iv 64)) .leaf m = some (.slice m.next 0 64 64 false, m') ∧ At m' m.next ty_uint8 true (List.replicate 64 (.y 0)) ∧ Keep m m' (fun _ => False) ∧ m'.next = m.next + 1 := by
  refine ⟨_, v_mksl ty_uint8 1 1 [.y 0] (n := 64) (by omega) (by omega), ?_, Keep.addZ hw, M.next_addZ ..⟩
  have := At.addZr (m := m) (e := ty_uint8) (k := 64 * 1) (z := [.y 0]) 64 rfl
  rwa [rep_flat] at this
theorem bt_rep {m : M} {b : Nat} {x : UInt8} {xt : Bool} (h : At m b ty_uint8 xt (List.replicate 64 (.y x.toNat))) : BtU m (.slice b 0 64 64 false) (List.replicate 64 x) b := by
  refine ⟨?_, h.kd⟩
  have := BsAt.row (m := m) (b := b) (off := 0) (cap := 64) (lim := false) (l := List.replicate 64 x) h.r (by simp) (by rw [ycells_rep]; simp)
  simpa using this
set_option maxHeartbeats 2000000 in
theorem dnew {m : M} {n : Nat} (hw : Wf m) (hn1 : 1 ≤ n) (hn2 : n ≤ 4096) {Q : AV → M → Prop} (hQ : ∀ m' d cb D, DvAt m' d cb D → D.L.length = n → D.fused = false → D.dead = false → D.fuse = 0 → D.writes = 0 → (∀ c ∈ D.L, c.al = zeros ∧ c.wl = []) → Keep m m' (fun _ => False) → Q (.tuple [.ptr d 0, iv 0]) m') : WpF Tryz.prog tb fn_e9 [iv 64, iv n] m Q := by
  have ha := At.addZr (m := m) (e := ty_device_cell) (k := n * 2) (z := [nils, nils]) n rfl
  rw [rep_nn] at ha
  obtain ⟨m1, e1, k1, n1⟩ : ∃ m1, m.addZ ty_device_cell (n * 2) [nils, nils] = m1 ∧ Keep m m1 (fun _ => False) ∧ m1.next = m.next + 1 := ⟨_, rfl, Keep.addZ hw, M.next_addZ ..⟩
  rw [e1] at ha
  have hw1 := k1.wf
  have emk := v_mksl (m := m) ty_device_cell 2 48 [nils, nils] (n := n) (by omega) (by omega)
  rw [e1] at emk
  obtain ⟨m2, e2, hd2, k2, n2⟩ := addL_at hw1 ty_device_Device 6 [iv 64, .slice m.next 0 n n false, .b false, iv 0, .b false, iv 0]
  have hw2 := k2.wf
  have ha2 := ha.keep hw1 k2 fun h => h
  refine WpF.go at_e9 ?_
  simp -implicitDefEqProofs only [o_e9, r_e9_0, r_e9_1, r_e9_3, r_e9_5, r_e9_6, q_andop, q_and, q_sub, show ((64 : Int) < 64) = False from eq_false (by omega), show ((4096 : Int) < 64) = False from eq_false (by omega), show ((n : Int) < 1) = False from eq_false (by omega), show ((4096 : Int) < (n : Int)) = False from eq_false (by omega), q_mul (n := n) (by omega), show ((1048576 : Int) < 64 * (n : Int)) = False from eq_false (by omega), emk, e2, hd2.rd, ↓reduceIte, Nat.reduceEqDiff, Nat.reduceAdd, Nat.reduceLeDiff, wA, wB, wC, wD]
  refine GX_loop (fun j fr mk => ∃ k L, k ≤ n ∧ j = n - k ∧ (ev (tm 0) fr = iv 64 ∧ ev (tm 6) fr = .ptr m1.next 0 ∧ ev (tm 44) fr = iv (n : Nat) ∧ ev (tm 45) fr = iv (k : Nat)) ∧ L.length = k ∧ (∀ c ∈ L, c.al = zeros ∧ c.wl = [] ∧ c.wv = nils ∧ c.wb = none ∧ BtU mk c.av c.al c.ab ∧ m2.next ≤ c.ab) ∧ Keep m2 mk (fun b => b = m.next) ∧ At mk m.next ty_device_cell true (dflat L ++ List.replicate ((n - k) * 2) nils)) (k := n) ?_ ?_
  · exact ⟨0, [], by omega, rfl, by simp -implicitDefEqProofs only [ev_tm, ↓reduceIte, Nat.reduceEqDiff, nc0, and_self], rfl, fun _ h => (by cases h), Keep.refl hw2 _, ha2⟩
  rintro j fr mk ⟨k, L, hk, rfl, ⟨e0, e6, e44, e45⟩, hL, hX, kk, hak⟩
  have hwk := kk.wf
  have hdk := hd2.keep hw2 kk (by omega)
  have hnk := kk.next
  by_cases hlt : k < n
  · obtain ⟨m3, e3, ha3, k3, n3⟩ := zrow hwk
    have hw3 := k3.wf
    have hd3 := hdk.keep hwk k3 fun h => h
    have hak3 := hak.keep hwk k3 fun h => h
    obtain ⟨m4, e4, ha4, k4, n4⟩ := hak3.st hw3 (k * 2) [.slice mk.next 0 64 64 false] rfl (by rw [List.length_append, dflat_len, hL, List.length_replicate]; simp; omega)
    rw [splice_cl (c := ⟨.slice mk.next 0 64 64 false, zeros, mk.next, nils, [], none⟩) hL hlt rfl] at ha4
    simp -implicitDefEqProofs only [o_e9, r_e9_7, r_e9_8, r_e9_9, r_e9_10, e0, e6, e44, e45, show ((k : Int) < (n : Int)) = True from eq_true (by omega), hdk.rd, e3, hd3.rd, v_iaS 2 m.next 0 n n false hlt, e4, b_add ty_int (show -9223372036854775808 ≤ (k : Int) + 1 by omega) (show (k : Int) + 1 ≤ 9223372036854775807 by omega), ↓reduceIte, Nat.reduceEqDiff, exists_eq_left', wA, wB, wC, wD]
    refine LK_n (k' := n - (k + 1)) (by omega) ⟨k + 1, L ++ [⟨.slice mk.next 0 64 64 false, zeros, mk.next, nils, [], none⟩], by omega, rfl, by simp -implicitDefEqProofs only [e0, e6, e44, show (k : Int) + 1 = ((k + 1 : Nat) : Int) from rfl, ev_tm, ↓reduceIte, Nat.reduceEqDiff, and_self], by simp [hL], fun c hc => ?_, ((kk.tf k3).trans k4 fun _ _ e => e), ha4⟩
    rcases List.mem_append.1 hc with hc | hc
    · obtain ⟨x1, x2, x3, x4, x5, x6⟩ := hX c hc
      exact ⟨x1, x2, x3, x4, (x5.keep hwk k3 fun h => h).keep hw3 k4 (by omega), x6⟩
    · cases List.mem_singleton.1 hc
      exact ⟨rfl, rfl, rfl, rfl, (bt_rep (x := 0) ha3).keep hw3 k4 (by omega), by show m2.next ≤ mk.next; omega⟩
  · have hkn : k = n := by omega
    subst hkn
    simp -implicitDefEqProofs only [o_e9, r_e9_7, r_e9_11, e6, e44, e45, ↓reduceIte, Nat.reduceEqDiff, wA, wB, wC, wD]
    rw [Nat.sub_self, Nat.zero_mul, List.replicate_zero, List.append_nil] at hak
    refine hQ mk m1.next m.next ⟨L, false, false, 0, 0⟩ ⟨by rw [show (⟨L, false, false, 0, 0⟩ : Dv).L = L from rfl, hL]; exact hdk, hak, fun c hc => ?_, fun i j c c' b h1 _ h3 _ => ?_⟩ hL rfl rfl rfl rfl (fun c hc => ⟨(hX c hc).1, (hX c hc).2.1⟩) ((k1.tf k2).trans kk fun b hb e => by omega)
    · obtain ⟨x1, x2, x3, x4, x5, x6⟩ := hX c hc
      refine ⟨x5, ?_, fun e he => ?_⟩
      · rw [x2, x3, x4]; exact .nil
      · rw [x2] at he; cases he
    · rw [(hX c (List.mem_of_getElem? h1)).2.2.2.1] at h3; cases h3
end Go.Proofs.YthbfinjddaembaaGreat
/- Plans: what plan.Make uses. -/
namespace Go.Am
open Go Go.RowKit
theorem WpF.closed {P : Program} {T : Tb} {g : FuncId} {cc : CC} {nt t : Nat} (hf : FnAt P T g cc nt [.tmp t]) {args : List AV} {m : M} {v : AV} (hit : T.it g args m = none) (hn : Nat.ble args.length nt = true)
    (h : GX P T cc (fun x fr m' => x = .ret ∧ ev (tm t) fr = v ∧ m' = m) (fillP args (nat_lit 0) .leaf) m) : Ran P T g args m v m := by
  have h1 : WpF P T g args m fun v' m' => v' = v ∧ m' = m := WpF_intro hf hit hn ((GX_ok h).mono fun x fr m' ⟨e1, e2, e3⟩ => ⟨.inr e1, _, ares1, e2, e3⟩)
  obtain ⟨v', m', ⟨rfl, rfl⟩, r⟩ := h1.ran
  exact r
end Go.Am
namespace Go.Proofs.YthbfinjddaembaaGreat
open Go Go.Am
section
variable {m : M}
theorem within_ran (a b c : Int) : Ran Tryz.prog tb fn_g6 [iv a, iv b, iv c] m (.b (decide (b ≤ a) && decide (a ≤ c))) m := by
  refine WpF.go at_g6 ?_
  by_cases h : b ≤ a
  · simp -implicitDefEqProofs only [o_g6, r_g6_0, r_g6_1, h, ↓reduceIte, Nat.reduceEqDiff, Nat.reduceAdd, wA, wB, wC, wD]
  · simp -implicitDefEqProofs only [o_g6, r_g6_0, r_g6_1, h, ↓reduceIte, Nat.reduceEqDiff, Nat.reduceAdd, wA, wB, wC, wD]
theorem share_ran {n size : Nat} (h : 0 < size) (h1 : n + size ≤ 1000000000) : Ran Tryz.prog tb fn_g5 [iv n, iv size] m (iv ((n + size - 1) / size : Nat)) m := by
  have e1 : (n : Int) + (size : Int) = ((n + size : Nat) : Int) := by omega
  have e2 : ((n + size : Nat) : Int) - 1 = ((n + size - 1 : Nat) : Int) := by omega
  refine WpF.go at_g5 ?_
  simp -implicitDefEqProofs only [o_g5, r_g5_0, r_g5_1, b_add ty_int (show -9223372036854775808 ≤ (n : Int) + (size : Int) by omega) (show (n : Int) + (size : Int) ≤ 9223372036854775807 by omega), e1, b_sub ty_int (show -9223372036854775808 ≤ ((n + size : Nat) : Int) - 1 by omega) (show ((n + size : Nat) : Int) - 1 ≤ 9223372036854775807 by omega), e2, b_quo (P := Tryz.prog) (a := n + size - 1) ty_int h (by omega), ↓reduceIte, Nat.reduceEqDiff, Nat.reduceAdd, wA, wB, wC, wD]
theorem ones64 : Ran Tryz.prog tb fn_g1 [.p (.int .u64 64)] m (iv 1) m := by
  refine WpF.closed at_g1 rfl rfl ?_
  have e : GX Tryz.prog tb c_g1 (fun x fr m' => x = .ret ∧ ev (tm 2) fr = iv 1 ∧ m' = m) (fillP [.p (.int .u64 64)] (nat_lit 0) .leaf) m = (X.ret = .ret ∧ iv 1 = iv 1 ∧ m = m) := by kernel_rfl
  rw [e]
  exact ⟨rfl, rfl, rfl⟩
theorem ones_ran : Ran Tryz.prog tb fn_g0 [.p (.int .u64 64)] m (iv 1) m := by
  refine WpF.go at_g0 ?_
  simp -implicitDefEqProofs only [o_g0, r_g0_0, r_g0_2, ones64.eq, ↓reduceIte, Nat.reduceEqDiff, wA, wB, wC, wD]
end
section
variable {m : M}
noncomputable abbrev smallP : List AV := [iv 64, iv 60, iv 6, iv 9, iv 2, iv 11, iv 1, iv 12, iv 1, iv 13, iv 3, iv 16]
theorem take_ran {A a n s : Nat} (hw : Wf m) (hA : At m A ty_int true [iv a]) (hs : a + n = s) (h : s ≤ 1000000) : ∃ m', At m' A ty_int true [iv s] ∧ Keep m m' (fun b => b = A) ∧ m'.next = m.next ∧ Ran Tryz.prog tb fn_g4 [iv n, .ptr A 0] m (iv a) m' := by
  subst hs
  obtain ⟨m1, e1, a1, k1, n1⟩ := hA.st hw 0 [iv (a + n : Nat)]
  have a1 : At m1 A ty_int true [iv (a + n : Nat)] := a1
  refine ⟨m1, a1, k1, n1, ?_⟩
  have t1 : (a : Int) + (n : Int) = ((a + n : Nat) : Int) := by omega
  have t2 : ((a + n : Nat) : Int) - (n : Int) = (a : Int) := by omega
  refine WpF.go at_g4 ?_
  simp -implicitDefEqProofs only [o_g4, r_g4_0, r_g4_1, r_g4_2, hA.rd, b_add ty_int (show -9223372036854775808 ≤ (a : Int) + (n : Int) by omega) (show (a : Int) + (n : Int) ≤ 9223372036854775807 by omega), t1, e1, a1.rd, b_sub ty_int (show -9223372036854775808 ≤ ((a + n : Nat) : Int) - (n : Int) by omega) (show ((a + n : Nat) : Int) - (n : Int) ≤ 9223372036854775807 by omega), t2, ↓reduceIte, Nat.reduceEqDiff, Nat.reduceAdd, wA, wB, wC, wD]
theorem cv64 (m : M) : rConvI .u64 (.cst (iv 64)) .leaf m = some (.p (.int .u64 64), m) := rfl
set_option maxRecDepth 20000 in
set_option maxHeartbeats 1000000 in
theorem make_small (hw : Wf m) : ∃ m', Keep m m' (fun _ => False) ∧ Ran Tryz.prog tb fn_g3 [iv 64, iv 60, iv 6, iv 9] m (.tuple [.agg smallP, iv 0]) m' := by
  obtain ⟨m1, e1, a1, k1, n1⟩ := addZ_at hw ty_api_Plan 12 [(iv 0), (iv 0), (iv 0), (iv 0), (iv 0), (iv 0), (iv 0), (iv 0), (iv 0), (iv 0), (iv 0), (iv 0)]
  obtain ⟨m2, e2, a2, k2, n2⟩ := addZ_at k1.wf ty_api_Plan 12 [(iv 0), (iv 0), (iv 0), (iv 0), (iv 0), (iv 0), (iv 0), (iv 0), (iv 0), (iv 0), (iv 0), (iv 0)]
  obtain ⟨m3, e3, a3, k3, n3⟩ := a2.st k2.wf 0 [iv 64, iv 60, iv 6, iv 9, (iv 0), (iv 0), (iv 0), (iv 0), (iv 0), (iv 0), (iv 0), (iv 0)]
  have a3 : At m3 m1.next ty_api_Plan true [iv 64, iv 60, iv 6, iv 9, (iv 0), (iv 0), (iv 0), (iv 0), (iv 0), (iv 0), (iv 0), (iv 0)] := a3
  obtain ⟨m4, e4, a4, k4, n4⟩ := addZ_at k3.wf ty_int 1 [iv 0]
  obtain ⟨m5, e5, a5, k5, n5⟩ := a4.st k4.wf 0 [iv 2]
  have a5 : At m5 m3.next ty_int true [iv (2 : Nat)] := a5
  have p5 := (a3.keep k3.wf k4 fun h => h).keep k4.wf k5 (by omega)
  obtain ⟨m6, e6, p6, k6, n6⟩ := p5.st k5.wf 6 [iv 1]
  obtain ⟨m7, e7, p7, k7, n7⟩ := p6.st k6.wf 8 [iv 1]
  obtain ⟨m8, e8, p8, k8, n8⟩ := p7.st k7.wf 10 [iv 3]
  have p8 : At m8 m1.next ty_api_Plan true [iv 64, iv 60, iv 6, iv 9, iv 0, iv 0, iv 1, iv 0, iv 1, iv 0, iv 3, iv 0] := p8
  have a8 := ((a5.keep k5.wf k6 (by omega)).keep k6.wf k7 (by omega)).keep k7.wf k8 (by omega)
  obtain ⟨m9, a9, k9, n9, r9⟩ := take_ran (n := 9) (s := 11) k8.wf a8 rfl (by omega)
  have p9 := p8.keep k8.wf k9 (by omega)
  obtain ⟨m10, a10, k10, n10, r10⟩ := take_ran (n := 1) (s := 12) k9.wf a9 rfl (by omega)
  have p10 := p9.keep k9.wf k10 (by omega)
  obtain ⟨m11, a11, k11, n11, r11⟩ := take_ran (n := 1) (s := 13) k10.wf a10 rfl (by omega)
  have p11 := p10.keep k10.wf k11 (by omega)
  obtain ⟨m12, a12, k12, n12, r12⟩ := take_ran (n := 3) (s := 16) k11.wf a11 rfl (by omega)
  have p12 := p11.keep k11.wf k12 (by omega)
  obtain ⟨m13, e13, p13, k13, n13⟩ := p12.st k12.wf 4 [iv 2]
  obtain ⟨m14, e14, p14, k14, n14⟩ := p13.st k13.wf 5 [iv 11]
  obtain ⟨m15, e15, p15, k15, n15⟩ := p14.st k14.wf 7 [iv 12]
  obtain ⟨m16, e16, p16, k16, n16⟩ := p15.st k15.wf 9 [iv 13]
  have a16 := (((a12.keep k12.wf k13 (by omega)).keep k13.wf k14 (by omega)).keep k14.wf k15 (by omega)).keep k15.wf k16 (by omega)
  obtain ⟨m17, e17, p17, k17, n17⟩ := p16.st k16.wf 11 [iv 16]
  have p17 : At m17 m1.next ty_api_Plan true smallP := p17
  have q17 : m17.rdN m1.next 0 12 = some smallP := p17.rdN (i := 0) (n := 12) (Nat.le_refl 12)
  have g17 : m17.rd m1.next 11 = some (iv 16) := by rw [p17.rd]; rfl
  have K : Keep m1 m17 fun b => m1.next ≤ b := by
    have h := (((((((((((((((k2.mono (G := fun b => m1.next ≤ b) fun _ _ h => h.elim).trans k3 fun b hb e => by omega).trans k4 fun b hb e => e.elim).trans k5 fun b hb e => by omega).trans k6 fun b hb e => by omega).trans k7 fun b hb e => by omega).trans k8 fun b hb e => by omega).trans k9 fun b hb e => by omega).trans k10 fun b hb e => by omega).trans k11 fun b hb e => by omega).trans k12 fun b hb e => by omega).trans k13 fun b hb e => by omega).trans k14 fun b hb e => by omega).trans k15 fun b hb e => by omega).trans k16 fun b hb e => by omega).trans k17 fun b hb e => by omega
    exact h
  have r17 := a1.keep k1.wf K (by omega)
  obtain ⟨m18, e18, p18, k18, n18⟩ := r17.st k17.wf 0 smallP
  have q18 : m18.rdN m.next 0 12 = some smallP := p18.rdN (i := 0) (n := 12) (Nat.le_refl 12)
  refine ⟨m18, (k1.trans K fun b hb e => by omega).trans k18 fun b hb e => by omega, ?_⟩
  have w1 : Ran Tryz.prog tb fn_g6 [iv 64, iv 64, iv 4096] m1 (.b true) m1 := within_ran 64 64 4096
  have w2 : Ran Tryz.prog tb fn_g6 [iv 60, iv 1, iv 4096] m1 (.b true) m1 := within_ran 60 1 4096
  have w3 : Ran Tryz.prog tb fn_g6 [iv 6, iv 2, iv 1024] m1 (.b true) m1 := within_ran 6 2 1024
  have w4 : Ran Tryz.prog tb fn_g6 [iv 9, iv 4, iv 512] m1 (.b true) m1 := within_ran 9 4 512
  have s1 : Ran Tryz.prog tb fn_g5 [iv 6, iv 512] m5 (iv 1) m5 := share_ran (n := 6) (size := 512) (by omega) (by omega)
  have s2 : Ran Tryz.prog tb fn_g5 [iv 60, iv 512] m5 (iv 1) m5 := share_ran (n := 60) (size := 512) (by omega) (by omega)
  have s3 : Ran Tryz.prog tb fn_g5 [iv 192, iv 64] m5 (iv 3) m5 := share_ran (n := 192) (size := 64) (by omega) (by omega)
  have c9 : Ran Tryz.prog tb fn_g4 [iv 9, .ptr m3.next 0] m8 (iv 2) m9 := r9
  have c10 : Ran Tryz.prog tb fn_g4 [iv 1, .ptr m3.next 0] m9 (iv 11) m10 := r10
  have c11 : Ran Tryz.prog tb fn_g4 [iv 1, .ptr m3.next 0] m10 (iv 12) m11 := r11
  have c12 : Ran Tryz.prog tb fn_g4 [iv 3, .ptr m3.next 0] m11 (iv 13) m12 := r12
  have f1 : binS Tryz.prog .mul ty_int (iv 64) (iv 60) = some (iv 3840) := by rw [binS_iv]; rfl
  have f2 : binS Tryz.prog .mul ty_int (iv 8) (iv 64) = some (iv 512) := by rw [binS_iv]; rfl
  have f3 : binS Tryz.prog .mul ty_int (iv 6) (iv 32) = some (iv 192) := by rw [binS_iv]; rfl
  have g86 : m8.rd m1.next 6 = some (iv 1) := by rw [p8.rd]; rfl
  have g88 : m8.rd m1.next 8 = some (iv 1) := by rw [p8.rd]; rfl
  have g810 : m8.rd m1.next 10 = some (iv 3) := by rw [p8.rd]; rfl
  have g96 : m9.rd m1.next 6 = some (iv 1) := by rw [p9.rd]; rfl
  have g98 : m9.rd m1.next 8 = some (iv 1) := by rw [p9.rd]; rfl
  have g910 : m9.rd m1.next 10 = some (iv 3) := by rw [p9.rd]; rfl
  have g108 : m10.rd m1.next 8 = some (iv 1) := by rw [p10.rd]; rfl
  have g1010 : m10.rd m1.next 10 = some (iv 3) := by rw [p10.rd]; rfl
  have g1110 : m11.rd m1.next 10 = some (iv 3) := by rw [p11.rd]; rfl
  have g16 : m16.rd m3.next 0 = some (iv 16) := by rw [a16.rd]; rfl
  refine WpF.go at_g3 ?_
  simp -implicitDefEqProofs only [o_g3, r_g3_0, r_g3_1, r_g3_2, r_g3_3, r_g3_4, r_g3_6, r_g3_8, r_g3_9, r_g3_10, r_g3_11, r_g3_12, r_g3_13, r_g3_14, r_g3_16, e1, w1.eq, w2.eq, w3.eq, w4.eq, o_convI, cv64, ones_ran.eq, f1, show ((1048576 : Int) < 3840) = False from eq_false (by omega), e2, e3, e4, e5, f2, f3, s1.eq, s2.eq, s3.eq, e6, e7, e8, c9.eq, c10.eq, c11.eq, c12.eq, g86, g88, g810, g96, g98, g910, g108, g1010, g1110, e13, e14, e15, e16, g16, e17, g17, show ((60 : Int) ≤ 16) = False from eq_false (by omega), q17, e18, ↓reduceIte, Nat.reduceEqDiff, Nat.reduceAdd, Nat.reduceLeDiff, exists_eq_left', wA, wB, wC, wD]
  rw [FK_cellT (b := m.next) (off := 0) (n := 12) (l := smallP) (by kernel_rfl) (by kernel_rfl) (by simp -implicitDefEqProofs only [ev_tm, ↓reduceIte, Nat.reduceEqDiff]) q18]
  simp -implicitDefEqProofs only [ev_tm, ↓reduceIte, and_self]
end
section
variable {m : M}
theorem plan_same : binS Tryz.prog .neq ty_api_Plan (.agg smallP) (.agg smallP) = some (.b false) := by kernel_rfl
set_option maxRecDepth 20000 in
theorem check_small (hw : Wf m) : ∃ m', Keep m m' (fun _ => False) ∧ Ran Tryz.prog tb fn_g2 [.agg smallP] m (iv 0) m' := by
  obtain ⟨m1, e1, a1, k1, n1⟩ := addL_at hw ty_api_Plan 12 smallP
  obtain ⟨m2, k2, r2⟩ := make_small k1.wf
  obtain ⟨m3, e3, a3, k3, n3⟩ := addZ_at k2.wf ty_api_Plan 12 [(iv 0), (iv 0), (iv 0), (iv 0), (iv 0), (iv 0), (iv 0), (iv 0), (iv 0), (iv 0), (iv 0), (iv 0)]
  obtain ⟨m4, e4, a4, k4, n4⟩ := a3.st k3.wf 0 smallP
  have hn2 := k2.next
  have a14 := ((a1.keep k1.wf k2 fun h => h).keep k2.wf k3 fun h => h).keep k3.wf k4 (by omega)
  have q1 : m4.rdN m.next 0 12 = some smallP := a14.rdN (i := 0) (n := 12) (Nat.le_refl 12)
  have q4 : m4.rdN m2.next 0 12 = some smallP := a4.rdN (i := 0) (n := 12) (Nat.le_refl 12)
  refine ⟨m4, ((k1.tf k2).tf k3).trans k4 fun b hb e => by omega, ?_⟩
  refine WpF.go at_g2 ?_
  simp -implicitDefEqProofs only [o_g2, r_g2_0, r_g2_1, r_g2_2, r_g2_4, e1, a1.rd, r2.eq, e3, e4, q1, q4, plan_same, ↓reduceIte, Nat.reduceEqDiff, Nat.reduceAdd, wA, wB, wC, wD]
end
end Go.Proofs.YthbfinjddaembaaGreat
/- A log in memory, and its numbers. -/
namespace Go.Am
open Go Go.RowKit
theorem b_remN {P : Program} (t : TypeId) {a b : Nat} (h : 0 < b) (h2 : a ≤ 9223372036854775807) : binS P .rem t (iv (a : Int)) (iv (b : Int)) = some (iv ((a % b : Nat) : Int)) := by
  rw [binS_iv]
  show (if (b : Int) = 0 then none else some (iv ((a : Int).tmod (b : Int)))) = _
  rw [if_neg (by omega)]
  rfl
end Go.Am
namespace Go.Proofs.YthbfinjddaembaaGreat
open Go Go.Am
section
variable {m : M} {lg d mb : Nat} {seq tail used : Nat} {over : Bool}
abbrev LgAt (m : M) (lg d mb seq tail used : Nat) (over : Bool) : Prop := At m lg ty_wal_Log true ([.ptr d 0] ++ smallP ++ [iv seq, iv tail, iv used, .map mb, .b over])
theorem at_ran {k : Nat} (h : LgAt m lg d mb seq tail used over) (ht : tail ≤ 1000000) (hk : k ≤ 1000000) : Ran Tryz.prog tb fn_d1 [.ptr lg 0, iv k] m (iv (2 + (tail + k) % 9 : Nat)) m := by
  have g5 : m.rd lg 5 = some (iv 2) := by rw [h.rd]; rfl
  have g4 : m.rd lg 4 = some (iv 9) := by rw [h.rd]; rfl
  have g14 : m.rd lg 14 = some (iv tail) := by rw [h.rd]; rfl
  have t1 : (tail : Int) + (k : Int) = ((tail + k : Nat) : Int) := by omega
  have t2 : (2 : Int) + (((tail + k) % 9 : Nat) : Int) = ((2 + (tail + k) % 9 : Nat) : Int) := by omega
  have f1 : binS Tryz.prog .rem ty_int (iv ((tail + k : Nat) : Int)) (iv 9) = some (iv (((tail + k) % 9 : Nat) : Int)) := b_remN (b := 9) ty_int (by omega) (by omega)
  refine WpF.go at_d1 ?_
  simp -implicitDefEqProofs only [o_d1, r_d1_0, r_d1_1, g5, g4, g14, b_add ty_int (show -9223372036854775808 ≤ (tail : Int) + (k : Int) by omega) (show (tail : Int) + (k : Int) ≤ 9223372036854775807 by omega), t1, f1, b_add ty_int (show -9223372036854775808 ≤ (2 : Int) + (((tail + k) % 9 : Nat) : Int) by omega) (show (2 : Int) + (((tail + k) % 9 : Nat) : Int) ≤ 9223372036854775807 by omega), t2, ↓reduceIte, Nat.reduceEqDiff, Nat.reduceAdd, exists_eq_left', wA, wB, wC, wD]
theorem room_ran (h : LgAt m lg d mb seq tail used over) (hu : used ≤ 1000000) : Ran Tryz.prog tb fn_d0 [.ptr lg 0] m (iv (9 - (used : Int))) m := by
  have g4 : m.rd lg 4 = some (iv 9) := by rw [h.rd]; rfl
  have g15 : m.rd lg 15 = some (iv used) := by rw [h.rd]; rfl
  have f0 : binS Tryz.prog .eql ty_pwal_Log (.ptr lg 0) nilp = some (.b false) := by kernel_rfl
  refine WpF.go at_d0 ?_
  simp -implicitDefEqProofs only [o_d0, r_d0_0, r_d0_1, r_d0_3, f0, g4, g15, b_sub ty_int (show -9223372036854775808 ≤ (9 : Int) - (used : Int) by omega) (show (9 : Int) - (used : Int) ≤ 9223372036854775807 by omega), ↓reduceIte, Nat.reduceEqDiff, Nat.reduceAdd, exists_eq_left', wA, wB, wC, wD]
theorem most_ran (hw : Wf m) : ∃ m', Keep m m' (fun _ => False) ∧ Ran Tryz.prog tb fn_h3 [.agg smallP] m (iv 27) m' := by
  obtain ⟨m1, e1, a1, k1, n1⟩ := addL_at hw ty_api_Plan 12 smallP
  have g0 : m1.rd m.next 0 = some (iv 64) := by rw [a1.rd]; rfl
  have hq : binS Tryz.prog .quo ty_int (iv 54) (iv 2) = some (iv 27) := b_quo (a := 54) (b := 2) ty_int (by omega) (by omega)
  have t1 : (64 : Int) - 10 = 54 := rfl
  refine ⟨m1, k1, ?_⟩
  refine WpF.go at_h3 ?_
  simp -implicitDefEqProofs only [o_h3, r_h3_0, r_h3_1, e1, g0, b_sub ty_int (show -9223372036854775808 ≤ (64 : Int) - 10 by omega) (show (64 : Int) - 10 ≤ 9223372036854775807 by omega), t1, hq, ↓reduceIte, Nat.reduceEqDiff, Nat.reduceAdd, wA, wB, wC, wD]
end
section
variable {m : M} {lg d mb : Nat} {seq tail used : Nat} {over : Bool}
theorem plan_aq : aveq 40 (.agg smallP) (.agg smallP) = true := by kernel_rfl
theorem parts_ran {n : Nat} (hw : Wf m) (hn : n ≤ 1000000) : ∃ m', Keep m m' (fun _ => False) ∧ Ran Tryz.prog tb fn_h4 [.agg smallP, iv n] m (iv ((n + 27 - 1) / 27 : Nat)) m' := by
  obtain ⟨m1, e1, a1, k1, n1⟩ := addL_at hw ty_api_Plan 12 smallP
  obtain ⟨m2, k2, r2⟩ := most_ran k1.wf
  obtain ⟨m3, k3, r3⟩ := most_ran k2.wf
  have q1 : m1.rdN m.next 0 12 = some smallP := a1.rdN (i := 0) (n := 12) (Nat.le_refl 12)
  have a2 := a1.keep k1.wf k2 fun h => h
  have q2 : m2.rdN m.next 0 12 = some smallP := a2.rdN (i := 0) (n := 12) (Nat.le_refl 12)
  have q3 : m3.rdN m.next 0 12 = some smallP := (a2.keep k2.wf k3 fun h => h).rdN (i := 0) (n := 12) (Nat.le_refl 12)
  have t1 : (n : Int) + 27 = ((n + 27 : Nat) : Int) := by omega
  have t2 : ((n + 27 : Nat) : Int) - 1 = ((n + 27 - 1 : Nat) : Int) := by omega
  have f1 : binS Tryz.prog .quo ty_int (iv ((n + 27 - 1 : Nat) : Int)) (iv 27) = some (iv (((n + 27 - 1) / 27 : Nat) : Int)) := b_quo (b := 27) ty_int (by omega) (by omega)
  refine ⟨m3, (k1.tf k2).tf k3, ?_⟩
  refine WpF.go at_h4 ?_
  simp -implicitDefEqProofs only [o_h4, r_h4_0, r_h4_1, e1, q1, r2.eq, b_add ty_int (show -9223372036854775808 ≤ (n : Int) + 27 by omega) (show (n : Int) + 27 ≤ 9223372036854775807 by omega), t1, b_sub ty_int (show -9223372036854775808 ≤ ((n + 27 : Nat) : Int) - 1 by omega) (show ((n + 27 : Nat) : Int) - 1 ≤ 9223372036854775807 by omega), t2, q2, r3.eq, f1, plan_aq, ↓reduceIte, Nat.reduceEqDiff, Nat.reduceAdd, exists_eq_left', wA, wB, wC, wD]
theorem need_ran {n : Nat} (hw : Wf m) (hn : n ≤ 4096) : ∃ m', Keep m m' (fun _ => False) ∧ Ran Tryz.prog tb fn_h0 [.agg smallP, iv n] m (.tuple [iv (n + (n + 27 - 1) / 27 : Nat), iv 0]) m' := by
  obtain ⟨m1, e1, a1, k1, n1⟩ := addL_at hw ty_api_Plan 12 smallP
  obtain ⟨m2, k2, r2⟩ := check_small k1.wf
  obtain ⟨m3, k3, r3⟩ := parts_ran (n := n) k2.wf (by omega)
  have q1 : m1.rdN m.next 0 12 = some smallP := a1.rdN (i := 0) (n := 12) (Nat.le_refl 12)
  have a2 := a1.keep k1.wf k2 fun h => h
  have q2 : m2.rdN m.next 0 12 = some smallP := a2.rdN (i := 0) (n := 12) (Nat.le_refl 12)
  have t1 : (n : Int) + (((n + 27 - 1) / 27 : Nat) : Int) = ((n + (n + 27 - 1) / 27 : Nat) : Int) := by omega
  refine ⟨m3, (k1.tf k2).tf k3, ?_⟩
  refine WpF.go at_h0 ?_
  simp -implicitDefEqProofs only [o_h0, r_h0_0, r_h0_1, r_h0_3, r_h0_5, e1, q1, r2.eq, show ((n : Int) < 0) = False from eq_false (by omega), show ((4096 : Int) < (n : Int)) = False from eq_false (by omega), q2, r3.eq, b_add ty_int (show -9223372036854775808 ≤ (n : Int) + (((n + 27 - 1) / 27 : Nat) : Int) by omega) (show (n : Int) + (((n + 27 - 1) / 27 : Nat) : Int) ≤ 9223372036854775807 by omega), t1, ↓reduceIte, Nat.reduceEqDiff, Nat.reduceAdd, wA, wB, wC, wD]
theorem fit_ran {cb : Nat} {D : Dv} (hw : Wf m) (h : DvAt m d cb D) (hD : D.L.length = 60) : ∃ m', Keep m m' (fun _ => False) ∧ Ran Tryz.prog tb fn_h2 [.ptr d 0, .agg smallP] m (iv 0) m' := by
  obtain ⟨m1, e1, a1, k1, n1⟩ := addL_at hw ty_api_Plan 12 smallP
  obtain ⟨m2, k2, r2⟩ := check_small k1.wf
  have q1 : m1.rdN m.next 0 12 = some smallP := a1.rdN (i := 0) (n := 12) (Nat.le_refl 12)
  have a2 := a1.keep k1.wf k2 fun h => h
  have g0 : m2.rd m.next 0 = some (iv 64) := by rw [a2.rd]; rfl
  have g1 : m2.rd m.next 1 = some (iv 60) := by rw [a2.rd]; rfl
  have h2 := h.k0 hw (k1.tf k2)
  have rb := dblock h2
  have rc := dblocks h2
  rw [hD] at rc
  have rc : Ran Tryz.prog tb fn_b4 [.ptr d 0] m2 (iv 60) m2 := rc
  have f0 : binS Tryz.prog .eql ty_pdevice_Device (.ptr d 0) nilp = some (.b false) := by kernel_rfl
  refine ⟨m2, k1.tf k2, ?_⟩
  refine WpF.go at_h2 ?_
  simp -implicitDefEqProofs only [o_h2, r_h2_0, r_h2_1, r_h2_3, r_h2_5, e1, f0, q1, r2.eq, rb.eq, g0, rc.eq, g1, plan_aq, ↓reduceIte, Nat.reduceEqDiff, Nat.reduceAdd, exists_eq_left', wA, wB, wC, wD]
end
section
variable {m : M} {d cb : Nat} {D : Dv}
theorem format_spec {c : Cw} (hw : Wf m) (h : DvAt m d cb D) (hD : D.L.length = 60) (hdead : D.dead = false) (hfu : D.fused = false) (hf : -100000000 ≤ D.fuse) (hf2 : D.fuse ≤ 9223372036854775807) (hx1 : 0 ≤ D.writes) (hx2 : D.writes ≤ 100000000)
    (hc : D.L[1]? = some c) (hl : ∀ c ∈ D.L, c.wl.length < 400) {Q : AV → M → Prop}
    (hQ : ∀ m' c' nx, m.next ≤ nx → c.Push nx c' (hdrB 1 0 0) → DvAt m' d cb { D with L := (D.L.set 1 c').map Cw.fl, fuse := D.fuse - 1 - 1, writes := D.writes + 1 + 1 } → KeepK m m' devK → Q (iv 0) m') : WpF Tryz.prog tb fn_g9 [.ptr d 0, .agg smallP] m Q := by
  obtain ⟨m1, e1, a1, k1, n1⟩ := addL_at hw ty_api_Plan 12 smallP
  obtain ⟨m2, k2, r2⟩ := fit_ran k1.wf (h.k0 hw k1) hD
  have q1 : m1.rdN m.next 0 12 = some smallP := a1.rdN (i := 0) (n := 12) (Nat.le_refl 12)
  have g0 : m2.rd m.next 0 = some (iv 64) := by rw [(a1.keep k1.wf k2 fun h => h).rd]; rfl
  obtain ⟨m3, s, b, rb, k3, hb, r3⟩ := header (seq := 1) (tail := 0) (used := 0) k2.wf (by decide) (by decide) (by decide)
  have k13 := (k1.tf k2).tf k3
  have rb' : BtU m3 s (hdrB 1 0 0) b := ⟨rb.bs, rb.sl.kd⟩
  obtain ⟨m4, c', hp, h4, k4, r4⟩ := dwrite_ok k3.wf (h.k0 hw k13) (by unfold Dv.dies; rw [hdead, hfu]; rfl) (by omega) hf2 hx1 (by omega) hc (hl c (List.mem_of_getElem? hc)) (bu_of rb') (hdrB_len 1 0 0)
  have c3 : Ran Tryz.prog tb fn_e0 [.agg [iv 1, iv 0, iv 0], iv 64] m2 (.tuple [s, iv 0]) m3 := r3
  have c4 : Ran Tryz.prog tb fn_c0 [.ptr d 0, iv 1, s] m3 (iv 0) m4 := r4
  refine WpF.go at_g9 ?_
  simp -implicitDefEqProofs only [o_g9, r_g9_0, r_g9_1, r_g9_2, r_g9_4, r_g9_5, r_g9_6, r_g9_8, e1, q1, r2.eq, g0, c3.eq, c4.eq, ↓reduceIte, Nat.reduceEqDiff, Nat.reduceAdd, Nat.reduceLeDiff, wA, wB, wC, wD]
  refine dflush_ok k4.wf h4 (by unfold Dv.dies; show (D.dead || (D.fused && _)) = false; rw [hdead, hfu]; rfl) (by show -1000000000 ≤ D.fuse - 1; omega) (by show D.fuse - 1 ≤ _; omega) (by show 0 ≤ D.writes + 1; omega) (by show D.writes + 1 ≤ _; omega) (by show (D.L.set 1 c').length ≤ _; rw [List.length_set]; omega) (fun e he => ?_) fun m5 h5 k5 => ?_
  · rcases List.mem_or_eq_of_mem_set he with he | rfl
    · have := hl e he; omega
    · obtain ⟨s', b', e1, _⟩ := hp.wl
      have h2 := hl c (List.mem_of_getElem? hc)
      rw [e1, List.length_append]
      show c.wl.length + 1 ≤ _
      omega
  · simp -implicitDefEqProofs only [↓reduceIte, wA, wB, wC, wD]
    have hn := k13.next
    exact hQ m5 c' m3.next hn hp h5 ((k13.k0.tk k4).tk k5)
end
end Go.Proofs.YthbfinjddaembaaGreat
