import Derived.Test.YthbfinjddaembaaGreatWe
import Derived.Test.YthbfinjddaembaaGreatAmRf
set_option linter.unusedVariables false
set_option linter.unusedSimpArgs false
/- field.Get: the number of bytes. -/
namespace Go.Am
open Go Go.RowKit
def ge : List UInt8 → Nat
  | [] => 0
  | x :: l => x.toNat + 256 * ge l
theorem ge_lt : ∀ l, ge l < 256 ^ l.length
  | [] => by decide
  | x :: l => by
    have h1 := ge_lt l
    have h2 := x.toNat_lt
    show x.toNat + 256 * ge l < 256 ^ (l.length + 1)
    rw [Nat.pow_succ]
    omega
theorem ge_drop {l : List UInt8} {k : Nat} {z : UInt8} (h : l[k]? = some z) : ge (l.drop k) = ge (l.drop (k + 1)) * 256 + z.toNat := by
  obtain ⟨hk, e⟩ := List.getElem?_eq_some_iff.1 h
  rw [List.drop_eq_getElem_cons hk, e]
  show z.toNat + 256 * _ = _
  omega
section
variable {P : Program} {T : Tb} {m : M}
theorem WpY.mono {l : Nat} {args : List AV} {Q Q' : AV → M → Prop} (h : WpY P T l args m Q) (k : ∀ v m', Q v m' → Q' v m') : WpY P T l args m Q' := by
  obtain ⟨N, v, m', h1, h2⟩ := h
  exact ⟨N, v, m', h1, k _ _ h2⟩
theorem b_shl8 (t : TypeId) {a : Nat} (h : a ≤ 1000000000000) : binS P .shl t (iv (a : Int)) (.p (.int .u64 8)) = some (iv ((a * 256 : Nat) : Int)) := by
  unfold binS
  rw [toI_iv]
  show (if (8 : Int) < 0 then none else some (ofI .i64 (IntKind.i64.wrap ((a : Int) * 2 ^ min (8 : Int).toNat 64)))) = _
  rw [if_neg (by omega), show min (8 : Int).toNat 64 = 8 from rfl, IntWalk.i64_in _ (by omega)]
  show some (iv ((a : Int) * 2 ^ 8)) = _
  congr 2
theorem b_or8 (t : TypeId) {a c : Nat} (h : a ≤ 1000000000000) (hc : c < 256) : binS P .or t (iv ((a * 256 : Nat) : Int)) (iv (c : Int)) = some (iv ((a * 256 + c : Nat) : Int)) := by
  rw [binS_iv]
  show some (ofI .i64 (IntKind.i64.wrap ((BitVec.ofInt 64 ((a * 256 : Nat) : Int) ||| BitVec.ofInt 64 (c : Int)).toNat : Int))) = _
  rw [BitVec.ofInt_natCast, BitVec.ofInt_natCast, BitVec.toNat_or, BitVec.toNat_ofNat, BitVec.toNat_ofNat, Nat.mod_eq_of_lt (by omega), Nat.mod_eq_of_lt (by omega)]
  have e : a * 256 ||| c = a * 256 + c := by
    have := Nat.shiftLeft_add_eq_or_of_lt (i := 8) hc a
    rw [Nat.shiftLeft_eq] at this
    exact this.symm
  rw [e, IntWalk.i64_in _ (by omega)]
  rfl
theorem u_toI (x : UInt8) : rConvI .i64 (.cst (.y x.toNat)) .leaf m = some (iv (x.toNat : Int), m) := by
  show some (ofI .i64 (IntKind.i64.wrap ((x.toNat : Nat) : Int)), m) = _
  have := x.toNat_lt
  rw [IntWalk.i64_in _ (by omega)]; rfl
end
end Go.Am
namespace Go.Proofs.YthbfinjddaembaaGreat
open Go Go.Am
section
variable {m : M}
theorem _root_.Go.Am.BsAt.get {s : AV} {l : Bs} {b : Nat} (h : BsAt m s l b) {k : Nat} {z : UInt8} (hz : l[k]? = some z) : ∃ off cap lim, s = .slice b off l.length cap lim ∧ m.rd b (off + k) = some (.y z.toNat) := by
  have hlt := (List.getElem?_eq_some_iff.1 hz).1
  cases h with
  | @row _ off cap lim _ cells hh hl' hc =>
    refine ⟨off, cap, lim, rfl, ?_⟩
    rw [hh.rd]
    have : ((cells.drop off).take l.length)[k]? = some (AV.y z.toNat) := by rw [hc]; unfold ycells; rw [List.getElem?_map, hz]; rfl
    rwa [List.getElem?_take_of_lt hlt, List.getElem?_drop] at this
set_option maxRecDepth 20000 in
theorem back1 {l B b : Nat} {s : AV} {p : Bs} (hp : p.length ≤ 1000000) (I : Nat → M → Prop) (hI : ∀ k mk, I k mk → At mk B ty_suint8 true [s] ∧ BsAt mk s p b)
    (hY : ∀ k mk z, p[k]? = some z → I (k + 1) mk → WpY Tryz.prog tb l [iv k, .y z.toNat] mk fun v m' => v = .b true ∧ I k m') (h0 : I p.length m) : WpF Tryz.prog tb fn_a1 [.yield l, .ptr B 0] m fun _ m' => I 0 m' := by
  obtain ⟨hB, hS⟩ := hI _ _ h0
  refine WpF.go at_a1 ?_
  simp -implicitDefEqProofs only [o_a1, r_a1_0, hB.rd, hS.len, b_sub ty_int (show -9223372036854775808 ≤ (p.length : Int) - 1 by omega) (show (p.length : Int) - 1 ≤ 9223372036854775807 by omega), ↓reduceIte, Nat.reduceAdd, wA, wB, wC, wD]
  refine GX_loop (fun j fr mk => ∃ k, k ≤ p.length ∧ j = k ∧ (ev (tm 0) fr = .yield l ∧ ev (tm 1) fr = .ptr B 0 ∧ ev (tm 3) fr = iv ((k : Int) - 1)) ∧ I k mk) (k := p.length) ⟨p.length, Nat.le_refl _, rfl, by simp -implicitDefEqProofs only [ev_tm, ↓reduceIte, Nat.reduceEqDiff, and_self], h0⟩ ?_
  rintro j fr mk ⟨k, hk, rfl, ⟨e0, e1, e3⟩, hIk⟩
  obtain ⟨hBk, hSk⟩ := hI _ _ hIk
  cases j with
  | zero =>
    simp -implicitDefEqProofs only [o_a1, r_a1_1, e3, show ((0 : Int) ≤ 0 - 1) = False from eq_false (by omega), ↓reduceIte, wA, wB, wC, wD]
    exact hIk
  | succ k =>
    have hz : p[k]? = some p[k] := List.getElem?_eq_getElem (by omega)
    generalize p[k] = z at hz
    obtain ⟨off, cap, lim, hse, hr⟩ := hSk.get hz
    have hE : ((k + 1 : Nat) : Int) - 1 = (k : Int) := by omega
    rw [hE] at e3
    have hBr : mk.rd B 0 = some s := by rw [hBk.rd]; rfl
    rw [hse] at hBr
    simp -implicitDefEqProofs only [o_a1, r_a1_1, r_a1_3, e0, e1, e3, show ((0 : Int) ≤ (k : Int)) = True from eq_true (by omega), hBr, v_iaS 1 b off p.length cap lim (show k < p.length by omega), Nat.mul_one, hr, ↓reduceIte, Nat.reduceEqDiff, wA, wB, wC, wD]
    refine (hY k mk z hz hIk).mono ?_
    rintro v m' ⟨rfl, hI'⟩
    simp -implicitDefEqProofs only [o_a1, r_a1_2, e3, b_sub ty_int (show -9223372036854775808 ≤ (k : Int) - 1 by omega) (show (k : Int) - 1 ≤ 9223372036854775807 by omega), ↓reduceIte, Nat.reduceEqDiff, wA, wB, wC, wD]
    exact LK_n (k' := k) (by omega) ⟨k, by omega, rfl, by simp -implicitDefEqProofs only [e0, e1, ev_tm, ↓reduceIte, Nat.reduceEqDiff, and_self], hI'⟩
theorem back_ran {s : AV} (hw : Wf m) (hs : cellsO s = some [s]) : ∃ m', m.addL ty_suint8 1 [s] = m' ∧ At m' m.next ty_suint8 true [s] ∧ Keep m m' (fun _ => False) ∧ m'.next = m.next + 1 ∧ Ran Tryz.prog tb fn_a0 [s] m (.func fn_a1 [.ptr m.next 0]) m' := by
  obtain ⟨m1, e1, a1, k1, n1⟩ := addL_at hw ty_suint8 1 [s]
  refine ⟨m1, e1, a1, k1, n1, ?_⟩
  refine WpF.go at_a0 ?_
  simp -implicitDefEqProofs only [o_a0, r_a0_0, r_a0_1, hs, e1, ↓reduceIte, Nat.reduceEqDiff, wA, wB, wC, wD]
end
noncomputable def gG : Code := bodyOf (Tryz.prog.funcs[143]?)
noncomputable def gQ : Code := sL (sR (sR (sR gG)))
noncomputable def gR : Code := bB (sR gQ)
noncomputable def gBody : Code := .seq (sL gG) (.seq (sL (sR gG)) (.seq (sL (sR (sR gG))) (.seq (.seq (sL gQ) (.block 0 (.rangeFunc (rF gR) (rPs gR) (rAs gR) (rBd gR)))) (sR (sR (sR (sR gG)))))))
theorem gG_eq : Tryz.f143.body = some gBody := by kernel_rfl
theorem gSl : slotsB Tryz.f143.ntmps gBody = true := by kernel_rfl
theorem gc0 : comp Tryz.prog (sL gG) = .reg r_f0_0 := by kernel_rfl
theorem gc1 : comp Tryz.prog (sL (sR gG)) = .reg r_f0_1 := by kernel_rfl
theorem gc2 : comp Tryz.prog (sL (sR (sR gG))) = .reg r_f0_2 := by kernel_rfl
theorem gc3 : comp Tryz.prog (sL gQ) = .reg r_f0_3 := by kernel_rfl
theorem gc6 : comp Tryz.prog (sR (sR (sR (sR gG)))) = .seq (.reg r_f0_6) .ret := by kernel_rfl
theorem gF : cO (rF gR) = tm 21 := by kernel_rfl
theorem gP : (rPs gR).toList = [22, 23] := by kernel_rfl
theorem gA : comp Tryz.prog (rAs gR) = .reg r_f0_4 := by kernel_rfl
theorem gB : comp Tryz.prog (rBd gR) = .block 1 (.reg r_f0_5) := by kernel_rfl
section
variable {m : M}
theorem _root_.Go.Am.BsAt.sub {b off n cap : Nat} {lim : Bool} {l : Bs} (h : BsAt m (.slice b off n cap lim) l b) {at' w cap' : Nat} {lim' : Bool} (hw : at' + w ≤ l.length) : BsAt m (.slice b (off + at') w cap' lim') ((l.drop at').take w) b := by
  cases h with
  | @row _ _ _ _ _ cells hh hl hc =>
    have hlen : ((l.drop at').take w).length = w := by rw [List.length_take, List.length_drop]; omega
    have := BsAt.row (m := m) (b := b) (off := off + at') (cap := cap') (lim := lim') (l := (l.drop at').take w) hh (by rw [hlen]; omega) (by
      rw [hlen]
      have h1 : ycells ((l.drop at').take w) = ((ycells l).drop at').take w := by unfold ycells; rw [List.map_take, List.map_drop]
      rw [h1, ← hc, List.drop_take, List.take_take, List.drop_drop, Nat.min_eq_left (by omega)])
    rwa [hlen] at this
set_option maxRecDepth 20000 in
theorem get_range {m3 : M} {V B b : Nat} {s : AV} {p : Bs} {fr : Fr} (hw : Wf m3) (hV : At m3 V ty_int true [iv 0]) (hB : At m3 B ty_suint8 true [s]) (hS : BsAt m3 s p b) (hbV : b ≠ V) (hp : p.length ≤ 1000000) (hpw : ∀ k, ge (p.drop k) ≤ 1000000000000)
    (e10 : ev (tm 10) fr = .ptr V 0) (e21 : ev (tm 21) fr = .func fn_a1 [.ptr B 0]) :
    WpS Tryz.prog tb (.rangeFunc (rF gR) (rPs gR) (rAs gR) (rBd gR)) [] none fr m3 fun x f mm d => x = .normal ∧ f = fr ∧ d = [m3.next] ∧ At mm V ty_int true [iv (ge p : Nat)] ∧ Keep m3 mm (fun b => b = V) ∧ mm.get m3.next = some (.obj (.dfr true)) ∧ m3.next < mm.next := by
  have hBV : B ≠ V := fun e => by subst e; exact absurd (hB.kd.inj hV.kd) (by decide)
  have hVlt := hV.kd.lt hw
  refine WpS.range (h := fn_a1) (caps := [.ptr B 0]) (by rw [gF]; exact e21) ?_
  have k1 : Keep m3 (m3.new (.obj (.dfr true))) (fun _ => False) := Keep.new hw
  have n1 : (m3.new (.obj (.dfr true))).next = m3.next + 1 := M.next_new _ _
  have g1 : (m3.new (.obj (.dfr true))).get m3.next = some (.obj (.dfr true)) := by rw [M.get_new, if_pos rfl]
  generalize m3.new (.obj (.dfr true)) = m4 at k1 n1 g1 ⊢
  obtain ⟨L0, hL0⟩ : ∃ L0 : ALoop, L0 = ⟨0, none, fr, (rPs gR).toList, rAs gR, rBd gR, m3.next⟩ := ⟨_, rfl⟩
  rw [← hL0]
  have hst : L0.st = 0 := by rw [hL0]
  have hpd : L0.pend = none := by rw [hL0]
  have hfr : L0.fr = fr := by rw [hL0]
  have hps : L0.params = [22, 23] := by rw [hL0]; exact gP
  have has : comp Tryz.prog L0.assign = .reg r_f0_4 := by rw [hL0]; exact gA
  have hbd : comp Tryz.prog L0.body = .block 1 (.reg r_f0_5) := by rw [hL0]; exact gB
  clear hL0
  have k2 : Keep m4 (m4.new (.obj (.loop L0))) (fun _ => False) := Keep.new k1.wf
  have n2 : (m4.new (.obj (.loop L0))).next = m4.next + 1 := M.next_new _ _
  have g2 : (m4.new (.obj (.loop L0))).get m4.next = some (.obj (.loop L0)) := by rw [M.get_new, if_pos rfl]
  generalize m4.new (.obj (.loop L0)) = m5 at k2 n2 g2 ⊢
  have g15 : m5.get m3.next = some (.obj (.dfr true)) := (k2.get _ (by omega) fun h => h).trans g1
  have bk := back1 (m := m5) (l := m4.next) (B := B) (b := b) (s := s) (p := p) hp
    (fun k mk => Keep m3 mk (fun b => b = V) ∧ At mk V ty_int true [iv (ge (p.drop k) : Nat)] ∧ mk.get m3.next = some (.obj (.dfr true)) ∧ mk.get m4.next = some (.obj (.loop L0)) ∧ m4.next < mk.next)
    (fun k mk h => ⟨hB.keep hw h.1 hBV, hS.keep hw h.1 hbV⟩)
    (fun k mk z hz h => by
      obtain ⟨hk, hv, hd, hl, hnx⟩ := h
      have hwk := hk.wf
      refine WpY.code (loop_get hl) (by rw [hps]; rfl) has hbd ?_
      rw [hps, hfr]
      show GX Tryz.prog tb (.reg r_f0_4) _ (fset 23 (.y z.toNat) (fset 22 (iv k) fr)) mk
      simp -implicitDefEqProofs only [r_f0_4, ↓reduceIte, wA, wB, wC, wD]
      refine ⟨L0, loop_get hl, hst, ?_⟩
      have kp : Keep mk (mk.put m4.next (.obj (.loop { L0 with st := 1 }))) (fun b => b = m4.next) := Keep.put hwk hnx rfl
      have np : (mk.put m4.next (.obj (.loop { L0 with st := 1 }))).next = mk.next := M.next_put ..
      have gp : (mk.put m4.next (.obj (.loop { L0 with st := 1 }))).get m4.next = some (.obj (.loop { L0 with st := 1 })) := by rw [M.get_put, if_pos rfl]
      have hvp := hv.keep hwk kp (by omega)
      have hdp := (kp.get _ (show m3.next < mk.next by omega) (by omega)).trans hd
      generalize mk.put m4.next (.obj (.loop { L0 with st := 1 })) = mp at kp np gp hvp hdp ⊢
      obtain ⟨mq, eq, aq, kq, nq⟩ := hvp.st kp.wf 0 [iv ((ge (p.drop (k + 1)) * 256 + z.toNat : Nat) : Int)]
      rw [← ge_drop hz] at aq
      have hzl := z.toNat_lt
      simp -implicitDefEqProofs only [r_f0_5, e10, hvp.rd, o_slow, b_shl8 ty_int (hpw (k + 1)), o_convI, u_toI, b_or8 ty_int (hpw (k + 1)) (show z.toNat < 256 by omega), eq, ↓reduceIte, Nat.reduceEqDiff, wA, wB, wC, wD]
      have glq := (kq.get m4.next (by omega) (by omega)).trans gp
      have gdq := (kq.get m3.next (by omega) (by omega)).trans hdp
      refine ⟨{ L0 with st := 1 }, loop_get glq, rfl, ?_⟩
      have kz : Keep mq (mq.put m4.next (.obj (.loop L0))) (fun b => b = m4.next) := Keep.put kq.wf (by omega) rfl
      have hfin : ({ ({ L0 with st := 1 } : ALoop) with st := bc (jumpOf .normal).isNone 0 2, pend := jumpOf .normal } : ALoop) = L0 := by
        show ({ L0 with st := 0, pend := none } : ALoop) = L0
        rw [← hst, ← hpd]
      rw [hfin]
      refine ⟨((hk.trans kp fun b hb e => by omega).trans kq fun b hb e => e).trans kz fun b hb e => by omega, aq.keep kq.wf kz (by omega), (kz.get _ (by omega) (by omega)).trans gdq, by rw [M.get_put, if_pos rfl], ?_⟩
      have := M.next_put mq m4.next (.obj (.loop L0))
      omega)
    ⟨((k1.trans k2 fun _ _ h => h).mono fun _ _ h => h.elim), by
      have e : ge (p.drop p.length) = 0 := by rw [List.drop_length]; rfl
      rw [e]
      exact (hV.keep hw k1 (fun h => h)).keep k1.wf k2 fun h => h, g15, g2, by omega⟩
  refine bk.mono ?_
  rintro v m6 ⟨hk, hv, hd, hl, hnx⟩
  have kz : Keep m6 (m6.put m4.next (.obj (.loop { L0 with st := 3 }))) (fun b => b = m4.next) := Keep.put hk.wf hnx rfl
  have nz := M.next_put m6 m4.next (.obj (.loop { L0 with st := 3 }))
  refine ⟨L0, .normal, loop_get hl, by rw [hst]; decide, by rw [hpd]; rfl, rfl, rfl, rfl, hv.keep hk.wf kz (by omega), hk.trans kz fun b hb e => by omega, (kz.get _ (by omega) (by omega)).trans hd, by omega⟩
set_option maxRecDepth 20000 in
theorem get_ran {b off n cap : Nat} {lim : Bool} {l : Bs} {at' w : Nat} (hw : Wf m) (h : BsAt m (.slice b off n cap lim) l b) (hn : n = l.length) (hcap : n ≤ cap) (hl : n ≤ 1000000) (hwd : w = 1 ∨ w = 2 ∨ w = 4) (hat : at' + w ≤ n) :
    ∃ m', Keep m m' (fun _ => False) ∧ Ran Tryz.prog tb fn_f0 [.slice b off n cap lim, iv at', iv w] m (.tuple [iv (ge ((l.drop at').take w) : Nat), iv 0]) m' := by
  have hnum := number_ran (m := m) (b := b) (off := off) (lim := lim) hwd hat hcap (by omega)
  obtain ⟨m1, e1, a1, k1, n1⟩ := addZ_at hw ty_int 1 [iv 0]
  obtain ⟨m2, e2, a2, k2, n2⟩ := a1.st k1.wf 0 [iv 0]
  have k02 : Keep m m2 fun _ => False := k1.trans k2 fun b hb e => by omega
  obtain ⟨m3, e3, a3, k3, n3, r3⟩ := back_ran (s := .slice b (off + at') w (cap - at') lim) k02.wf rfl
  have k03 := k02.ft k3
  have hp := (h.sub (cap' := cap - at') (lim' := lim) (at' := at') (w := w) (by omega)).keep hw k03 fun h => h
  have hpl : ((l.drop at').take w).length = w := by rw [List.length_take, List.length_drop]; omega
  generalize (l.drop at').take w = p at hp hpl
  have a23 := a2.keep k02.wf k3 fun h => h
  have hpw : ∀ k, ge (p.drop k) ≤ 1000000000000 := fun k => by
    have h1 := ge_lt (p.drop k)
    have h2 : (p.drop k).length ≤ 4 := by rw [List.length_drop]; omega
    have h3 : 256 ^ (p.drop k).length ≤ 256 ^ 4 := Nat.pow_le_pow_right (by omega) h2
    omega
  have key : WpF Tryz.prog tb fn_f0 [.slice b off n cap lim, iv at', iv w] m fun v m' => v = .tuple [iv (ge p : Nat), iv 0] ∧ Keep m m' (fun _ => False) := by
    refine WpF.body (tab_get Tryz.func143) gG_eq gSl rfl rfl rfl ?_
    refine WpS.seq (WpS.code gc0 ?_)
    simp -implicitDefEqProofs only [r_f0_0, Nat.reduceAdd, wA, wB, wC, wD]
    refine WpS.seq (WpS.code gc1 ?_)
    simp -implicitDefEqProofs only [r_f0_1, hnum.eq, ↓reduceIte, Nat.reduceEqDiff, wA, wB, wC, wD]
    refine WpS.seq (WpS.code gc2 ?_)
    simp -implicitDefEqProofs only [r_f0_2, e1, e2, ↓reduceIte, wA, wB, wC, wD]
    refine WpS.seq (WpS.seq (WpS.code gc3 ?_))
    simp -implicitDefEqProofs only [r_f0_3, r3.eq, ↓reduceIte, Nat.reduceEqDiff, wA, wB, wC, wD]
    have hlt := h.lt hw
    refine WpS.block ((get_range (V := m.next) (B := m2.next) (b := b) (s := .slice b (off + at') w (cap - at') lim) (p := p) k3.wf a23 a3 hp (by omega) (by omega) hpw (by simp -implicitDefEqProofs only [ev_tm, ↓reduceIte, Nat.reduceEqDiff]) (by simp -implicitDefEqProofs only [ev_tm, ↓reduceIte])).mono ?_)
    rintro x f mm d ⟨rfl, rfl, rfl, hv, hk, hd, hnx⟩
    refine WpS.code gc6 ?_
    simp -implicitDefEqProofs only [r_f0_6, hv.rd, ↓reduceIte, Nat.reduceEqDiff, wA, wB, wC, wD]
    refine ⟨.inr trivial, mm.put m3.next (.obj (.dfr false)), ?_, _, ares2, ?_⟩
    · show (ob (mm.dfr m3.next) fun op => bc op (closeDs [] (mm.put m3.next (.obj (.dfr false)))) none) = _
      rw [dfr_get hd]; rfl
    · simp -implicitDefEqProofs only [ev_tm, one_2, ↓reduceIte, Nat.reduceEqDiff, true_and]
      have hn3 := k03.next
      exact (k03.trans hk fun b hb e => by omega).trans (Keep.put hk.wf hnx rfl) fun b hb e => by omega
  obtain ⟨v, m', ⟨rfl, kf⟩, r⟩ := key.ran
  exact ⟨m', kf, r⟩
end
end Go.Proofs.YthbfinjddaembaaGreat
/- A whole block of what was written; a log's header. -/
namespace Go.Am
open Go Go.RowKit
section
variable {P : Program} {m : M} {fr : Fr}
theorem o_mark (ts : TypeId → Option Nat) (x : RO) : run (.mark ts x) fr m = rMark ts (.cst (ev x fr)) .leaf m := rfl
theorem v_mark {ts : TypeId → Option Nat} {b off len cap : Nat} {lim : Bool} {e n : Nat} {l : List AV} {xt : Bool} (h : At m b e xt l) (hw : Wf m) (ht : ts e = some n) :
    ∃ m', rMark ts (.cst (.slice b off len cap lim)) .leaf m = some (.slice b off len cap lim, m') ∧ At m' b e false l ∧ Keep m m' (fun x => x = b) ∧ m'.next = m.next := by
  obtain ⟨c, h1, h2, h3, h4, h5, h6, h7⟩ := h.row
  refine ⟨m.put b (.cells ⟨c.elem, c.n, c.cs, c.zero, c.mv, c.dirty, false, c.ro⟩), ?_, ⟨⟨c.elem, c.n, c.cs, c.zero, c.mv, c.dirty, false, c.ro⟩, by rw [M.get_put, if_pos rfl], h2, h3, h4, h5, rfl, fun i v hv => (cel_rd rfl rfl i).trans (h7 i v hv)⟩, Keep.put hw (h.lt hw) rfl, M.next_put ..⟩
  show (ob (m.cel b) fun c => bc ((c.mv.isNone && !c.ro) && (ts c.elem).isSome) (some (AV.slice b off len cap lim, m.put b (.cells ⟨c.elem, c.n, c.cs, c.zero, c.mv, c.dirty, false, c.ro⟩))) none) = _
  rw [M.cel_some.2 h1]
  show bc ((c.mv.isNone && !c.ro) && (ts c.elem).isSome) _ none = _
  rw [h4, h5, h2, ht]; rfl
end
end Go.Am
namespace Go.Proofs.YthbfinjddaembaaGreat
open Go Go.Am
section
variable {m0 m : M} {c : Nat}
structure RowB (m : M) (s : AV) (l : Bs) (b : Nat) : Prop where
  sl : SlAt m ty_uint8 1 s l.length (ycells l) (some b)
theorem RowB.shape {s : AV} {l : Bs} {b : Nat} (h : RowB m s l b) : ∃ cap, s = .slice b 0 l.length cap false ∧ l.length ≤ cap := by
  have h := h.sl
  generalize ycells l = ys at h
  generalize l.length = n at h
  cases h with
  | row h hl hj hc h0 => exact ⟨_, rfl, hc⟩
theorem RowB.bs {s : AV} {l : Bs} {b : Nat} (h : RowB m s l b) : BsAt m s l b := by
  have hl : (ycells l).length = l.length := by simp [ycells]
  obtain ⟨cap, rfl, _⟩ := h.shape
  have h := h.sl
  generalize hy : ycells l = ys at h hl
  cases h with
  | row h hl' hj hc h0 => exact .row h.r (by rw [List.length_append, hl]; omega) (by rw [List.drop_zero, hy, List.take_append_of_le_length (by omega), List.take_of_length_le (by omega)])
theorem RowB.keep {s : AV} {l : Bs} {b : Nat} {m' : M} {F : Nat → Prop} (h : RowB m s l b) (hw : Wf m) (k : Keep m m' F) (hf : ¬ F b) : RowB m' s l b := ⟨h.sl.keep hw k fun x hx => by cases hx; exact hf⟩
variable {bs : Bs}
theorem ycells_zero (n : Nat) : ycells (List.replicate n (0 : UInt8)) = List.replicate n (.y 0) := ycells_rep n 0
set_option maxRecDepth 20000 in
theorem whole {n : Nat} (h : WrAt m0 m c bs) (h0 : 0 < n) (hb : bs.length ≤ n) (hn : n ≤ 100000) :
    ∃ m' s b, RowB m' s (bs ++ List.replicate (n - bs.length) 0) b ∧ Keep m0 m' (fun _ => False) ∧ m0.next ≤ b ∧ Ran Tryz.prog tb fn_b2 [.ptr c 0, iv n] m (.tuple [s, iv 0]) m' := by
  obtain ⟨x, o, h1, h2, h3⟩ := h.ex
  have hw := h.kp.wf
  obtain ⟨s, m1, o1, e1, hs, k1, ho⟩ := h2.appz (bytes := 1) hw (k := n - bs.length) rfl (by omega)
  have hob : ∃ b, o1 = some b ∧ m0.next ≤ b := by
    rcases ho with e | ⟨b, e, h4, _⟩
    · cases ho1 : o1 with
      | none =>
        rw [ho1] at hs
        have : bs.length + (n - bs.length) = 0 := by
          generalize bs.length + (n - bs.length) = q at hs ⊢
          generalize ycells bs ++ List.replicate (n - bs.length) (AV.y 0) = ys at hs
          cases hs; rfl
        omega
      | some b => exact ⟨b, rfl, h3 b (by rw [← e, ho1])⟩
    · have := h.kp.next
      exact ⟨b, e, by omega⟩
  obtain ⟨b, rfl, hb0⟩ := hob
  refine ⟨m1, s, b, ⟨?_⟩, h.kp.trans k1 (fun x hx e => absurd (h3 x e) (by omega)), hb0, ?_⟩
  · rw [List.length_append, List.length_replicate, ycells_app, ycells_zero]
    exact hs
  have hC : (n : Int) - (bs.length : Int) = ((n - bs.length : Nat) : Int) := by omega
  have hr0 : m.rd c 0 = some x := by rw [h1.rd]; rfl
  have hr1 : m.rd c 1 = some (iv 0) := by rw [h1.rd]; rfl
  refine WpF.go at_b2 ?_
  simp -implicitDefEqProofs only [o_b2, r_b2_0, r_b2_1, r_b2_3, hr0, hr1, h2.len, h2.aq, b_sub ty_int (show -9223372036854775808 ≤ (n : Int) - (bs.length : Int) by omega) (show (n : Int) - (bs.length : Int) ≤ 9223372036854775807 by omega), hC, o_appz, e1, ↓reduceIte, Nat.reduceEqDiff, Nat.reduceAdd, exists_eq_left', wA, wB, wC, wD]
theorem WrAt.row (h : WrAt m0 m c bs) (h0 : bs ≠ []) : ∃ x b, At m c ty_codec_writer true [x, iv 0] ∧ RowB m x bs b := by
  obtain ⟨x, o, h1, h2, h3⟩ := h.ex
  cases o with
  | some b => exact ⟨x, b, h1, ⟨h2⟩⟩
  | none =>
    have hl : bs.length = 0 := by
      generalize ycells bs = ys at h2
      generalize bs.length = q at h2 ⊢
      cases h2; rfl
    exact absurd (List.length_eq_zero_iff.1 hl) h0
def hdrA (seq tail used : Nat) : Bs := ([83, 76, 79, 71] ++ le 4 seq) ++ les 2 [tail, used]
def hdrB (seq tail used : Nat) : Bs := (hdrA seq tail used ++ le 4 (crc (hdrA seq tail used))) ++ List.replicate 48 0
theorem hdrA_len (seq tail used : Nat) : (hdrA seq tail used).length = 12 := by simp [hdrA, le_len, les_len]
theorem hdrB_len (seq tail used : Nat) : (hdrB seq tail used).length = 64 := by simp [hdrB, hdrA_len, le_len]
theorem bsize64 : Ran Tryz.prog tb fn_e3 [iv 64] m (.b true) m := by
  refine WpF.go at_e3 ?_
  have e : binS Tryz.prog .and ty_int (iv 64) (iv 63) = some (iv 0) := by rw [binS_iv]; rfl
  have e1 : ((64 : Int) - 1) = 63 := rfl
  simp -implicitDefEqProofs only [o_e3, r_e3_0, r_e3_1, show ((64 : Int) ≤ 64) = True from eq_true (by omega), show ((64 : Int) ≤ 4096) = True from eq_true (by omega), b_sub ty_int (show -9223372036854775808 ≤ (64 : Int) - 1 by omega) (show (64 : Int) - 1 ≤ 9223372036854775807 by omega), e1, o_and, e, ↓reduceIte, Nat.reduceEqDiff, wA, wB, wC, wD]
set_option maxRecDepth 20000 in
theorem header {seq tail used : Nat} (hw : Wf m) (h1 : seq < 2 ^ 32) (h2 : tail < 2 ^ 16) (h3 : used < 2 ^ 16) :
    ∃ m' s b, RowB m' s (hdrB seq tail used) b ∧ Keep m m' (fun _ => False) ∧ m.next ≤ b ∧ Ran Tryz.prog tb fn_e0 [.agg [iv seq, iv tail, iv used], iv 64] m (.tuple [s, iv 0]) m' := by
  obtain ⟨m1, e1, a1, k1, n1⟩ := addL_at hw ty_api_Header 3 [iv seq, iv tail, iv used]
  obtain ⟨m2, e2, a2, k2, n2⟩ := addL_at k1.wf ty_uint8 4 [.y 83, .y 76, .y 79, .y 71]
  obtain ⟨m3, e3, a3, k3, n3⟩ := v_mark (ts := tsize Tryz.prog) (off := 0) (len := 4) (cap := 4) (lim := false) (n := 1) a2 k2.wf (by kernel_rfl)
  obtain ⟨m4, e4, a4, k4, n4⟩ := addL_at k3.wf ty_codec_writer 2 [.slice m1.next 0 4 4 false, iv 0]
  have k13 : Keep m1 m3 fun _ => False := k2.trans k3 fun b hb e => by omega
  have k14 := k13.trans k4 fun _ _ h => h
  have k04 : Keep m m4 fun _ => False := k1.trans k14 fun _ _ h => h
  have w4 : WrAt m m4 m3.next [83, 76, 79, 71] := ⟨k04, by omega, _, some m1.next, a4, .row (junk := []) (a3.keep k3.wf k4 fun h => h) rfl rfl (Nat.le_refl _) (by decide), fun b hb => by cases hb; omega⟩
  have b4 := a1.keep k1.wf k14 fun h => h
  obtain ⟨m5, w5, k5, r5⟩ := cwn w4 (by decide) (w := 4) (by omega) (v := seq) (by simpa using h1)
  have b5 := b4.kp k04.wf k5
  obtain ⟨m6, e6, a6, k6, n6⟩ := addL_at w5.kp.wf ty_int 2 [iv tail, iv used]
  have w6 := w5.keep k6 fun _ h => h.elim
  have x6 : NsAt m6 (.slice m5.next 0 2 2 false) [tail, used] (some m5.next) := .row (junk := []) a6 rfl rfl (Nat.le_refl _) (by decide)
  obtain ⟨m7, w7, k7, r7⟩ := cwns w6 x6 (by simp [le_len]) (w := 2) (by omega) (by
    intro z hz
    simp only [List.mem_cons, List.not_mem_nil, or_false] at hz
    rcases hz with rfl | rfl <;> simpa using ‹_›)
  have w7 : WrAt m m7 m3.next (hdrA seq tail used) := w7
  obtain ⟨x, bx, c7, rb7⟩ := w7.row fun e => by have := hdrA_len seq tail used; rw [e] at this; simp at this
  obtain ⟨m8, k8, r8⟩ := csum w7.kp.wf rb7.bs (by rw [hdrA_len]; omega)
  have w8 := w7.keep k8 fun _ h => h.elim
  obtain ⟨m9, w9, k9, r9⟩ := cwn w8 (by rw [hdrA_len]; omega) (w := 4) (by omega) (v := crc (hdrA seq tail used)) (by simpa using crc_lt _)
  obtain ⟨m10, s, b, rb, kf, hb, r10⟩ := whole w9 (n := 64) (by omega) (by rw [List.length_append, hdrA_len, le_len]; omega) (by omega)
  have hle : 64 - (hdrA seq tail used ++ le 4 (crc (hdrA seq tail used))).length = 48 := by rw [List.length_append, hdrA_len, le_len]
  rw [hle] at rb
  refine ⟨m10, s, b, rb, kf, hb, ?_⟩
  have q4 : ((4 : Nat) : Int) = 4 := rfl
  have q2 : ((2 : Nat) : Int) = 2 := rfl
  have q64 : ((64 : Nat) : Int) = 64 := rfl
  rw [q4] at r5 r9
  rw [q2] at r7
  rw [q64] at r10
  have hc7 : m7.rd m3.next 0 = some x := by rw [c7.rd]; rfl
  have hrp : repl 4 [AV.y 0] = [.y 0, .y 0, .y 0, .y 0] := rfl
  refine WpF.go at_e0 ?_
  simp -implicitDefEqProofs only [o_e0, r_e0_0, r_e0_1, r_e0_3, r_e0_4, r_e0_5, r_e0_6, r_e0_7, hrp, e1, bsize64.eq, e2, o_mark, e3, e4, b4.rd, r5.eq, b5.rd, e6, r7.eq, hc7, r8.eq, r9.eq, r10.eq, ↓reduceIte, Nat.reduceEqDiff, Nat.reduceAdd, Nat.reduceLeDiff, wA, wB, wC, wD]
end
end Go.Proofs.YthbfinjddaembaaGreat
