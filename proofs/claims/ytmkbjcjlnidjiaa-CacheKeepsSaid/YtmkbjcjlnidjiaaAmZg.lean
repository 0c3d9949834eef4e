import Derived.Test.YtmkbjcjlnidjiaaAmZf
/- The abstract machine: functions that range over a function, where values are not known. -/
namespace Go.Am
open Go Go.RowKit
section
variable {P : Program} {T : Tb}
/-- A round of a loop over a function. -/
def WpY (P : Program) (T : Tb) (l : Nat) (args : List AV) (m : M) (Q : AV → M → Prop) : Prop := ∃ N v m', (∀ n, N ≤ n → ayield (aexec P T n) l args m = some (v, m')) ∧ Q v m'
theorem WpO_yv {d : Option (List Bool)} {f : RO} {l : Nat} {args : List RO} {r : List CO} {fr : Fr} {m : M} {Q : Fr → M → Prop} (hf : ev f fr = .yield l) (h : WpY P T l (evs args fr) m fun v m1 => WpO P T r (putD d v fr) m1 Q) : WpO P T (.call d none f args :: r) fr m Q := by
  obtain ⟨N, v, m1, h1, h2⟩ := h
  obtain ⟨N2, f2, m2, h3, h4⟩ := h2
  refine ⟨max N N2, f2, m2, fun n hn => ?_, h4⟩
  have e : runOps (cfN P T n) (.call d none f args :: r) fr m = nextOp d (runOps (cfN P T n) r) fr (callV (cfN P T n) (ev f fr) (evs args fr) m) := rfl
  rw [e, hf]
  show nextOp d _ fr (ayield (aexec P T n) l (evs args fr) m) = _
  rw [h1 n (by omega)]
  exact h3 n (by omega)
theorem run_reg {id : Nat} {ops : Array Oper} {fr : Fr} {m : M} {ds : List Nat} {ar : Option Nat} {Q : Fr → M → Prop} (h : WpO P T (cOpers P ops.toList ops.toList) fr m Q) :
    ∃ N fr' m', (∀ n, N ≤ n → aexec P T n (.c (.region id ops false)) ⟨fr, m, ds, ar⟩ = some (.normal, ⟨fr', m', ds, ar⟩)) ∧ Q fr' m' := by
  obtain ⟨N, f, m', h1, h2⟩ := h
  refine ⟨N + 1, f, m', up (fun n => rfl) (fun n hn => ?_), h2⟩
  show (ob (runOps (cfN P T n) _ fr m) fun q => some (X.normal, St.mk q.1 q.2 ds ar)) = _
  rw [h1 n hn]; rfl
theorem run_blk {bi id : Nat} {ops : Array Oper} {fr : Fr} {m : M} {ds : List Nat} {ar : Option Nat} {Q : Fr → M → Prop} (h : WpO P T (cOpers P ops.toList ops.toList) fr m Q) :
    ∃ N fr' m', (∀ n, N ≤ n → aexec P T n (.c (.block bi (.region id ops false))) ⟨fr, m, ds, ar⟩ = some (.normal, ⟨fr', m', ds, ar⟩)) ∧ Q fr' m' := by
  obtain ⟨N, f, m', h1, h2⟩ := run_reg (id := id) (ds := ds) (ar := ar) h
  refine ⟨N + 1, f, m', up (fun n => rfl) (fun n hn => ?_), h2⟩
  show onExit bi (aexec P T n (.c (.region id ops false)) ⟨fr, m, ds, ar⟩) = _
  rw [h1 n hn]; rfl
theorem WpY.of {l : Nat} {L : ALoop} {args : List AV} {m : M} {Q : AV → M → Prop} (hL : m.loop l = some L) (hn : args.length = L.params.length) {i1 bi i2 : Nat} {o1 o2 : Array Oper} (ha : L.assign = .region i1 o1 false) (hb : L.body = .block bi (.region i2 o2 false))
    (h : WpO P T (cOpers P o1.toList o1.toList) (setPs L.params args L.fr) m fun fr1 m1 => ∃ L1, m1.loop l = some L1 ∧ L1.st = 0 ∧
      WpO P T (cOpers P o2.toList o2.toList) fr1 (m1.put l (.obj (.loop { L1 with st := 1 }))) fun _ m2 => ∃ L2, m2.loop l = some L2 ∧ Q (.b true) (m2.put l (.obj (.loop { L2 with st := 0, pend := none })))) : WpY P T l args m Q := by
  obtain ⟨N1, f1, m1, k1, L1, hL1, h0, h2⟩ := run_reg (id := i1) (ds := []) (ar := some l) h
  obtain ⟨N2, f2, m2, k2, L2, hL2, hQ⟩ := run_blk (bi := bi) (id := i2) (ds := []) (ar := some l) h2
  refine ⟨max N1 N2, _, _, fun n hn' => ?_, hQ⟩
  unfold ayield
  rw [hL]
  show bc (Nat.beq args.length L.params.length) (ob (aexec P T n (.c L.assign) ⟨setPs L.params args L.fr, m, [], some l⟩) _) none = _
  rw [hn, Nat.beq_refl, bc_true, ha, k1 n (by omega)]
  show (ob (m1.loop l) fun L1 => bc (Nat.beq L1.st 0) (ob (aexec P T n (.c L.body) ⟨f1, m1.put l (.obj (.loop { L1 with st := 1 })), [], some l⟩) _) none) = _
  rw [hL1]
  show bc (Nat.beq L1.st 0) (ob (aexec P T n (.c L.body) ⟨f1, m1.put l (.obj (.loop { L1 with st := 1 })), [], some l⟩) _) none = _
  rw [h0, Nat.beq_refl, bc_true, hb, k2 n (by omega)]
  show (ob (m2.loop l) fun L2 => some (AV.b true, m2.put l (.obj (.loop { L2 with st := 0, pend := none })))) = _
  rw [hL2]; rfl
/-- A function that makes ready, ranges over a function, and tells what came of it. -/
theorem WpF_range {g : FuncId} {fn : Func} (hf : getP (pth g) T.fs = some fn) {args : List AV} {m : M} (hit : T.it g args m = none) {i0 i1 i4 id : Nat} {o0 o1 o4 : Array Oper} {f : Operand} {ps : Array Tmp} {as bd : Code}
    (hbd : fn.body = some (.seq (.region i0 o0 false) (.seq (.seq (.region i1 o1 false) (.block id (.rangeFunc f ps as bd))) (.seq (.region i4 o4 false) .ret))))
    (hs : slotsB fn.ntmps (.seq (.region i0 o0 false) (.seq (.seq (.region i1 o1 false) (.block id (.rangeFunc f ps as bd))) (.seq (.region i4 o4 false) .ret))) = true) (hn : Nat.ble args.length fn.ntmps = true) {rs : List ResultVar} (hr : fn.results.toList = rs) {Q : AV → M → Prop}
    (h : WpO P T (cOpers P o0.toList o0.toList) (fillP args (nat_lit 0) .leaf) m fun fr0 m0 => WpO P T (cOpers P o1.toList o1.toList) fr0 m0 fun fr1 m1 =>
      ∃ h caps, ev (cO f) fr1 = .func h caps ∧ WpF P T h (.yield (m1.new (.obj (.dfr true))).next :: caps) ((m1.new (.obj (.dfr true))).new (.obj (.loop ⟨0, none, fr1, ps.toList, as, bd, m1.next⟩))) fun _ m2 =>
        ∃ L, m2.loop (m1.new (.obj (.dfr true))).next = some L ∧ L.st = 0 ∧ L.pend = none ∧
          WpO P T (cOpers P o4.toList o4.toList) fr1 (m2.put (m1.new (.obj (.dfr true))).next (.obj (.loop { L with st := 3 }))) fun fr3 m3 =>
            m3.dfr m1.next = some true ∧ ∃ l, ares P ⟨fr3, m3.put m1.next (.obj (.dfr false)), [], none⟩ rs = some l ∧ Q (one l) (m3.put m1.next (.obj (.dfr false)))) : WpF P T g args m Q := by
  obtain ⟨N0, fr0, m0, k0, h⟩ := run_reg (id := i0) (ds := []) (ar := none) h
  obtain ⟨N1, fr1, m1, k1, hh, caps, hev, hF⟩ := run_reg (id := i1) (ds := []) (ar := none) h
  obtain ⟨N2, v2, m2, k2, L, hL, hst, hpd, h4⟩ := hF
  obtain ⟨N3, fr3, m3, k3, hd, l, hl, hQ⟩ := run_reg (id := i4) (ds := [m1.next]) (ar := none) h4
  subst hr
  refine ⟨max (max N0 N1) (max N2 N3) + 5, one l, _, fun n hn' => ?_, hQ⟩
  obtain ⟨j, rfl⟩ : ∃ j, n = j + 5 := ⟨n - 5, by omega⟩
  have e2 : aexec P T (j + 2) (.c (.block id (.rangeFunc f ps as bd))) ⟨fr1, m1, [], none⟩ = some (.normal, ⟨fr1, m2.put (m1.new (.obj (.dfr true))).next (.obj (.loop { L with st := 3 })), [m1.next], none⟩) := by
    show onExit id (aexec P T (j + 1) (.c (.rangeFunc f ps as bd)) ⟨fr1, m1, [], none⟩) = _
    have e1 : aexec P T (j + 1) (.c (.rangeFunc f ps as bd)) ⟨fr1, m1, [], none⟩ = some (.normal, ⟨fr1, m2.put (m1.new (.obj (.dfr true))).next (.obj (.loop { L with st := 3 })), [m1.next], none⟩) := by
      show (ob (elFunc none (fun g caps => acallF P T (aexec P T j) g (.yield (m1.new (.obj (.dfr true))).next :: caps) ((m1.new (.obj (.dfr true))).new (.obj (.loop ⟨0, none, fr1, ps.toList, as, bd, m1.next⟩)))) (ev (cO f) fr1)) fun r =>
        ob (r.2.loop (m1.new (.obj (.dfr true))).next) fun L => bc (Nat.beq L.st 1) none (ob (jumpX L.pend) fun x => some (x, (⟨fr1, r.2.put (m1.new (.obj (.dfr true))).next (.obj (.loop { L with st := 3 })), [m1.next], none⟩ : St)))) = _
      rw [hev]
      show (ob (acallF P T (aexec P T j) hh (.yield (m1.new (.obj (.dfr true))).next :: caps) _) _) = _
      rw [k2 j (by omega)]
      show (ob (m2.loop (m1.new (.obj (.dfr true))).next) _) = _
      rw [hL]
      show bc (Nat.beq L.st 1) none (ob (jumpX L.pend) _) = _
      rw [hst, hpd]; rfl
    rw [e1]; rfl
  have e3 : aexec P T (j + 3) (.c (.seq (.region i1 o1 false) (.block id (.rangeFunc f ps as bd)))) ⟨fr0, m0, [], none⟩ = some (.normal, ⟨fr1, m2.put (m1.new (.obj (.dfr true))).next (.obj (.loop { L with st := 3 })), [m1.next], none⟩) := by
    show andThen (aexec P T (j + 2) (.c (.region i1 o1 false)) ⟨fr0, m0, [], none⟩) (aexec P T (j + 2) (.c (.block id (.rangeFunc f ps as bd)))) = _
    rw [k1 (j + 2) (by omega)]
    exact e2
  have e4 : aexec P T (j + 3) (.c (.seq (.region i4 o4 false) .ret)) ⟨fr1, m2.put (m1.new (.obj (.dfr true))).next (.obj (.loop { L with st := 3 })), [m1.next], none⟩ = some (.ret, ⟨fr3, m3, [m1.next], none⟩) := by
    show andThen (aexec P T (j + 2) (.c (.region i4 o4 false)) _) (aexec P T (j + 2) (.c .ret)) = _
    rw [k3 (j + 2) (by omega)]; rfl
  have e5 : aexec P T (j + 5) (.c (.seq (.region i0 o0 false) (.seq (.seq (.region i1 o1 false) (.block id (.rangeFunc f ps as bd))) (.seq (.region i4 o4 false) .ret)))) ⟨fillP args (nat_lit 0) .leaf, m, [], none⟩ = some (.ret, ⟨fr3, m3, [m1.next], none⟩) := by
    show andThen (aexec P T (j + 4) (.c (.region i0 o0 false)) _) (aexec P T (j + 4) (.c (.seq _ _))) = _
    rw [k0 (j + 4) (by omega)]
    show andThen (aexec P T (j + 3) (.c (.seq (.region i1 o1 false) (.block id (.rangeFunc f ps as bd)))) ⟨fr0, m0, [], none⟩) (aexec P T (j + 3) (.c (.seq (.region i4 o4 false) .ret))) = _
    rw [e3]
    exact e4
  unfold acallF
  rw [hf]
  show Option.rec (motive := fun _ => R) _ (fun r => r) (T.it g args m) = _
  rw [hit]
  show Option.rec (motive := fun _ => R) _ _ fn.body = _
  rw [hbd]
  show bc (slotsB fn.ntmps _ && Nat.ble args.length fn.ntmps) _ none = _
  rw [hs, hn]
  show (ob (isEnd (aexec P T (j + 5) (.c (.seq (.region i0 o0 false) (.seq (.seq (.region i1 o1 false) (.block id (.rangeFunc f ps as bd))) (.seq (.region i4 o4 false) .ret)))) ⟨fillP args (nat_lit 0) .leaf, m, [], none⟩)) _) = _
  rw [e5]
  show (ob (ob (m3.dfr m1.next) fun op => bc op (closeDs [] (m3.put m1.next (.obj (.dfr false)))) none) fun m2 => ob (ares P ⟨fr3, m2, [], none⟩ fn.results.toList) fun l => some (one l, m2)) = _
  rw [hd]
  show (ob (ares P ⟨fr3, m3.put m1.next (.obj (.dfr false)), [], none⟩ fn.results.toList) fun l => some (one l, m3.put m1.next (.obj (.dfr false)))) = _
  rw [hl]; rfl
/-! ### Objects -/
theorem loop_get {m : M} {b : Nat} {L : ALoop} (h : m.get b = some (.obj (.loop L))) : m.loop b = some L := by
  show ob (m.get b) _ = _
  rw [h]; rfl
theorem dfr_get {m : M} {b : Nat} {c : Bool} (h : m.get b = some (.obj (.dfr c))) : m.dfr b = some c := by
  show ob (m.get b) _ = _
  rw [h]; rfl
theorem Keep.put {m : M} (hw : Wf m) {b : Nat} (hlt : b < m.next) {x : Blk} {F : Nat → Prop} (hb : F b) : Keep m (m.put b x) F :=
  ⟨Nat.le_refl _, fun b' hb' => by rw [M.get_put, if_neg (by have : m.next ≤ b' := hb'; omega)]; exact hw b' hb', fun b' _ hf => by rw [M.get_put, if_neg (fun e : b' = b => hf (by rw [e]; exact hb))]⟩
theorem Keep.new {m : M} (hw : Wf m) {B : Blk} {F : Nat → Prop} : Keep m (m.new B) F := ⟨by rw [M.next_new]; omega, hw.new, fun b hb _ => M.get_new_ne (by omega)⟩
end
end Go.Am
