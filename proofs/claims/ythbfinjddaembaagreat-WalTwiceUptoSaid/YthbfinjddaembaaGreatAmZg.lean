import Derived.Test.YthbfinjddaembaaGreatAmZf
/- The abstract machine: functions that range over a function, where values are not known. -/
namespace Go.Am
open Go Go.RowKit
section
variable {P : Program} {T : Tb}
/-- A round of a loop over a function. -/
def WpY (P : Program) (T : Tb) (l : Nat) (args : List AV) (m : M) (Q : AV → M → Prop) : Prop := ∃ N v m', (∀ n, N ≤ n → ayield (aexec P T n) l args m = some (v, m')) ∧ Q v m'
theorem WpO_yv {d : Option (List Bool)} {f : RO} {l : Nat} {args : List RO} {r : List CO} {fr : Fr} {m : M} {Q : Fr → M → Prop} (hf : ev f fr = .yield l) (h : WpY P T l (evs args fr) m fun v m1 => WpO P T r (putD d v fr) m1 Q) : WpO P T (.call d none f args :: r) fr m Q := by
  obtain ⟨N, v, m1, h1, h2⟩ := h
  obtain ⟨N2, f2, m2, h3, h4⟩ := h2
  refine ⟨max N N2, f2, m2, fun n hn => ?_, h4⟩
  have e : runOps (cfN P T n) (.call d none f args :: r) fr m = nextOp d (runOps (cfN P T n) r) fr (callV (cfN P T n) (ev f fr) (evs args fr) m) := rfl
  rw [e, hf]
  show nextOp d _ fr (ayield (aexec P T n) l (evs args fr) m) = _
  rw [h1 n (by omega)]
  exact h3 n (by omega)
theorem run_reg {id : Nat} {ops : Array Oper} {fr : Fr} {m : M} {ds : List Nat} {ar : Option Nat} {Q : Fr → M → Prop} (h : WpO P T (cOpers P ops.toList ops.toList) fr m Q) :
    ∃ N fr' m', (∀ n, N ≤ n → aexec P T n (.c (.region id ops false)) ⟨fr, m, ds, ar⟩ = some (.normal, ⟨fr', m', ds, ar⟩)) ∧ Q fr' m' := by
  obtain ⟨N, f, m', h1, h2⟩ := h
  refine ⟨N + 1, f, m', up (fun n => rfl) (fun n hn => ?_), h2⟩
  show (ob (runOps (cfN P T n) _ fr m) fun q => some (X.normal, St.mk q.1 q.2 ds ar)) = _
  rw [h1 n hn]; rfl
theorem run_blk {bi id : Nat} {ops : Array Oper} {fr : Fr} {m : M} {ds : List Nat} {ar : Option Nat} {Q : Fr → M → Prop} (h : WpO P T (cOpers P ops.toList ops.toList) fr m Q) :
    ∃ N fr' m', (∀ n, N ≤ n → aexec P T n (.c (.block bi (.region id ops false))) ⟨fr, m, ds, ar⟩ = some (.normal, ⟨fr', m', ds, ar⟩)) ∧ Q fr' m' := by
  obtain ⟨N, f, m', h1, h2⟩ := run_reg (id := id) (ds := ds) (ar := ar) h
  refine ⟨N + 1, f, m', up (fun n => rfl) (fun n hn => ?_), h2⟩
  show onExit bi (aexec P T n (.c (.region id ops false)) ⟨fr, m, ds, ar⟩) = _
  rw [h1 n hn]; rfl
theorem WpY.of {l : Nat} {L : ALoop} {args : List AV} {m : M} {Q : AV → M → Prop} (hL : m.loop l = some L) (hn : args.length = L.params.length) {i1 bi i2 : Nat} {o1 o2 : Array Oper} (ha : L.assign = .region i1 o1 false) (hb : L.body = .block bi (.region i2 o2 false))
    (h : WpO P T (cOpers P o1.toList o1.toList) (setPs L.params args L.fr) m fun fr1 m1 => ∃ L1, m1.loop l = some L1 ∧ L1.st = 0 ∧
      WpO P T (cOpers P o2.toList o2.toList) fr1 (m1.put l (.obj (.loop { L1 with st := 1 }))) fun _ m2 => ∃ L2, m2.loop l = some L2 ∧ Q (.b true) (m2.put l (.obj (.loop { L2 with st := 0, pend := none })))) : WpY P T l args m Q := by
  obtain ⟨N1, f1, m1, k1, L1, hL1, h0, h2⟩ := run_reg (id := i1) (ds := []) (ar := some l) h
  obtain ⟨N2, f2, m2, k2, L2, hL2, hQ⟩ := run_blk (bi := bi) (id := i2) (ds := []) (ar := some l) h2
  refine ⟨max N1 N2, _, _, fun n hn' => ?_, hQ⟩
  unfold ayield
  rw [hL]
  show bc (Nat.beq args.length L.params.length) (ob (aexec P T n (.c L.assign) ⟨setPs L.params args L.fr, m, [], some l⟩) _) none = _
  rw [hn, Nat.beq_refl, bc_true, ha, k1 n (by omega)]
  show (ob (m1.loop l) fun L1 => bc (Nat.beq L1.st 0) (ob (aexec P T n (.c L.body) ⟨f1, m1.put l (.obj (.loop { L1 with st := 1 })), [], some l⟩) _) none) = _
  rw [hL1]
  show bc (Nat.beq L1.st 0) (ob (aexec P T n (.c L.body) ⟨f1, m1.put l (.obj (.loop { L1 with st := 1 })), [], some l⟩) _) none = _
  rw [h0, Nat.beq_refl, bc_true, hb, k2 n (by omega)]
  show (ob (m2.loop l) fun L2 => some (AV.b true, m2.put l (.obj (.loop { L2 with st := 0, pend := none })))) = _
  rw [hL2]; rfl
/-! ### Objects -/
theorem loop_get {m : M} {b : Nat} {L : ALoop} (h : m.get b = some (.obj (.loop L))) : m.loop b = some L := by
  show ob (m.get b) _ = _
  rw [h]; rfl
theorem dfr_get {m : M} {b : Nat} {c : Bool} (h : m.get b = some (.obj (.dfr c))) : m.dfr b = some c := by
  show ob (m.get b) _ = _
  rw [h]; rfl
theorem Keep.put {m : M} (hw : Wf m) {b : Nat} (hlt : b < m.next) {x : Blk} {F : Nat → Prop} (hb : F b) : Keep m (m.put b x) F :=
  ⟨Nat.le_refl _, fun b' hb' => by rw [M.get_put, if_neg (by have : m.next ≤ b' := hb'; omega)]; exact hw b' hb', fun b' _ hf => by rw [M.get_put, if_neg (fun e : b' = b => hf (by rw [e]; exact hb))]⟩
theorem Keep.new {m : M} (hw : Wf m) {B : Blk} {F : Nat → Prop} : Keep m (m.new B) F := ⟨by rw [M.next_new]; omega, hw.new, fun b hb _ => M.get_new_ne (by omega)⟩
end
end Go.Am
