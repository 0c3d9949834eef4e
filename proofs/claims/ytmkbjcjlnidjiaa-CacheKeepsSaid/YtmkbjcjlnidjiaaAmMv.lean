import Derived.Test.YtmkbjcjlnidjiaaAmZb
import Derived.Test.YtmkbjcjlnidjiaaAmZg
import Derived.Test.YtmkbjcjlnidjiaaAmZf
/- The abstract machine: what comes of code, as it is computed by rewriting alone (GO: operations, GT: with a trace, GX: code). -/
namespace Go.Am
open Go Go.RowKit
section
variable {P : Program} {T : Tb}

/-! ### Operations -/
def GO (P : Program) (T : Tb) : List CO → (Fr → M → Prop) → Fr → M → Prop
  | [], Q, fr, m => Q fr m
  | .op d none o :: l, Q, fr, m => match run o fr m with
    | some (v, m1) => GO P T l Q (putD d v fr) m1
    | none => False
  | .op d (some (t, w)) o :: l, Q, fr, m => match wantV w (ev (.tmp t) fr) with
    | some true => match run o fr m with
      | some (v, m1) => GO P T l Q (putD d v fr) m1
      | none => False
    | some false => GO P T l Q (putD d AV.undef fr) m
    | none => False
  | .call d none f args :: l, Q, fr, m => match ev f fr with
    | .func g caps => WpF P T g (evs args fr ++ caps) m fun v m1 => GO P T l Q (putD d v fr) m1
    | .yield y => WpY P T y (evs args fr) m fun v m1 => GO P T l Q (putD d v fr) m1
    | _ => False
  | .call d (some (t, w)) f args :: l, Q, fr, m => match wantV w (ev (.tmp t) fr) with
    | some true => match f with
      | .cst (.func g []) => WpF P T g (evs args fr) m fun v m1 => GO P T l Q (putD d v fr) m1
      | _ => False
    | some false => match f with
      | .cst (.func _ []) => GO P T l Q (putD d AV.undef fr) m
      | _ => False
    | none => False
def GN (P : Program) (T : Tb) (r : R) (d : Option (List Bool)) (l : List CO) (Q : Fr → M → Prop) (fr : Fr) : Prop := match r with
  | some (v, m1) => GO P T l Q (putD d v fr) m1
  | none => False
def GG (P : Program) (T : Tb) (w : Option Bool) (o : OP) (d : Option (List Bool)) (l : List CO) (Q : Fr → M → Prop) (fr : Fr) (m : M) : Prop := match w with
  | some true => GN P T (run o fr m) d l Q fr
  | some false => GO P T l Q (putD d AV.undef fr) m
  | none => False
def CK (P : Program) (T : Tb) (d : Option (List Bool)) (l : List CO) (Q : Fr → M → Prop) (fr : Fr) (v : AV) (m : M) : Prop := GO P T l Q (putD d v fr) m
def GF (P : Program) (T : Tb) (f : AV) (args : List AV) (d : Option (List Bool)) (l : List CO) (Q : Fr → M → Prop) (fr : Fr) (m : M) : Prop := match f with
  | .func g caps => WpF P T g (args ++ caps) m (CK P T d l Q fr)
  | .yield y => WpY P T y args m (CK P T d l Q fr)
  | _ => False
def GFG (P : Program) (T : Tb) (w : Option Bool) (g : FuncId) (args : List AV) (d : Option (List Bool)) (l : List CO) (Q : Fr → M → Prop) (fr : Fr) (m : M) : Prop := match w with
  | some true => WpF P T g args m (CK P T d l Q fr)
  | some false => GO P T l Q (putD d AV.undef fr) m
  | none => False
theorem GO_nil {Q : Fr → M → Prop} {fr : Fr} {m : M} : GO P T [] Q fr m = Q fr m := rfl
theorem GO_op {d : Option (List Bool)} {o : OP} {l : List CO} {Q : Fr → M → Prop} {fr : Fr} {m : M} : GO P T (.op d none o :: l) Q fr m = GN P T (run o fr m) d l Q fr := rfl
theorem GO_opG {d : Option (List Bool)} {t : Nat} {w : Bool} {o : OP} {l : List CO} {Q : Fr → M → Prop} {fr : Fr} {m : M} : GO P T (.op d (some (pth t, w)) o :: l) Q fr m = GG P T (wantV w (ev (tm t) fr)) o d l Q fr m := rfl
theorem GO_call {d : Option (List Bool)} {f : RO} {args : List RO} {l : List CO} {Q : Fr → M → Prop} {fr : Fr} {m : M} : GO P T (.call d none f args :: l) Q fr m = GF P T (ev f fr) (evs args fr) d l Q fr m := rfl
theorem GO_callG {d : Option (List Bool)} {t : Nat} {w : Bool} {g : FuncId} {args : List RO} {l : List CO} {Q : Fr → M → Prop} {fr : Fr} {m : M} : GO P T (.call d (some (pth t, w)) (.cst (.func g [])) args :: l) Q fr m = GFG P T (wantV w (ev (tm t) fr)) g (evs args fr) d l Q fr m := rfl
theorem GN_some {v : AV} {m1 : M} {d : Option (List Bool)} {l : List CO} {Q : Fr → M → Prop} {fr : Fr} : GN P T (some (v, m1)) d l Q fr = GO P T l Q (putD d v fr) m1 := rfl
theorem GG_true {o : OP} {d : Option (List Bool)} {l : List CO} {Q : Fr → M → Prop} {fr : Fr} {m : M} : GG P T (some true) o d l Q fr m = GN P T (run o fr m) d l Q fr := rfl
theorem GG_false {o : OP} {d : Option (List Bool)} {l : List CO} {Q : Fr → M → Prop} {fr : Fr} {m : M} : GG P T (some false) o d l Q fr m = GO P T l Q (putD d AV.undef fr) m := rfl
theorem GF_func {g : FuncId} {caps args : List AV} {d : Option (List Bool)} {l : List CO} {Q : Fr → M → Prop} {fr : Fr} {m : M} : GF P T (.func g caps) args d l Q fr m = WpF P T g (args ++ caps) m (CK P T d l Q fr) := rfl
theorem GF_yield {y : Nat} {args : List AV} {d : Option (List Bool)} {l : List CO} {Q : Fr → M → Prop} {fr : Fr} {m : M} : GF P T (.yield y) args d l Q fr m = WpY P T y args m (CK P T d l Q fr) := rfl
theorem GFG_true {g : FuncId} {args : List AV} {d : Option (List Bool)} {l : List CO} {Q : Fr → M → Prop} {fr : Fr} {m : M} : GFG P T (some true) g args d l Q fr m = WpF P T g args m (CK P T d l Q fr) := rfl
theorem GFG_false {g : FuncId} {args : List AV} {d : Option (List Bool)} {l : List CO} {Q : Fr → M → Prop} {fr : Fr} {m : M} : GFG P T (some false) g args d l Q fr m = GO P T l Q (putD d AV.undef fr) m := rfl
theorem CK_app {d : Option (List Bool)} {l : List CO} {Q : Fr → M → Prop} {fr : Fr} {v : AV} {m : M} : CK P T d l Q fr v m = GO P T l Q (putD d v fr) m := rfl
theorem GO_ok : ∀ {l : List CO} {Q : Fr → M → Prop} {fr : Fr} {m : M}, GO P T l Q fr m → WpO P T l fr m Q
  | [], Q, fr, m, h => by rw [WpO_nil]; exact h
  | .op d none o :: l, Q, fr, m, h => by
    rw [WpO_op]
    have h : GN P T (run o fr m) d l Q fr := h
    unfold GN at h
    unfold WpON
    split at h
    · rename_i v m1 e
      rw [e]
      exact GO_ok h
    · exact h.elim
  | .op d (some (t, w)) o :: l, Q, fr, m, h => by
    have e : ∀ n, runOps (cfN P T n) (.op d (some (t, w)) o :: l) fr m = ob (wantV w (ev (.tmp t) fr)) fun t => bc t (nextOp d (runOps (cfN P T n) l) fr (run o fr m)) (runOps (cfN P T n) l (putD d AV.undef fr) m) := fun n => rfl
    have h : GG P T (wantV w (ev (.tmp t) fr)) o d l Q fr m := h
    unfold GG at h
    split at h
    · rename_i e1
      unfold GN at h
      split at h
      · rename_i v m1 e2
        obtain ⟨N, f, m', h1, h2⟩ := GO_ok h
        refine ⟨N, f, m', fun n hn => ?_, h2⟩
        rw [e, e1, e2]
        exact h1 n hn
      · exact h.elim
    · rename_i e1
      obtain ⟨N, f, m', h1, h2⟩ := GO_ok h
      refine ⟨N, f, m', fun n hn => ?_, h2⟩
      rw [e, e1]
      exact h1 n hn
    · exact h.elim
  | .call d none f args :: l, Q, fr, m, h => by
    have h : GF P T (ev f fr) (evs args fr) d l Q fr m := h
    unfold GF at h
    split at h
    · rename_i g caps e1
      exact WpO_fv e1 (WpOC.to (h.mono fun v m1 h => GO_ok h))
    · rename_i y e1
      obtain ⟨N, v, m1, h1, h2⟩ := h
      exact WpO_yv e1 ⟨N, v, m1, h1, GO_ok h2⟩
    · exact h.elim
  | .call d (some (t, w)) f args :: l, Q, fr, m, h => by
    have h : (match (generalizing := false) wantV w (ev (.tmp t) fr) with
      | some true => match (generalizing := false) f with
        | .cst (.func g []) => WpF P T g (evs args fr) m fun v m1 => GO P T l Q (putD d v fr) m1
        | _ => False
      | some false => match (generalizing := false) f with
        | .cst (.func _ []) => GO P T l Q (putD d AV.undef fr) m
        | _ => False
      | none => False) := h
    have e : ∀ g n, runOps (cfN P T n) (.call d (some (t, w)) (.cst (.func g [])) args :: l) fr m = ob (wantV w (ev (.tmp t) fr)) fun t => bc t (nextOp d (runOps (cfN P T n) l) fr (acallF P T (aexec P T n) g (evs args fr ++ []) m)) (runOps (cfN P T n) l (putD d AV.undef fr) m) := fun g n => rfl
    split at h
    · rename_i e1
      split at h
      · rename_i g
        obtain ⟨N, v, m1, h1, h2⟩ := h
        obtain ⟨N2, f, m', h3, h4⟩ := GO_ok h2
        refine ⟨max N N2, f, m', fun n hn => ?_, h4⟩
        rw [e, e1, List.append_nil, h1 n (by omega)]
        exact h3 n (by omega)
      · exact h.elim
    · rename_i e1
      split at h
      · rename_i g
        obtain ⟨N, f, m', h1, h2⟩ := GO_ok h
        refine ⟨N, f, m', fun n hn => ?_, h2⟩
        rw [e, e1]
        exact h1 n hn
      · exact h.elim
    · exact h.elim

/-! ### the same, with a trace -/
def GT (P : Program) (T : Tb) : List CO → (List T3 → Prop) → List T3 → Fr → M → Prop
  | [], Q, H, fr, m => Q (H ++ [⟨fr, m, AV.undef⟩])
  | .op d none o :: l, Q, H, fr, m => match run o fr m with
    | some (v, m1) => GT P T l Q (H ++ [⟨fr, m, v⟩]) (putD d v fr) m1
    | none => False
  | .op d (some (t, w)) o :: l, Q, H, fr, m => match wantV w (ev (.tmp t) fr) with
    | some true => match run o fr m with
      | some (v, m1) => GT P T l Q (H ++ [⟨fr, m, v⟩]) (putD d v fr) m1
      | none => False
    | some false => GT P T l Q (H ++ [⟨fr, m, AV.undef⟩]) (putD d AV.undef fr) m
    | none => False
  | .call d none f args :: l, Q, H, fr, m => match f with
    | .cst (.func g []) => WpF P T g (evs args fr) m fun v m1 => GT P T l Q (H ++ [⟨fr, m, v⟩]) (putD d v fr) m1
    | _ => False
  | .call d (some (t, w)) f args :: l, Q, H, fr, m => match wantV w (ev (.tmp t) fr) with
    | some true => match f with
      | .cst (.func g []) => WpF P T g (evs args fr) m fun v m1 => GT P T l Q (H ++ [⟨fr, m, v⟩]) (putD d v fr) m1
      | _ => False
    | some false => match f with
      | .cst (.func _ []) => GT P T l Q (H ++ [⟨fr, m, AV.undef⟩]) (putD d AV.undef fr) m
      | _ => False
    | none => False
def TN (P : Program) (T : Tb) (r : R) (d : Option (List Bool)) (l : List CO) (Q : List T3 → Prop) (H : List T3) (fr : Fr) (m : M) : Prop := match r with
  | some (v, m1) => GT P T l Q (H ++ [⟨fr, m, v⟩]) (putD d v fr) m1
  | none => False
def TG (P : Program) (T : Tb) (w : Option Bool) (o : OP) (d : Option (List Bool)) (l : List CO) (Q : List T3 → Prop) (H : List T3) (fr : Fr) (m : M) : Prop := match w with
  | some true => TN P T (run o fr m) d l Q H fr m
  | some false => GT P T l Q (H ++ [⟨fr, m, AV.undef⟩]) (putD d AV.undef fr) m
  | none => False
def TK (P : Program) (T : Tb) (d : Option (List Bool)) (l : List CO) (Q : List T3 → Prop) (H : List T3) (fr : Fr) (m : M) (v : AV) (m1 : M) : Prop := GT P T l Q (H ++ [⟨fr, m, v⟩]) (putD d v fr) m1
def TFG (P : Program) (T : Tb) (w : Option Bool) (g : FuncId) (args : List AV) (d : Option (List Bool)) (l : List CO) (Q : List T3 → Prop) (H : List T3) (fr : Fr) (m : M) : Prop := match w with
  | some true => WpF P T g args m (TK P T d l Q H fr m)
  | some false => GT P T l Q (H ++ [⟨fr, m, AV.undef⟩]) (putD d AV.undef fr) m
  | none => False
theorem GT_nil {Q : List T3 → Prop} {H : List T3} {fr : Fr} {m : M} : GT P T [] Q H fr m = Q (H ++ [⟨fr, m, AV.undef⟩]) := rfl
theorem GT_op {d : Option (List Bool)} {o : OP} {l : List CO} {Q : List T3 → Prop} {H : List T3} {fr : Fr} {m : M} : GT P T (.op d none o :: l) Q H fr m = TN P T (run o fr m) d l Q H fr m := rfl
theorem GT_opG {d : Option (List Bool)} {t : Nat} {w : Bool} {o : OP} {l : List CO} {Q : List T3 → Prop} {H : List T3} {fr : Fr} {m : M} : GT P T (.op d (some (pth t, w)) o :: l) Q H fr m = TG P T (wantV w (ev (tm t) fr)) o d l Q H fr m := rfl
theorem GT_call {d : Option (List Bool)} {g : FuncId} {args : List RO} {l : List CO} {Q : List T3 → Prop} {H : List T3} {fr : Fr} {m : M} : GT P T (.call d none (.cst (.func g [])) args :: l) Q H fr m = WpF P T g (evs args fr) m (TK P T d l Q H fr m) := rfl
theorem GT_callG {d : Option (List Bool)} {t : Nat} {w : Bool} {g : FuncId} {args : List RO} {l : List CO} {Q : List T3 → Prop} {H : List T3} {fr : Fr} {m : M} : GT P T (.call d (some (pth t, w)) (.cst (.func g [])) args :: l) Q H fr m = TFG P T (wantV w (ev (tm t) fr)) g (evs args fr) d l Q H fr m := rfl
theorem TN_some {v : AV} {m1 : M} {d : Option (List Bool)} {l : List CO} {Q : List T3 → Prop} {H : List T3} {fr : Fr} {m : M} : TN P T (some (v, m1)) d l Q H fr m = GT P T l Q (H ++ [⟨fr, m, v⟩]) (putD d v fr) m1 := rfl
theorem TG_true {o : OP} {d : Option (List Bool)} {l : List CO} {Q : List T3 → Prop} {H : List T3} {fr : Fr} {m : M} : TG P T (some true) o d l Q H fr m = TN P T (run o fr m) d l Q H fr m := rfl
theorem TG_false {o : OP} {d : Option (List Bool)} {l : List CO} {Q : List T3 → Prop} {H : List T3} {fr : Fr} {m : M} : TG P T (some false) o d l Q H fr m = GT P T l Q (H ++ [⟨fr, m, AV.undef⟩]) (putD d AV.undef fr) m := rfl
theorem TFG_true {g : FuncId} {args : List AV} {d : Option (List Bool)} {l : List CO} {Q : List T3 → Prop} {H : List T3} {fr : Fr} {m : M} : TFG P T (some true) g args d l Q H fr m = WpF P T g args m (TK P T d l Q H fr m) := rfl
theorem TFG_false {g : FuncId} {args : List AV} {d : Option (List Bool)} {l : List CO} {Q : List T3 → Prop} {H : List T3} {fr : Fr} {m : M} : TFG P T (some false) g args d l Q H fr m = GT P T l Q (H ++ [⟨fr, m, AV.undef⟩]) (putD d AV.undef fr) m := rfl
theorem TK_app {d : Option (List Bool)} {l : List CO} {Q : List T3 → Prop} {H : List T3} {fr : Fr} {m m1 : M} {v : AV} : TK P T d l Q H fr m v m1 = GT P T l Q (H ++ [⟨fr, m, v⟩]) (putD d v fr) m1 := rfl
theorem GT_ok : ∀ {l : List CO} {Q : List T3 → Prop} {H : List T3} {fr : Fr} {m : M}, GT P T l Q H fr m → WpT P T l fr m H Q
  | [], Q, H, fr, m, h => by rw [WpT_nil]; exact h
  | .op d none o :: l, Q, H, fr, m, h => by
    rw [WpT_op]
    have h : TN P T (run o fr m) d l Q H fr m := h
    unfold TN at h
    unfold WpTN
    split at h
    · rename_i v m1 e
      rw [e]
      exact GT_ok h
    · exact h.elim
  | .op d (some (t, w)) o :: l, Q, H, fr, m, h => by
    have e : ∀ n, trO (cfN P T n) (.op d (some (t, w)) o :: l) fr m = ob (ob (wantV w (ev (.tmp t) fr)) fun t => bc t (run o fr m) (some (AV.undef, m))) fun q => ob (trO (cfN P T n) l (putD d q.1 fr) q.2) fun t => some (⟨fr, m, q.1⟩ :: t) := fun n => rfl
    have h : TG P T (wantV w (ev (.tmp t) fr)) o d l Q H fr m := h
    unfold TG at h
    unfold WpT
    simp only [e]
    split at h
    · rename_i e1
      unfold TN at h
      split at h
      · rename_i v m1 e2
        rw [e1]
        simp only [ob, bc_true, e2]
        exact trStep.2 (GT_ok h)
      · exact h.elim
    · rename_i e1
      rw [e1]
      simp only [ob, bc_false]
      exact trStep.2 (GT_ok h)
    · exact h.elim
  | .call d none f args :: l, Q, H, fr, m, h => by
    have h : (match (generalizing := false) f with
      | .cst (.func g []) => WpF P T g (evs args fr) m fun v m1 => GT P T l Q (H ++ [⟨fr, m, v⟩]) (putD d v fr) m1
      | _ => False) := h
    split at h
    · rw [WpT_call]
      exact WpTC.to (h.mono fun v m1 h => GT_ok h)
    · exact h.elim
  | .call d (some (t, w)) f args :: l, Q, H, fr, m, h => by
    have h : (match (generalizing := false) wantV w (ev (.tmp t) fr) with
      | some true => match (generalizing := false) f with
        | .cst (.func g []) => WpF P T g (evs args fr) m fun v m1 => GT P T l Q (H ++ [⟨fr, m, v⟩]) (putD d v fr) m1
        | _ => False
      | some false => match (generalizing := false) f with
        | .cst (.func _ []) => GT P T l Q (H ++ [⟨fr, m, AV.undef⟩]) (putD d AV.undef fr) m
        | _ => False
      | none => False) := h
    have e : ∀ g n, trO (cfN P T n) (.call d (some (t, w)) (.cst (.func g [])) args :: l) fr m = ob (ob (wantV w (ev (.tmp t) fr)) fun t => bc t (acallF P T (aexec P T n) g (evs args fr ++ []) m) (some (AV.undef, m))) fun q => ob (trO (cfN P T n) l (putD d q.1 fr) q.2) fun t => some (⟨fr, m, q.1⟩ :: t) := fun g n => rfl
    split at h
    · rename_i e1
      split at h
      · rename_i g
        have := WpTC.to (d := d) (l := l) (fr := fr) (H := H) (Q := Q) (h.mono fun v m1 h => GT_ok h)
        obtain ⟨N, t', h1, h2⟩ := this
        refine ⟨N, t', fun n hn => ?_, h2⟩
        rw [e, e1, List.append_nil]
        exact h1 n hn
      · exact h.elim
    · rename_i e1
      split at h
      · rename_i g
        unfold WpT
        simp only [e, e1]
        simp only [ob, bc_false]
        exact trStep.2 (GT_ok h)
      · exact h.elim
    · exact h.elim

/-! ### Code -/
def GX (P : Program) (T : Tb) : CC → (X → Fr → M → Prop) → Fr → M → Prop
  | .skip, Q, fr, m => Q .normal fr m
  | .reg l, Q, fr, m => GO P T l (Q .normal) fr m
  | .drawn l ps, Q, fr, m => GT P T l (fun t => ps.all (again0 l t) = true ∧ ∃ a, lastT t = some a ∧ Q .normal a.fr a.m) [] fr m
  | .seq a b, Q, fr, m => GX P T a (fun x fr1 m1 => match x with | .normal => GX P T b Q fr1 m1 | x => Q x fr1 m1) fr m
  | .cond c a b, Q, fr, m => match ev c fr with
    | .b true => GX P T a Q fr m
    | .b false => GX P T b Q fr m
    | _ => False
  | .block id b, Q, fr, m => GX P T b (fun x fr1 m1 => match x with | .exit i => (match Nat.beq i id with | true => Q .normal fr1 m1 | false => Q (.exit i) fr1 m1) | x => Q x fr1 m1) fr m
  | .exit id, Q, fr, m => Q (.exit id) fr m
  | .ret, Q, fr, m => Q .ret fr m
  | .goto l, Q, fr, m => Q (.goto l) fr m
  | .loop b, Q, fr, m => WpC P T (.loop b) fr m Q
  | .scope b, Q, fr, m => WpC P T (.scope b) fr m Q
  | .bad, _, _, _ => False
def RK (Q : X → Fr → M → Prop) (fr : Fr) (m : M) : Prop := Q .normal fr m
def DK (l : List CO) (ps : List (Nat × Nat)) (Q : X → Fr → M → Prop) (t : List T3) : Prop := ps.all (again0 l t) = true ∧ ∃ a, lastT t = some a ∧ Q .normal a.fr a.m
def SK (P : Program) (T : Tb) (b : CC) (Q : X → Fr → M → Prop) (x : X) (fr : Fr) (m : M) : Prop := match x with | .normal => GX P T b Q fr m | x => Q x fr m
def GC (P : Program) (T : Tb) (v : AV) (a b : CC) (Q : X → Fr → M → Prop) (fr : Fr) (m : M) : Prop := match v with
  | .b true => GX P T a Q fr m
  | .b false => GX P T b Q fr m
  | _ => False
def BE (Q : X → Fr → M → Prop) (c : Bool) (i : Nat) (fr : Fr) (m : M) : Prop := match c with | true => Q .normal fr m | false => Q (.exit i) fr m
def BK (id : Nat) (Q : X → Fr → M → Prop) (x : X) (fr : Fr) (m : M) : Prop := match x with | .exit i => (match Nat.beq i id with | true => Q .normal fr m | false => Q (.exit i) fr m) | x => Q x fr m
def LK (Inv : Nat → Fr → M → Prop) (k : Nat) (Q : X → Fr → M → Prop) (x : X) (fr : Fr) (m : M) : Prop := match x with | .normal => ∃ k', k' < k ∧ Inv k' fr m | x => Q x fr m
def FK (P : Program) (rs : List ResultVar) (Q : AV → M → Prop) (x : X) (fr : Fr) (m : M) : Prop := (x = .normal ∨ x = .ret) ∧ ∃ l, ares P ⟨fr, m, [], none⟩ rs = some l ∧ Q (one l) m
variable {Q : X → Fr → M → Prop} {fr : Fr} {m : M}
theorem GX_skip : GX P T .skip Q fr m = Q .normal fr m := rfl
theorem GX_reg {l : List CO} : GX P T (.reg l) Q fr m = GO P T l (RK Q) fr m := rfl
theorem GX_drawn {l : List CO} {ps : List (Nat × Nat)} : GX P T (.drawn l ps) Q fr m = GT P T l (DK l ps Q) [] fr m := rfl
theorem GX_seq {a b : CC} : GX P T (.seq a b) Q fr m = GX P T a (SK P T b Q) fr m := rfl
theorem GX_cond {c : RO} {a b : CC} : GX P T (.cond c a b) Q fr m = GC P T (ev c fr) a b Q fr m := rfl
theorem GX_block {id : Nat} {b : CC} : GX P T (.block id b) Q fr m = GX P T b (BK id Q) fr m := rfl
theorem GX_exit {id : Nat} : GX P T (.exit id) Q fr m = Q (.exit id) fr m := rfl
theorem GX_ret : GX P T .ret Q fr m = Q .ret fr m := rfl
theorem GX_goto {l : Nat} : GX P T (.goto l) Q fr m = Q (.goto l) fr m := rfl
theorem RK_app : RK Q fr m = Q .normal fr m := rfl
theorem DK_app {l : List CO} {ps : List (Nat × Nat)} {t : List T3} : DK l ps Q t = (ps.all (again0 l t) = true ∧ ∃ a, lastT t = some a ∧ Q .normal a.fr a.m) := rfl
theorem SK_normal {b : CC} : SK P T b Q .normal fr m = GX P T b Q fr m := rfl
theorem SK_ret {b : CC} : SK P T b Q .ret fr m = Q .ret fr m := rfl
theorem SK_exit {b : CC} {i : Nat} : SK P T b Q (.exit i) fr m = Q (.exit i) fr m := rfl
theorem SK_goto {b : CC} {i : Nat} : SK P T b Q (.goto i) fr m = Q (.goto i) fr m := rfl
theorem GC_true {a b : CC} : GC P T (.b true) a b Q fr m = GX P T a Q fr m := rfl
theorem GC_false {a b : CC} : GC P T (.b false) a b Q fr m = GX P T b Q fr m := rfl
theorem BK_normal {id : Nat} : BK id Q .normal fr m = Q .normal fr m := rfl
theorem BK_ret {id : Nat} : BK id Q .ret fr m = Q .ret fr m := rfl
theorem BK_goto {id i : Nat} : BK id Q (.goto i) fr m = Q (.goto i) fr m := rfl
theorem BK_exit {id i : Nat} : BK id Q (.exit i) fr m = BE Q (Nat.beq i id) i fr m := rfl
theorem BE_true {i : Nat} : BE Q true i fr m = Q .normal fr m := rfl
theorem BE_false {i : Nat} : BE Q false i fr m = Q (.exit i) fr m := rfl
theorem LK_normal {Inv : Nat → Fr → M → Prop} {k : Nat} : LK Inv k Q .normal fr m = ∃ k', k' < k ∧ Inv k' fr m := rfl
theorem LK_n {Inv : Nat → Fr → M → Prop} {k k' : Nat} (hk : k' < k) (h : Inv k' fr m) : LK Inv k Q .normal fr m := ⟨k', hk, h⟩
theorem LK_ret {Inv : Nat → Fr → M → Prop} {k : Nat} : LK Inv k Q .ret fr m = Q .ret fr m := rfl
theorem LK_exit {Inv : Nat → Fr → M → Prop} {k i : Nat} : LK Inv k Q (.exit i) fr m = Q (.exit i) fr m := rfl
theorem LK_goto {Inv : Nat → Fr → M → Prop} {k i : Nat} : LK Inv k Q (.goto i) fr m = Q (.goto i) fr m := rfl
theorem FK_iff {rs : List ResultVar} {Q : AV → M → Prop} {x : X} (hx : x = .normal ∨ x = .ret) {l : List AV} (h : ares P ⟨fr, m, [], none⟩ rs = some l) : FK P rs Q x fr m = Q (one l) m := by
  apply propext
  constructor
  · rintro ⟨_, l', h1, h2⟩
    rw [h] at h1
    cases h1
    exact h2
  · intro h1
    exact ⟨hx, l, h, h1⟩
theorem FK_ret0 {Q : AV → M → Prop} : FK P [] Q .ret fr m = Q (.tuple []) m := FK_iff (l := []) (.inr rfl) rfl
theorem FK_nor0 {Q : AV → M → Prop} : FK P [] Q .normal fr m = Q (.tuple []) m := FK_iff (l := []) (.inl rfl) rfl
theorem FK_ret1 {Q : AV → M → Prop} {t : Nat} : FK P [.tmp t] Q .ret fr m = Q (ev (tm t) fr) m := FK_iff (.inr rfl) ares1
theorem FK_ret2 {Q : AV → M → Prop} {t u : Nat} : FK P [.tmp t, .tmp u] Q .ret fr m = Q (.tuple [ev (tm t) fr, ev (tm u) fr]) m := FK_iff (.inr rfl) ares2
theorem FK_ret3 {Q : AV → M → Prop} {t u v : Nat} : FK P [.tmp t, .tmp u, .tmp v] Q .ret fr m = Q (.tuple [ev (tm t) fr, ev (tm u) fr, ev (tm v) fr]) m := FK_iff (l := [ev (tm t) fr, ev (tm u) fr, ev (tm v) fr]) (.inr rfl) rfl
theorem GX_ok : ∀ {c : CC} {Q : X → Fr → M → Prop} {fr : Fr} {m : M}, GX P T c Q fr m → WpC P T c fr m Q
  | .skip, Q, fr, m, h => WpC_skip h
  | .reg l, Q, fr, m, h => WpC_reg (GO_ok h)
  | .drawn l ps, Q, fr, m, h => WpC_drawn (GT_ok h)
  | .seq a b, Q, fr, m, h => by
    refine WpC_seq ((GX_ok (c := a) h).mono fun x f1 m1 h1 => ?_)
    cases x with
    | normal => exact GX_ok h1
    | ret => exact h1
    | exit i => exact h1
    | goto i => exact h1
  | .cond c a b, Q, fr, m, h => by
    have h : GC P T (ev c fr) a b Q fr m := h
    unfold GC at h
    split at h
    · rename_i e
      exact WpC_cond (t := true) e (GX_ok h)
    · rename_i e
      exact WpC_cond (t := false) e (GX_ok h)
    · exact h.elim
  | .block id b, Q, fr, m, h => by
    refine WpC_block ((GX_ok (c := b) h).mono fun x f1 m1 h1 => ?_)
    cases x with
    | normal => exact h1
    | ret => exact h1
    | goto i => exact h1
    | exit i =>
      have h1 : (match Nat.beq i id with | true => Q .normal f1 m1 | false => Q (.exit i) f1 m1) := h1
      show if i = id then _ else _
      by_cases e : i = id
      · rw [if_pos e]
        subst e
        rwa [Nat.beq_refl] at h1
      · rw [if_neg e]
        rwa [nbeq, decide_eq_false e] at h1
  | .exit id, Q, fr, m, h => WpC_exit h
  | .ret, Q, fr, m, h => WpC_ret h
  | .goto l, Q, fr, m, h => WpC_goto h
  | .loop b, Q, fr, m, h => h
  | .scope b, Q, fr, m, h => h
  | .bad, _, _, _, h => h.elim
theorem GX_loop {b : CC} (Inv : Nat → Fr → M → Prop) {k : Nat} (h0 : Inv k fr m) (hs : ∀ k fr m, Inv k fr m → GX P T b (LK Inv k Q) fr m) : GX P T (.loop b) Q fr m :=
  WpC_loop Inv h0 fun k fr m hi => (GX_ok (hs k fr m hi)).mono fun x f1 m1 h => by
    cases x with
    | normal => exact h
    | ret => exact h
    | exit i => exact h
    | goto i => exact h
def PK (Q : X → Fr → M → Prop) (x : X) (fr : Fr) (m : M) : Prop := (∀ l', x ≠ .goto l') ∧ Q x fr m
theorem PK_normal : PK Q .normal fr m = Q .normal fr m := propext ⟨fun h => h.2, fun h => ⟨nofun, h⟩⟩
theorem PK_ret : PK Q .ret fr m = Q .ret fr m := propext ⟨fun h => h.2, fun h => ⟨nofun, h⟩⟩
theorem PK_exit {i : Nat} : PK Q (.exit i) fr m = Q (.exit i) fr m := propext ⟨fun h => h.2, fun h => ⟨nofun, h⟩⟩
/-- What a jump comes to: the code behind its label. -/
def JK (P : Program) (T : Tb) (b : Code) (Q : X → Fr → M → Prop) (x : X) (fr : Fr) (m : M) : Prop := match x with
  | .goto l => ∃ rest cr, findLabel b l = some rest ∧ comp P rest = cr ∧ GX P T cr (PK Q) fr m
  | x => Q x fr m
theorem JK_normal {b : Code} : JK P T b Q .normal fr m = Q .normal fr m := rfl
theorem JK_ret {b : Code} : JK P T b Q .ret fr m = Q .ret fr m := rfl
theorem JK_exit {b : Code} {i : Nat} : JK P T b Q (.exit i) fr m = Q (.exit i) fr m := rfl
theorem JK_goto {b : Code} {l : Nat} {rest : Code} {cr : CC} (h1 : findLabel b l = some rest) (h2 : comp P rest = cr) (Q : X → Fr → M → Prop) (fr : Fr) (m : M) : JK P T b Q (.goto l) fr m = GX P T cr (PK Q) fr m := by
  apply propext
  constructor
  · rintro ⟨r, c, h3, h4, h5⟩
    rw [h1] at h3
    cases h3
    rw [h2] at h4
    subst h4
    exact h5
  · intro h
    exact ⟨rest, cr, h1, h2, h⟩
theorem GX_scope {b : Code} {cb : CC} (hb : comp P b = cb) (h : GX P T cb (JK P T b Q) fr m) : GX P T (.scope b) Q fr m :=
  WpC_scope hb ((GX_ok h).mono fun x f1 m1 h => by
    cases x with
    | normal => exact h
    | ret => exact h
    | exit i => exact h
    | goto i =>
      obtain ⟨rest, cr, h1, h2, h3⟩ := h
      exact ⟨rest, cr, h1, h2, GX_ok h3⟩)
theorem WpF.go {g : FuncId} {cc : CC} {nt : Nat} {rs : List ResultVar} (hf : FnAt P T g cc nt rs) {args : List AV} {m : M} {Q : AV → M → Prop}
    (h : GX P T cc (FK P rs Q) (fillP args (nat_lit 0) .leaf) m) (hit : T.it g args m = none := by rfl) (hn : Nat.ble args.length nt = true := by rfl) : WpF P T g args m Q :=
  WpF_intro hf hit hn (GX_ok h)
/-- What is told of a call is all there is to tell. -/
theorem WpF.eq {g : FuncId} {args : List AV} {m m1 : M} {v : AV} (h : WpF P T g args m fun v' m' => v' = v ∧ m' = m1) : ∀ Q : AV → M → Prop, WpF P T g args m Q = Q v m1 := by
  intro Q
  obtain ⟨N, v', m', h1, rfl, rfl⟩ := h
  apply propext
  constructor
  · rintro ⟨N2, v2, m2, h3, h4⟩
    have e1 := h1 (max N N2) (by omega)
    rw [h3 _ (by omega)] at e1
    cases e1
    exact h4
  · intro h
    exact ⟨N, _, _, h1, h⟩
theorem aq_ptr (b o : Nat) : aveq 40 (.ptr b o) (.ptr b o) = true := by simp [aveq, Nat.beq_refl]
theorem aq_b (c : Bool) : aveq 40 (.b c) (.b c) = true := by cases c <;> rfl
theorem aq_map (b : Nat) : aveq 40 (.map b) (.map b) = true := by simp [aveq, Nat.beq_refl]
theorem aq_nilp : aveq 40 nilp nilp = true := rfl
theorem aq_undef : aveq 40 AV.undef AV.undef = true := rfl
theorem want_sm {t : Nat} {w : Bool} {fr : Fr} : want (some (pth t, w)) fr = wantV w (ev (tm t) fr) := rfl
theorem again0_at {l : List CO} {t : List T3} {i p : Nat} : again0 l t (i, p) = match l[i]?, t[i]?, t[p]? with
  | some (.op _ g o), some a, some b => match ob (want g a.fr) fun t => bc t (run o a.fr b.m) (some (AV.undef, b.m)) with
    | some q => aveq 40 q.1 a.x
    | none => false
  | _, _, _ => false := rfl
theorem lastT_1 (a : T3) : lastT [a] = some a := rfl
theorem lastT_c (a b : T3) (l : List T3) : lastT (a :: b :: l) = lastT (b :: l) := rfl
/-- What a call comes to. -/
def Ran (P : Program) (T : Tb) (g : FuncId) (args : List AV) (m : M) (v : AV) (m1 : M) : Prop := WpF P T g args m fun v' m' => v' = v ∧ m' = m1
theorem Ran.eq {g : FuncId} {args : List AV} {m m1 : M} {v : AV} (h : Ran P T g args m v m1) : ∀ Q : AV → M → Prop, WpF P T g args m Q = Q v m1 := WpF.eq h
theorem WpF.ran {g : FuncId} {args : List AV} {m : M} {Q : AV → M → Prop} (h : WpF P T g args m Q) : ∃ v m1, Q v m1 ∧ Ran P T g args m v m1 := by
  obtain ⟨N, v, m', h1, h2⟩ := h
  exact ⟨v, m', h2, N, v, m', h1, rfl, rfl⟩
end

/-! ### Memory, ahead of a run -/
section
variable {m : M}
/-- What is stored. -/
theorem At.st {b : Nat} {e : TypeId} {xt : Bool} {l l' : List AV} (h : At m b e xt l) (hw : Wf m) (i : Nat) (vs : List AV) (hs : splice l i vs = l' := by rfl) (hi : i + vs.length ≤ l.length := by exact Nat.le_of_ble_eq_true rfl) :
    ∃ m', m.wr b i vs = some m' ∧ At m' b e xt l' ∧ Keep m m' (fun x => x = b) ∧ m'.next = m.next :=
  ⟨m.upd b i vs, h.wr hi, hs ▸ h.upd hi, Keep.upd hw fun _ => rfl, M.next_upd ..⟩
theorem addL_at (hw : Wf m) (e n : Nat) (l : List AV) (hn : n = l.length := by rfl) : ∃ m', m.addL e n l = m' ∧ At m' m.next e true l ∧ Keep m m' (fun _ => False) ∧ m'.next = m.next + 1 :=
  ⟨_, rfl, At.addL hn, Keep.addL hw, M.next_addL ..⟩
theorem addZ_at (hw : Wf m) (e n : Nat) (z : List AV) (hn : n = z.length := by rfl) : ∃ m', m.addZ e n z = m' ∧ At m' m.next e true z ∧ Keep m m' (fun _ => False) ∧ m'.next = m.next + 1 :=
  ⟨_, rfl, At.addZ hn, Keep.addZ hw, M.next_addZ ..⟩
/-- Rows of different kinds are not the same. -/
theorem At.ty {b b' : Nat} {e e' : TypeId} {xt xt' : Bool} {l l' : List AV} (h : At m b e xt l) (h' : At m b' e' xt' l') (he : e ≠ e' := by decide) : b ≠ b' := by
  intro hb
  subst hb
  obtain ⟨c, h1, h2, _⟩ := h.row
  obtain ⟨c', h3, h4, _⟩ := h'.row
  rw [h1] at h3
  cases h3
  exact he (h2.symm.trans h4)
end
end Go.Am
/- The abstract machine: what is left alone, told by the kinds of rows. -/
namespace Go.Am
open Go Go.RowKit
section
variable {m m' m'' : M}
/-- The kind of rows that are only read. -/
abbrev roK : Nat := 1000000007
/-- The kind of a block: 0, a map or the like; roK, a row that is only read; else a row of things of type k - 1. -/
def kd (m : M) (b : Nat) : Nat → Prop := fun k => match m.get b with
  | some (.cells c) => k = bif c.ro then roK else c.elem + 1
  | some (.obj _) => k = 0
  | none => False
theorem kd.inj {b k k' : Nat} (h : kd m b k) (h' : kd m b k') : k = k' := by
  unfold kd at h h'
  split at h
  · rename_i c e; rw [e] at h'; exact h.trans h'.symm
  · rename_i c e; rw [e] at h'; exact h.trans h'.symm
  · exact h.elim
theorem kd.of_get {b k : Nat} (h : kd m b k) (hg : m'.get b = m.get b) : kd m' b k := by
  unfold kd at h ⊢
  rw [hg]
  exact h
theorem kd.lt {b k : Nat} (h : kd m b k) (hw : Wf m) : b < m.next := by
  rcases Nat.lt_or_ge b m.next with h1 | h1
  · exact h1
  · unfold kd at h
    rw [hw b h1] at h
    exact h.elim
theorem kd.ne {b b' k k' : Nat} (h : kd m b k) (h' : kd m b' k') (hk : k ≠ k' := by decide) : b ≠ b' := fun e => by subst e; exact hk (h.inj h')
theorem At.kd {b : Nat} {e : TypeId} {xt : Bool} {l : List AV} (h : At m b e xt l) : kd m b (e + 1) := by
  obtain ⟨c, h1, h2, _, _, h5, _⟩ := h.row
  unfold Am.kd
  rw [h1]
  show e + 1 = bif c.ro then roK else c.elem + 1
  rw [h5, h2]; rfl
theorem MpAt.kd {b : Nat} {L : Al} (h : MpAt m b L) : kd m b 0 := by
  obtain ⟨st, h1⟩ := h
  unfold Am.kd
  rw [h1]
theorem kd.addRo (m : M) (e : TypeId) (l : List AV) : kd (m.addRo e l) m.next roK := by
  unfold kd
  rw [M.get_addRo, if_pos rfl]; rfl
/-- A row of a kind of E, or a map of S. -/
def Kinds (m : M) (E S : List Nat) (b : Nat) : Prop := (∃ k ∈ E, kd m b k) ∨ (b ∈ S ∧ kd m b 0)
/-- All is left alone but for rows of these kinds, and these maps. -/
abbrev KeepK (m m' : M) (E : List Nat) (S : List Nat := []) : Prop := Keep m m' (Kinds m E S)
theorem Kinds.back {E G S R : List Nat} (h : KeepK m m' E S) {b : Nat} (hb : b < m.next) (hG : ∀ k ∈ G, k ∈ E) (hR : ∀ k ∈ R, k ∈ S) (k : Kinds m' G R b) : Kinds m E S b := by
  refine Classical.byContradiction fun hn => ?_
  have hg := h.get b hb hn
  rcases k with ⟨j, hj, hj2⟩ | ⟨hj, hj2⟩
  · exact hn (.inl ⟨j, hG j hj, hj2.of_get hg.symm⟩)
  · exact hn (.inr ⟨hR _ hj, hj2.of_get hg.symm⟩)
theorem Keep.k0 {E S : List Nat} (h : Keep m m' fun _ => False) : KeepK m m' E S := h.mono fun _ _ h => h.elim
theorem Keep.k1 {b k : Nat} {E S : List Nat} (h : Keep m m' fun x => x = b) (hb : kd m b k) (hk : k ∈ E := by decide) : KeepK m m' E S := h.mono fun _ _ e => by subst e; exact .inl ⟨k, hk, hb⟩
theorem Keep.km {b : Nat} {E S : List Nat} (h : Keep m m' fun x => x = b) (hb : kd m b 0) (hk : b ∈ S := by simp) : KeepK m m' E S := h.mono fun _ _ e => by subst e; exact .inr ⟨hk, hb⟩
theorem Keep.tk {E G S R : List Nat} (h : KeepK m m' E S) (k : KeepK m' m'' G R) (hG : ∀ x ∈ G, x ∈ E := by decide) (hR : ∀ x ∈ R, x ∈ S := by simp) : KeepK m m'' E S := h.trans k fun _ hb hx => .back h hb hG hR hx
theorem Keep.sub {E G S R : List Nat} (h : KeepK m m' E S) (hE : ∀ x ∈ E, x ∈ G := by decide) (hS : ∀ x ∈ S, x ∈ R := by simp) : KeepK m m' G R := h.mono fun _ _ k => by
  rcases k with ⟨k, h1, h2⟩ | ⟨h1, h2⟩
  · exact .inl ⟨k, hE k h1, h2⟩
  · exact .inr ⟨hS _ h1, h2⟩
theorem Keep.tf {F : Nat → Prop} (h : Keep m m' F) (k : Keep m' m'' fun _ => False) : Keep m m'' F := h.trans k fun _ _ h => h.elim
theorem Keep.ft {F : Nat → Prop} (h : Keep m m' fun _ => False) (k : Keep m' m'' F) : Keep m m'' F := (h.mono fun _ _ h => h.elim).trans k fun _ _ h => h
theorem Kinds.not {b k : Nat} {E S : List Nat} (h : Am.kd m b k) (hE : k ∉ E) (h0 : k ≠ 0) : ¬ Kinds m E S b := by
  rintro (⟨j, h1, h2⟩ | ⟨_, h2⟩)
  · exact hE (h.inj h2 ▸ h1)
  · exact h0 (h.inj h2)
theorem kd.kp {b k : Nat} {E S : List Nat} (h : Am.kd m b k) (hw : Wf m) (hk : KeepK m m' E S) (hE : k ∉ E := by decide) (h0 : k ≠ 0 := by decide) : Am.kd m' b k :=
  h.of_get (hk.get b (h.lt hw) (Kinds.not h hE h0))
theorem At.kp {b : Nat} {e : TypeId} {xt : Bool} {l : List AV} {E S : List Nat} (h : At m b e xt l) (hw : Wf m) (hk : KeepK m m' E S) (hE : e + 1 ∉ E := by decide) : At m' b e xt l :=
  h.keep hw hk (Kinds.not h.kd hE (Nat.succ_ne_zero _))
theorem MpAt.kp {b : Nat} {L : Al} {E S : List Nat} (h : MpAt m b L) (hw : Wf m) (hk : KeepK m m' E S) (hS : b ∉ S := by simp) (hE : 0 ∉ E := by decide) : MpAt m' b L :=
  h.keep hw hk fun hx => by
    rcases hx with ⟨j, h1, h2⟩ | ⟨h1, _⟩
    · exact hE (h.kd.inj h2 ▸ h1)
    · exact hS h1
theorem SlAt.kd {e sz : Nat} {x : AV} {len : Nat} {cells : List AV} {b : Nat} (h : SlAt m e sz x len cells (some b)) : Am.kd m b (e + 1) := by
  cases h with
  | row h => exact h.kd
theorem SlAt.kp {e sz : Nat} {x : AV} {len : Nat} {cells : List AV} {o : Option Nat} {E S : List Nat} (h : SlAt m e sz x len cells o) (hw : Wf m) (hk : KeepK m m' E S) (hE : e + 1 ∉ E := by decide) : SlAt m' e sz x len cells o :=
  h.keep hw hk fun b hb => by subst hb; exact Kinds.not h.kd hE (Nat.succ_ne_zero _)
/-- A slice of known bytes, in a row of type e. -/
structure Bt (m : M) (e : TypeId) (s : AV) (l : List UInt8) (b : Nat) : Prop where
  bs : BsAt m s l b
  kd : Am.kd m b (e + 1)
theorem Bt.lt {e : TypeId} {s : AV} {l : List UInt8} {b : Nat} (h : Bt m e s l b) (hw : Wf m) : b < m.next := h.kd.lt hw
theorem Bt.keep {e : TypeId} {s : AV} {l : List UInt8} {b : Nat} {F : Nat → Prop} (h : Bt m e s l b) (hw : Wf m) (k : Keep m m' F) (hf : ¬ F b) : Bt m' e s l b := ⟨h.bs.keep hw k hf, h.kd.of_get (k.get b (h.lt hw) hf)⟩
theorem Bt.kp {e : TypeId} {s : AV} {l : List UInt8} {b : Nat} {E S : List Nat} (h : Bt m e s l b) (hw : Wf m) (hk : KeepK m m' E S) (hE : e + 1 ∉ E := by decide) : Bt m' e s l b :=
  h.keep hw hk (Kinds.not h.kd hE (Nat.succ_ne_zero _))
/-! ### What is put into a row -/
theorem splice_len {l vs : List AV} {i : Nat} (h : i + vs.length ≤ l.length) : (splice l i vs).length = l.length := by
  unfold splice; simp; omega
theorem splice_get {l vs : List AV} {i : Nat} (h : i + vs.length ≤ l.length) (j : Nat) : (splice l i vs)[j]? = if i ≤ j ∧ j < i + vs.length then vs[j - i]? else l[j]? := by
  unfold splice
  by_cases h1 : j < i
  · rw [List.getElem?_append_left (by simp; omega), List.getElem?_take, if_pos h1, if_neg (by omega)]
  · rw [List.getElem?_append_right (by simp; omega)]
    have e : (l.take i).length = i := by simp; omega
    rw [e]
    by_cases h2 : j < i + vs.length
    · rw [List.getElem?_append_left (by omega), if_pos (by omega)]
    · rw [List.getElem?_append_right (by omega), List.getElem?_drop, if_neg (by omega)]
      congr 1; omega
theorem sl_aq (b off len cap : Nat) (lim : Bool) : aveq 40 (.slice b off len cap lim) (.slice b off len cap lim) = true := by simp [aveq, Nat.beq_refl]
theorem cells_slc (b off len cap : Nat) (lim : Bool) : cellsO (.slice b off len cap lim) = some [.slice b off len cap lim] := rfl
theorem cells_nil' : cellsO nils = some [nils] := rfl
theorem cells_yc (n : Nat) : cellsO (.y n) = some [.y n] := rfl
theorem ilt (a : Int) : (a < a) = False := eq_false (by omega)
theorem ile (a : Int) : (a ≤ a) = True := eq_true (by omega)
theorem nc0 : ((0 : Nat) : Int) = 0 := rfl
theorem nc1 (k : Nat) : ((k + 1 : Nat) : Int) = (k : Int) + 1 := rfl
end
end Go.Am
/- The abstract machine: rows whose place another has taken, and lists that grow beside what they grew from. -/
namespace Go.Am
open Go Go.RowKit
theorem cel_rd {c d : Cel} (h1 : d.cs = c.cs) (h2 : d.zero = c.zero) (i : Nat) : d.rd i = c.rd i := by rw [rd_eq, rd_eq, h1, h2]
/-- What took a row's place, one behind the other; nothing was written there. -/
def Chn (m : M) : Option Nat → List Nat → Prop
  | none, [] => True
  | some h, k :: ch => h = k ∧ ∃ c, m.get h = some (.cells c) ∧ c.dirty = false ∧ Chn m c.mv ch
  | none, _ :: _ => False
  | some _, [] => False
theorem Chn.clean {m : M} : ∀ {ch : List Nat} {h n : Nat}, Chn m (some h) ch → ch.length ≤ n → m.clean n h = true
  | [], _, _, k, _ => k.elim
  | k :: ch, h, 0, _, hn => by simp at hn
  | k :: ch, h, n + 1, hc, hn => by
    obtain ⟨rfl, c, h1, h2, h3⟩ := hc
    show (match m.cel h with | some c => !c.dirty && (match c.mv with | none => true | some h => M.clean m n h) | none => false) = true
    rw [M.cel_some.2 h1]
    show (!c.dirty && (match c.mv with | none => true | some h => M.clean m n h)) = true
    rw [h2]
    cases hm : c.mv with
    | none => rfl
    | some h' =>
      rw [hm] at h3
      exact Chn.clean h3 (by simpa using hn)
theorem Chn.of_get {m m' : M} : ∀ {ch : List Nat} {o : Option Nat}, Chn m o ch → (∀ b ∈ ch, m'.get b = m.get b) → Chn m' o ch
  | [], none, _, _ => trivial
  | [], some _, h, _ => h.elim
  | _ :: _, none, h, _ => h.elim
  | k :: ch, some h, hc, hg => by
    obtain ⟨rfl, c, h1, h2, h3⟩ := hc
    exact ⟨rfl, c, (hg h (List.mem_cons_self ..)).trans h1, h2, h3.of_get fun b hb => hg b (List.mem_cons_of_mem _ hb)⟩
theorem Chn.got {m : M} : ∀ {ch : List Nat} {o : Option Nat}, Chn m o ch → ∀ b ∈ ch, ∃ c, m.get b = some (.cells c)
  | [], _, _, b, hb => by cases hb
  | _ :: _, none, h, _, _ => h.elim
  | k :: ch, some h, hc, b, hb => by
    obtain ⟨rfl, c, h1, h2, h3⟩ := hc
    rcases List.mem_cons.1 hb with rfl | hb
    · exact ⟨c, h1⟩
    · exact h3.got b hb
/-- The last of a chain is given a follower. -/
theorem Chn.snoc {m m' : M} {b n : Nat} {c c' d : Cel} (hb : m.get b = some (.cells c)) (hmv : c.mv = none) (hb' : m'.get b = some (.cells c')) (hd' : c'.dirty = c.dirty) (hm' : c'.mv = some n) (hn : m'.get n = some (.cells d)) (hdd : d.dirty = false) (hdm : d.mv = none) :
    ∀ {ch : List Nat} {o : Option Nat}, Chn m o (ch ++ [b]) → (∀ x ∈ ch, x ≠ b → m'.get x = m.get x) → Chn m' o (ch ++ [b] ++ [n])
  | [], none, h, _ => h.elim
  | [], some h, hc, _ => by
    obtain ⟨rfl, c1, h1, h2, h3⟩ := hc
    rw [hb] at h1
    cases h1
    refine ⟨rfl, c', hb', hd'.trans h2, ?_⟩
    rw [hm']
    refine ⟨rfl, d, hn, hdd, ?_⟩
    rw [hdm]; trivial
  | _ :: _, none, h, _ => h.elim
  | k :: ch, some h, hc, hg => by
    obtain ⟨rfl, c1, h1, h2, h3⟩ := hc
    have hne : h ≠ b := fun e => by
      subst e
      rw [hb] at h1
      cases h1
      rw [hmv] at h3
      cases ch <;> exact h3.elim
    refine ⟨rfl, c1, (hg h (List.mem_cons_self ..) hne).trans h1, h2, ?_⟩
    exact Chn.snoc hb hmv hb' hd' hm' hn hdd hdm h3 fun x hx hxb => hg x (List.mem_cons_of_mem _ hx) hxb
/-- A row that is read, though another may have taken its place. -/
structure AtV (m : M) (b : Nat) (l : List AV) (ch : List Nat) : Prop where
  row : ∃ c, m.get b = some (.cells c) ∧ l.length ≤ c.n ∧ (∀ i v, l[i]? = some v → c.rd i = v) ∧ Chn m c.mv ch
theorem AtV.rd {m : M} {b : Nat} {l : List AV} {ch : List Nat} (h : AtV m b l ch) (hc : ch.length ≤ 100000) {i : Nat} {v : AV} (hv : l[i]? = some v) : m.rd b i = some v := by
  obtain ⟨c, h1, h2, h3, h4⟩ := h.row
  have hi := (List.getElem?_eq_some_iff.1 hv).1
  unfold M.rd
  rw [M.cel_some.2 h1]
  show bc (Nat.ble (Nat.succ i) c.n && m.readable c) (some (c.rd i)) none = _
  have hr : m.readable c = true := by
    unfold M.readable
    cases hm : c.mv with
    | none => rfl
    | some h => rw [hm] at h4; exact h4.clean hc
  rw [hr, nble, decide_eq_true (by omega), h3 i v hv]; rfl
theorem AtV.keep {m m' : M} {b : Nat} {l : List AV} {ch : List Nat} {F : Nat → Prop} (h : AtV m b l ch) (hw : Wf m) (k : Keep m m' F) (hb : ¬ F b) (hch : ∀ x ∈ ch, ¬ F x) : AtV m' b l ch := by
  obtain ⟨c, h1, h2, h3, h4⟩ := h.row
  have lt : ∀ x c, m.get x = some (.cells c) → x < m.next := fun x c hx => by
    rcases Nat.lt_or_ge x m.next with h | h
    · exact h
    · rw [hw x h] at hx; cases hx
  exact ⟨c, (k.get b (lt b c h1) hb).trans h1, h2, h3, h4.of_get fun x hx => by
    obtain ⟨c, hc⟩ := h4.got x hx
    exact k.get x (lt x c hc) (hch x hx)⟩
theorem At.v {m : M} {b : Nat} {e : TypeId} {xt : Bool} {l junk : List AV} (h : At m b e xt (l ++ junk)) : AtV m b l [] := by
  obtain ⟨c, h1, h2, h3, h4, h5, h6, h7⟩ := h.row
  refine ⟨c, h1, by rw [h3]; simp, fun i v hv => h7 i v ?_, by rw [h4]; trivial⟩
  rw [List.getElem?_append_left (List.getElem?_eq_some_iff.1 hv).1]; exact hv
/-- A list in a row of its own; it may have no cells at all. -/
def SlE (m : M) (e : TypeId) (x : AV) (len : Nat) (cells : List AV) (o : Option Nat) : Prop := SlAt m e 1 x len cells o ∨ ∃ b, x = .slice b 0 0 0 false ∧ len = 0 ∧ cells = [] ∧ o = some b ∧ At m b e true []
theorem SlE.keep {m m' : M} {e : TypeId} {x : AV} {len : Nat} {cells : List AV} {o : Option Nat} {F : Nat → Prop} (h : SlE m e x len cells o) (hw : Wf m) (k : Keep m m' F) (hf : ∀ b, o = some b → ¬ F b) : SlE m' e x len cells o := by
  rcases h with h | ⟨b, h1, h2, h3, h4, h⟩
  · exact .inl (h.keep hw k hf)
  · exact .inr ⟨b, h1, h2, h3, h4, h.keep hw k (hf b h4)⟩
theorem SlE.len {m : M} {e : TypeId} {x : AV} {len : Nat} {cells : List AV} {o : Option Nat} (h : SlE m e x len cells o) : lenK false x = some len := by
  rcases h with h | ⟨b, rfl, rfl, _, _, _⟩
  · exact h.len
  · rfl
theorem SlE.count {m : M} {e : TypeId} {x : AV} {len : Nat} {cells : List AV} {o : Option Nat} (h : SlE m e x len cells o) : cells.length = len := by
  rcases h with h | ⟨b, _, rfl, rfl, _, _⟩
  · simpa using h.count
  · rfl
theorem SlE.kd {m : M} {e : TypeId} {x : AV} {len : Nat} {cells : List AV} {b : Nat} (h : SlE m e x len cells (some b)) : Am.kd m b (e + 1) := by
  rcases h with h | ⟨b', _, _, _, h4, h⟩
  · exact h.kd
  · cases h4; exact h.kd
theorem SlE.lt {m : M} {e : TypeId} {x : AV} {len : Nat} {cells : List AV} {b : Nat} (h : SlE m e x len cells (some b)) (hw : Wf m) : b < m.next := h.kd.lt hw
/-- A list x with the cells that it was made of, and the list g that grew from it. own: their rows. -/
inductive GrAt (m : M) (e : TypeId) : AV → List AV → AV → List AV → List Nat → Prop where
  | none : GrAt m e nils [] nils [] []
  | emp {b : Nat} (h : At m b e true []) : GrAt m e (.slice b 0 0 0 false) [] (.slice b 0 0 0 false) [] [b]
  | same {b cap : Nat} {xt : Bool} {cells ext junk : List AV} (h : At m b e xt ((cells ++ ext) ++ junk)) (hj : junk.length = cap - (cells ++ ext).length) (hc : (cells ++ ext).length ≤ cap) (h0 : 0 < cap) : GrAt m e (.slice b 0 cells.length cap false) cells (.slice b 0 (cells ++ ext).length cap false) (cells ++ ext) [b]
  | off {b b' cap : Nat} {xt : Bool} {cells gcells : List AV} {ch : List Nat} (h : AtV m b cells ch) (hl : ch.length + cells.length ≤ gcells.length) (hg : At m b' e xt gcells) (h0 : 0 < gcells.length) (hne : b ≠ b') (hch : b' ∉ ch ∨ ∃ ch0, ch = ch0 ++ [b']) : GrAt m e (.slice b 0 cells.length cap false) cells (.slice b' 0 gcells.length gcells.length false) gcells (b :: b' :: ch)
  | new {b' : Nat} {xt : Bool} {gcells : List AV} (hg : At m b' e xt gcells) (h0 : 0 < gcells.length) : GrAt m e nils [] (.slice b' 0 gcells.length gcells.length false) gcells [b']
section
variable {m m' : M} {e : TypeId} {x g : AV} {cells gcells : List AV} {own : List Nat}
theorem GrAt.begin {len : Nat} {o : Option Nat} (h : SlE m e x len cells o) : GrAt m e x cells x cells o.toList := by
  rcases h with h | ⟨b, rfl, rfl, rfl, rfl, h⟩
  case inr => exact .emp h
  cases h with
  | nil => exact .none
  | @row b len cap cells junk xt h hl hj hc h0 =>
    rw [Nat.mul_one] at hl hj
    subst hl
    have := GrAt.same (m := m) (e := e) (b := b) (cap := cap) (xt := xt) (cells := cells) (ext := []) (junk := junk) (by simpa using h) (by simpa using hj) (by simpa using hc) h0
    rwa [List.append_nil] at this
theorem GrAt.lenx (h : GrAt m e x cells g gcells own) : lenK false x = some cells.length := by cases h <;> rfl
theorem GrAt.leng (h : GrAt m e x cells g gcells own) : lenK false g = some gcells.length := by cases h <;> rfl
theorem GrAt.gcells1 (h : GrAt m e x cells g gcells own) : cellsO g = some [g] := by cases h <;> rfl
theorem GrAt.lt (h : GrAt m e x cells g gcells own) (hw : Wf m) {b : Nat} (hb : b ∈ own) : b < m.next := by
  have lt : ∀ x c, m.get x = some (.cells c) → x < m.next := fun x c hx => by
    rcases Nat.lt_or_ge x m.next with h | h
    · exact h
    · rw [hw x h] at hx; cases hx
  cases h with
  | none => cases hb
  | emp h => cases List.mem_singleton.1 hb; exact h.lt hw
  | same h => cases List.mem_singleton.1 hb; exact h.lt hw
  | off h hl hg h0 hne hch =>
    obtain ⟨c, h1, _, _, h4⟩ := h.row
    rcases List.mem_cons.1 hb with rfl | hb
    · exact lt _ c h1
    · rcases List.mem_cons.1 hb with rfl | hb
      · exact hg.lt hw
      · obtain ⟨c, hc⟩ := h4.got b hb
        exact lt b c hc
  | new hg => cases List.mem_singleton.1 hb; exact hg.lt hw
theorem GrAt.keep {F : Nat → Prop} (h : GrAt m e x cells g gcells own) (hw : Wf m) (k : Keep m m' F) (hf : ∀ b ∈ own, ¬ F b) : GrAt m' e x cells g gcells own := by
  cases h with
  | none => exact .none
  | emp h => exact .emp (h.keep hw k (hf _ (by simp)))
  | same h hj hc h0 => exact .same (h.keep hw k (hf _ (by simp))) hj hc h0
  | off h hl hg h0 hne hch => exact .off (h.keep hw k (hf _ (by simp)) fun x hx => hf x (by simp [hx])) hl (hg.keep hw k (hf _ (by simp))) h0 hne hch
  | new hg h0 => exact .new (hg.keep hw k (hf _ (by simp))) h0
theorem GrAt.rdx (h : GrAt m e x cells g gcells own) (hg : gcells.length ≤ cells.length + 100000) {k : Nat} {v : AV} (hv : cells[k]? = some v) : ∃ b cap, x = .slice b 0 cells.length cap false ∧ k < cells.length ∧ m.rd b k = some v := by
  have hk := (List.getElem?_eq_some_iff.1 hv).1
  cases h with
  | none => cases hv
  | emp => cases hv
  | same h hj hc h0 => exact ⟨_, _, rfl, hk, by rw [h.rd, List.append_assoc, List.getElem?_append_left hk]; exact hv⟩
  | off h hl => exact ⟨_, _, rfl, hk, h.rd (by omega) hv⟩
  | new => cases hv
theorem GrAt.rdg (h : GrAt m e x cells g gcells own) {k : Nat} {v : AV} (hv : gcells[k]? = some v) : ∃ b cap, g = .slice b 0 gcells.length cap false ∧ k < gcells.length ∧ m.rd b k = some v := by
  have hk := (List.getElem?_eq_some_iff.1 hv).1
  cases h with
  | none => cases hv
  | emp => cases hv
  | same h hj hc h0 => exact ⟨_, _, rfl, hk, by rw [h.rd, List.getElem?_append_left hk]; exact hv⟩
  | off h hl hg => exact ⟨_, _, rfl, hk, by rw [hg.rd]; exact hv⟩
  | new hg => exact ⟨_, _, rfl, hk, by rw [hg.rd]; exact hv⟩
/-- What is appended to a full row goes to a new one: a copy, or one that takes the row's place. -/
theorem app_full {b bytes : Nat} {z : List AV} {y v : AV} {xt : Bool} (h : At m b e xt gcells) (h0 : 0 < gcells.length) (hw : Wf m) (hy : Rds m y 1 1 [v]) (hroom : room (gcells.length + 1) bytes = true) :
    ∃ m' xt', rApp e 1 bytes z (.cst (.slice b 0 gcells.length gcells.length false)) (.cst y) .leaf m = some (.slice m.next 0 (gcells.length + 1) (gcells.length + 1) false, m') ∧ At m' m.next e xt' (gcells ++ [v]) ∧ m'.next = m.next + 1 ∧ Keep m m' (fun x => x = b) ∧
      (m'.get b = m.get b ∨ ∃ c c' d, m.get b = some (.cells c) ∧ c.mv = Option.none ∧ m'.get b = some (.cells c') ∧ c'.n = gcells.length ∧ c'.cs = c.cs ∧ c'.zero = c.zero ∧ c'.dirty = c.dirty ∧ c'.mv = some m.next ∧ m'.get m.next = some (.cells d) ∧ d.dirty = false ∧ d.mv = Option.none) := by
  obtain ⟨hy1, hy2, _⟩ := hy
  have e0 : rApp e 1 bytes z (.cst (.slice b 0 gcells.length gcells.length false)) (.cst y) .leaf m = aappend e 1 bytes z m (.slice b 0 gcells.length gcells.length false) 1 [v] := by
    show (ob (Am.lenA y) fun k => ob (firstA m 1 k y) fun new => aappend e 1 bytes z m _ k new) = _
    rw [hy1]
    show (ob (firstA m 1 1 y) fun new => aappend e 1 bytes z m _ 1 new) = _
    rw [hy2]; rfl
  obtain ⟨c, c1, c2, c3, c4, c5, c6, c7⟩ := h.row
  have hrd : m.rdN b 0 (gcells.length * 1) = some gcells := by rw [h.rdN (by omega)]; simp
  rw [e0, aappend_sl, nble, decide_eq_false (by omega), bc_false, hroom, bc_true, M.cel_some.2 c1, v_ob, hrd, v_ob]
  have q1 : (false || (c.mv.isNone && c.exact)) = xt := by rw [c4, c6]; simp
  have q2 : (c.mv.isNone && (!c.ro && (Nat.beq c.elem e && (Nat.ble gcells.length gcells.length && Nat.beq (0 + gcells.length * 1) c.n)))) = true := by
    rw [c4, c5, c2, show 0 + gcells.length * 1 = c.n by rw [c3]; omega, Nat.beq_refl, Nat.beq_refl, nble, decide_eq_true (Nat.le_refl _)]; rfl
  rw [q1, q2]
  have hbn := h.lt hw
  cases xt with
  | true =>
    obtain ⟨s', m', h1, h2, h3, h4⟩ := appNew_at (m := m) (e := e) (sz := 1) (z := z) (cs := gcells ++ [v]) (need := gcells.length + 1) (by simp) (by omega) hw
    have hs : s' = .slice m.next 0 (gcells.length + 1) (gcells.length + 1) false := by
      unfold appNew at h1
      rw [fc_eq] at h1
      cases h1; rfl
    subst hs
    cases h2 with
    | @row _ _ _ _ junk xt' h5 h6 h7 =>
      have hj : junk = [] := List.length_eq_zero_iff.1 (by omega)
      subst hj
      rw [List.append_nil] at h5
      exact ⟨m', xt', h1, h5, h4, h3.mono fun _ _ h => h.elim, .inl (h3.get b hbn fun h => h)⟩
  | false =>
    have hn1 : Nat.mul (gcells.length + 1) 1 = (gcells ++ [v]).length := by simp
    refine ⟨_, false, rfl, ⟨_, by rw [M.get_new, M.next_put, if_pos rfl], rfl, hn1, rfl, rfl, rfl, fun i v' hv => ?_⟩, by rw [M.next_new, M.next_put], ⟨by rw [M.next_new, M.next_put]; omega, Wf.new fun b' hb' => ?_, fun b' hb' hf => ?_⟩, .inr ⟨c, ⟨c.elem, gcells.length * 1, c.cs, c.zero, some m.next, c.dirty || !Nat.beq (gcells.length * 1) c.n, c.exact, c.ro⟩, ⟨e, Nat.mul (gcells.length + 1) 1, bc (Nat.beq 0 0) (fillP [v] (gcells.length * 1) c.cs) (fillP (gcells ++ [v]) 0 .leaf), bc (Nat.beq 0 0) c.zero z, none, false, false, false⟩, c1, c4, by rw [M.get_new, M.next_put, if_neg (by omega), M.get_put, if_pos rfl], Nat.mul_one _, rfl, rfl, ?_, rfl, by rw [M.get_new, M.next_put, if_pos rfl]; rfl, rfl, rfl⟩⟩
    · show Cel.rd ⟨e, Nat.mul (gcells.length + 1) 1, bc (Nat.beq 0 0) (fillP [v] (gcells.length * 1) c.cs) (fillP (gcells ++ [v]) 0 .leaf), bc (Nat.beq 0 0) c.zero z, none, false, false, false⟩ i = v'
      rw [rd_fill c [v] (gcells.length * 1) i ⟨e, Nat.mul (gcells.length + 1) 1, bc (Nat.beq 0 0) (fillP [v] (gcells.length * 1) c.cs) (fillP (gcells ++ [v]) 0 .leaf), bc (Nat.beq 0 0) c.zero z, none, false, false, false⟩ rfl rfl]
      have hi := (List.getElem?_eq_some_iff.1 hv).1
      rw [List.length_append] at hi
      simp only [List.length_cons, List.length_nil] at hi ⊢
      by_cases hx : gcells.length * 1 ≤ i ∧ i < gcells.length * 1 + (0 + 1)
      · rw [if_pos hx]
        rw [List.getElem?_append_right (by omega)] at hv
        rw [Nat.mul_one, hv]; rfl
      · rw [if_neg hx]
        apply c7
        rw [List.getElem?_append_left (by omega)] at hv
        exact hv
    · rw [M.next_put] at hb'
      rw [M.get_put, if_neg (by omega)]
      exact hw b' hb'
    · rw [M.get_new, M.next_put, if_neg (by omega), M.get_put, if_neg hf]
    · show (c.dirty || !Nat.beq (gcells.length * 1) c.n) = c.dirty
      rw [Nat.mul_one, c3, Nat.beq_refl]; simp
theorem room_le {need bytes : Nat} (h : need * bytes ≤ 140737488355328) (h1 : 1 ≤ bytes) (h2 : bytes ≤ 35) : room need bytes = true := by
  have h3 : need * 1 ≤ need * bytes := Nat.mul_le_mul_left _ h1
  unfold room
  rw [nble, nble, nble, decide_eq_true (show Nat.mul need bytes ≤ 140737488355328 from h), decide_eq_true (show need ≤ 140737488355328 by omega), decide_eq_true (by omega)]
  rfl
theorem GrAt.app {bytes : Nat} {z : List AV} {y v : AV} (h : GrAt m e x cells g gcells own) (hw : Wf m) (hy : Rds m y 1 1 [v]) (hroom : room (gcells.length + 1) bytes = true) :
    ∃ g' m' own', rApp e 1 bytes z (.cst g) (.cst y) .leaf m = some (g', m') ∧ GrAt m' e x cells g' (gcells ++ [v]) own' ∧ Keep m m' (fun b => b ∈ own) ∧ (∀ b ∈ own', b ∈ own ∨ (m.next ≤ b ∧ b < m'.next)) := by
  cases h with
  | none =>
    obtain ⟨hy1, hy2, _⟩ := hy
    obtain ⟨s', m', h1, h2, h3, h4⟩ := appNew_at (m := m) (e := e) (sz := 1) (z := z) (cs := [v]) (need := 1) (by simp) (by omega) hw
    have hs : s' = .slice m.next 0 1 1 false := by
      unfold appNew at h1
      rw [fc_eq] at h1
      cases h1; rfl
    subst hs
    refine ⟨.slice m.next 0 1 1 false, m', [m.next], ?_, ?_, h3.mono fun _ _ h => h.elim, fun b hb => .inr (by cases List.mem_singleton.1 hb; omega)⟩
    · show (ob (Am.lenA y) fun k => ob (firstA m 1 k y) fun new => aappend e 1 bytes z m nils k new) = _
      rw [hy1, v_ob, hy2, v_ob]
      show bc (Nat.beq 1 0) (some (nils, m)) (bc (room 1 bytes) (appNew e 1 z m 1 [v]) Option.none) = _
      have hroom : room 1 bytes = true := hroom
      rw [hroom]; exact h1
    · cases h2 with
      | @row _ _ _ _ junk xt' h5 h6 h7 =>
        have hj : junk = [] := List.length_eq_zero_iff.1 (by omega)
        subst hj
        rw [List.append_nil] at h5
        exact .new (gcells := [v]) h5 (by simp)
  | @emp b h =>
    obtain ⟨hy1, hy2, _⟩ := hy
    obtain ⟨s', m', h1, h2, h3, h4⟩ := appNew_at (m := m) (e := e) (sz := 1) (z := z) (cs := [v]) (need := 1) (by simp) (by omega) hw
    have hs : s' = .slice m.next 0 1 1 false := by
      unfold appNew at h1
      rw [fc_eq] at h1
      cases h1; rfl
    subst hs
    obtain ⟨c, c1, c2, c3, c4, c5, c6, c7⟩ := h.row
    have hbn := h.lt hw
    have hrd : m.rdN b 0 (0 * 1) = some [] := by rw [h.rdN (by simp)]; simp
    refine ⟨.slice m.next 0 1 1 false, m', [b, m.next], ?_, ?_, h3.mono fun _ _ h => h.elim, fun x hx => ?_⟩
    · show (ob (Am.lenA y) fun k => ob (firstA m 1 k y) fun new => aappend e 1 bytes z m (.slice b 0 0 0 false) k new) = _
      rw [hy1, v_ob, hy2, v_ob, aappend_sl, nble, decide_eq_false (by omega), bc_false]
      have hroom : room (0 + 1) bytes = true := hroom
      rw [hroom, bc_true, M.cel_some.2 c1, v_ob, hrd, v_ob, c4, c6]
      exact h1
    · cases h2 with
      | @row _ _ _ _ junk xt' h5 h6 h7 =>
        have hj : junk = [] := List.length_eq_zero_iff.1 (by omega)
        subst hj
        rw [List.append_nil] at h5
        have hv : AtV m' b [] [] := At.v (l := []) (junk := []) (h.keep hw h3 fun h => h)
        exact GrAt.off (cap := 0) (gcells := [v]) (cells := []) hv (by simp) h5 (by simp) (show b ≠ m.next by omega) (.inl (by simp))
    · rcases List.mem_cons.1 hx with rfl | hx
      · exact .inl (by simp)
      · cases List.mem_singleton.1 hx; exact .inr (by omega)
  | @same b cap xt cells ext junk h hj hc h0 =>
    by_cases hfit : (cells ++ ext).length + 1 ≤ cap
    · obtain ⟨hy1, hy2, _⟩ := hy
      match junk, hj with
      | [], hj => simp at hj; simp at hfit hc; omega
      | j0 :: junk, hj =>
      have hwl : (cells ++ ext).length * 1 + [v].length ≤ ((cells ++ ext) ++ (j0 :: junk)).length := by simp; omega
      have hup := h.upd (i := (cells ++ ext).length * 1) (vs := [v]) hwl
      have hsp : splice ((cells ++ ext) ++ (j0 :: junk)) ((cells ++ ext).length * 1) [v] = (cells ++ (ext ++ [v])) ++ junk := by
        unfold splice
        rw [Nat.mul_one, List.take_left, show (cells ++ ext).length + [v].length = (cells ++ ext).length + 1 from rfl, ← List.drop_drop, List.drop_left]
        simp
      rw [hsp] at hup
      have hlen : (cells ++ ext).length + 1 = (cells ++ (ext ++ [v])).length := by simp; omega
      refine ⟨.slice b 0 ((cells ++ ext).length + 1) cap false, m.upd b ((cells ++ ext).length * 1) [v], [b], ?_, ?_, Keep.upd hw (fun _ => by simp), fun b' hb' => .inl hb'⟩
      · show (ob (Am.lenA y) fun k => ob (firstA m 1 k y) fun new => aappend e 1 bytes z m (.slice b 0 (cells ++ ext).length cap false) k new) = _
        rw [hy1, v_ob, hy2, v_ob, aappend_sl, nble, decide_eq_true hfit, bc_true, h.wr hwl]; rfl
      · have := GrAt.same (m := m.upd b ((cells ++ ext).length * 1) [v]) (e := e) (cap := cap) (cells := cells) (ext := ext ++ [v]) (junk := junk) hup (by simp at hj ⊢; omega) (by omega) h0
        rw [← hlen] at this
        rw [List.append_assoc]; exact this
    · have hcap : cap = (cells ++ ext).length := by omega
      subst hcap
      have hj0 : junk = [] := List.length_eq_zero_iff.1 (by omega)
      subst hj0
      rw [List.append_nil] at h
      obtain ⟨m', xt', e1, h1, n1, k1, hold⟩ := app_full (z := z) h h0 hw hy hroom
      have hbn := h.lt hw
      have hcl : (cells ++ ext).length + 1 = (cells ++ ext ++ [v]).length := by rw [List.length_append (as := cells ++ ext)]; rfl
      have hx : ∃ ch, AtV m' b cells ch ∧ (ch = [] ∨ ch = [m.next]) := by
        rcases hold with hg | ⟨c, c', d, g1, g2, g3, g4, g5, g6, g7, g8, g9, g10, g11⟩
        · exact ⟨[], (At.v (l := cells) (junk := ext) h).row.elim fun c ⟨a1, a2, a3, a4⟩ => ⟨c, hg.trans a1, a2, a3, by
            cases hm : c.mv with
            | none => trivial
            | some z => rw [hm] at a4; exact a4.elim⟩, .inl rfl⟩
        · obtain ⟨c0, a1, a2, a3, a4⟩ := (At.v (l := cells) (junk := ext) h).row
          rw [g1] at a1
          cases a1
          refine ⟨[m.next], ⟨c', g3, by rw [g4]; simp, fun i v hv => (cel_rd g5 g6 i).trans (a3 i v hv), ?_⟩, .inr rfl⟩
          rw [g8]
          refine ⟨rfl, d, g9, g10, ?_⟩
          rw [g11]; trivial
      obtain ⟨ch, hv, hch⟩ := hx
      have hle : cells.length ≤ (cells ++ ext).length := by simp
      have hlch : ch.length ≤ 1 := by rcases hch with rfl | rfl <;> simp
      refine ⟨_, m', b :: m.next :: ch, e1, ?_, k1.mono fun _ _ e => by simp [e], fun b' hb' => ?_⟩
      · have := GrAt.off (m := m') (e := e) (cap := (cells ++ ext).length) (gcells := cells ++ ext ++ [v]) hv (by omega) h1 (by omega) (show b ≠ m.next by omega) (by rcases hch with rfl | rfl; exact .inl (by simp); exact .inr ⟨[], rfl⟩)
        rw [hcl]; exact this
      · rcases List.mem_cons.1 hb' with rfl | hb'
        · exact .inl (by simp)
        · rcases List.mem_cons.1 hb' with rfl | hb'
          · exact .inr (by omega)
          · rcases hch with rfl | rfl
            · cases hb'
            · cases List.mem_singleton.1 hb'; exact .inr (by omega)
  | @off b b' cap xt cells gcells ch h hl hg h0 hne hch =>
    obtain ⟨m', xt', e1, h1, n1, k1, hold⟩ := app_full (z := z) hg h0 hw hy hroom
    have hcl : gcells.length + 1 = (gcells ++ [v]).length := by simp
    have hlt : ∀ {x}, x ∈ b :: b' :: ch → x < m.next := fun hx => GrAt.lt (GrAt.off (cap := cap) h hl hg h0 hne hch) hw hx
    have hbn : b < m.next := hlt (by simp)
    have hb'n : b' < m.next := hlt (by simp)
    obtain ⟨c, a1, a2, a3, a4⟩ := h.row
    have gb : m'.get b = m.get b := k1.get b hbn hne
    have gx : ∀ x ∈ ch, x ≠ b' → m'.get x = m.get x := fun x hx hne => k1.get x (hlt (by simp [hx])) hne
    have hres : ∃ ch', AtV m' b cells ch' ∧ ch'.length ≤ ch.length + 1 ∧ (m.next ∉ ch' ∨ ∃ ch0, ch' = ch0 ++ [m.next]) ∧ ∀ x ∈ ch', x ∈ ch ∨ x = m.next := by
      by_cases hold0 : m'.get b' = m.get b'
      · refine ⟨ch, ⟨c, gb.trans a1, a2, a3, a4.of_get fun x hx => ?_⟩, by omega, .inl fun hx => ?_, fun x hx => .inl hx⟩
        · by_cases hxb : x = b'
          · rw [hxb]; exact hold0
          · exact gx x hx hxb
        · have := hlt (x := m.next) (by simp [hx]); omega
      · rcases hold with hg | ⟨c1, c', d, g1, g2, g3, g4, g5, g6, g7, g8, g9, g10, g11⟩
        · exact absurd hg hold0
        · rcases hch with hch | ⟨ch0, rfl⟩
          · refine ⟨ch, ⟨c, gb.trans a1, a2, a3, a4.of_get fun x hx => gx x hx fun e => hch (e ▸ hx)⟩, by omega, .inl fun hx => ?_, fun x hx => .inl hx⟩
            have := hlt (x := m.next) (by simp [hx]); omega
          · refine ⟨ch0 ++ [b'] ++ [m.next], ⟨c, gb.trans a1, a2, a3, a4.snoc g1 g2 g3 g7 g8 g9 g10 g11 fun x hx hxb => gx x (by simp [hx]) hxb⟩, by simp, .inr ⟨_, rfl⟩, fun x hx => ?_⟩
            rcases List.mem_append.1 hx with hx | hx
            · exact .inl hx
            · exact .inr (List.mem_singleton.1 hx)
    obtain ⟨ch', hv', hl', hch', hsub⟩ := hres
    refine ⟨_, m', b :: m.next :: ch', e1, ?_, k1.mono fun _ _ e => by simp [e], fun x hx => ?_⟩
    · have := GrAt.off (m := m') (e := e) (cap := cap) (gcells := gcells ++ [v]) hv' (by simp; omega) h1 (by simp) (show b ≠ m.next by omega) hch'
      rw [hcl]; exact this
    · rcases List.mem_cons.1 hx with rfl | hx
      · exact .inl (by simp)
      · rcases List.mem_cons.1 hx with rfl | hx
        · exact .inr (by omega)
        · rcases hsub x hx with hx | rfl
          · exact .inl (by simp [hx])
          · exact .inr (by omega)
  | @new b' xt gcells hg h0 =>
    obtain ⟨m', xt', e1, h1, n1, k1, _⟩ := app_full (z := z) hg h0 hw hy hroom
    have hcl : gcells.length + 1 = (gcells ++ [v]).length := by simp
    refine ⟨_, m', [m.next], e1, ?_, k1.mono fun _ _ e => by simp [e], fun x hx => .inr (by cases List.mem_singleton.1 hx; omega)⟩
    rw [hcl]
    exact .new h1 (by simp)
end
end Go.Am
