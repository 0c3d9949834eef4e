import Derived.Test.YtooooiidpaecmaaGreatAmZb
import Derived.Test.YtooooiidpaecmaaGreatAmZg
/- The abstract machine: what comes of code, as it is computed by rewriting alone (GO: operations, GT: with a trace, GX: code). -/
namespace Go.Am
open Go Go.RowKit
section
variable {P : Program} {T : Tb}
def GO (P : Program) (T : Tb) : List CO → (Fr → M → Prop) → Fr → M → Prop
 | [], Q, fr, m => Q fr m
 | .op d none o :: l, Q, fr, m => match run o fr m with
  | some (v, m1) => GO P T l Q (putD d v fr) m1
  | none => False
 | .op d (some (t, w)) o :: l, Q, fr, m => match wantV w (ev (.tmp t) fr) with
  | some true => match run o fr m with
   | some (v, m1) => GO P T l Q (putD d v fr) m1
   | none => False
  | some false => GO P T l Q (putD d AV.undef fr) m
  | none => False
 | .call d none f args :: l, Q, fr, m => match ev f fr with
  | .func g caps => WpF P T g (evs args fr ++ caps) m fun v m1 => GO P T l Q (putD d v fr) m1
  | .yield y => WpY P T y (evs args fr) m fun v m1 => GO P T l Q (putD d v fr) m1
  | .bnd g first => WpF P T g (first ++ evs args fr) m fun v m1 => GO P T l Q (putD d v fr) m1
  | _ => False
 | .call d (some (t, w)) f args :: l, Q, fr, m => match wantV w (ev (.tmp t) fr) with
  | some true => match f with
   | .cst (.func g []) => WpF P T g (evs args fr) m fun v m1 => GO P T l Q (putD d v fr) m1
   | _ => False
  | some false => match f with
   | .cst (.func _ []) => GO P T l Q (putD d AV.undef fr) m
   | _ => False
  | none => False
def GN (P : Program) (T : Tb) (r : R) (d : Option (List Bool)) (l : List CO) (Q : Fr → M → Prop) (fr : Fr) : Prop := match r with
 | some (v, m1) => GO P T l Q (putD d v fr) m1
 | none => False
def GG (P : Program) (T : Tb) (w : Option Bool) (o : OP) (d : Option (List Bool)) (l : List CO) (Q : Fr → M → Prop) (fr : Fr) (m : M) : Prop := match w with
 | some true => GN P T (run o fr m) d l Q fr
 | some false => GO P T l Q (putD d AV.undef fr) m
 | none => False
def CK (P : Program) (T : Tb) (d : Option (List Bool)) (l : List CO) (Q : Fr → M → Prop) (fr : Fr) (v : AV) (m : M) : Prop := GO P T l Q (putD d v fr) m
def GF (P : Program) (T : Tb) (f : AV) (args : List AV) (d : Option (List Bool)) (l : List CO) (Q : Fr → M → Prop) (fr : Fr) (m : M) : Prop := match f with
 | .func g caps => WpF P T g (args ++ caps) m (CK P T d l Q fr)
 | .yield y => WpY P T y args m (CK P T d l Q fr)
 | .bnd g first => WpF P T g (first ++ args) m (CK P T d l Q fr)
 | _ => False
def GFG (P : Program) (T : Tb) (w : Option Bool) (g : FuncId) (args : List AV) (d : Option (List Bool)) (l : List CO) (Q : Fr → M → Prop) (fr : Fr) (m : M) : Prop := match w with
 | some true => WpF P T g args m (CK P T d l Q fr)
 | some false => GO P T l Q (putD d AV.undef fr) m
 | none => False
theorem GO_nil {Q : Fr → M → Prop} {fr : Fr} {m : M} : GO P T [] Q fr m = Q fr m := rfl
theorem GO_op {d : Option (List Bool)} {o : OP} {l : List CO} {Q : Fr → M → Prop} {fr : Fr} {m : M} : GO P T (.op d none o :: l) Q fr m = GN P T (run o fr m) d l Q fr := rfl
theorem GO_opG {d : Option (List Bool)} {t : Nat} {w : Bool} {o : OP} {l : List CO} {Q : Fr → M → Prop} {fr : Fr} {m : M} : GO P T (.op d (some (pth t, w)) o :: l) Q fr m = GG P T (wantV w (ev (tm t) fr)) o d l Q fr m := rfl
theorem GO_call {d : Option (List Bool)} {f : RO} {args : List RO} {l : List CO} {Q : Fr → M → Prop} {fr : Fr} {m : M} : GO P T (.call d none f args :: l) Q fr m = GF P T (ev f fr) (evs args fr) d l Q fr m := rfl
theorem GO_callG {d : Option (List Bool)} {t : Nat} {w : Bool} {g : FuncId} {args : List RO} {l : List CO} {Q : Fr → M → Prop} {fr : Fr} {m : M} : GO P T (.call d (some (pth t, w)) (.cst (.func g [])) args :: l) Q fr m = GFG P T (wantV w (ev (tm t) fr)) g (evs args fr) d l Q fr m := rfl
theorem GN_some {v : AV} {m1 : M} {d : Option (List Bool)} {l : List CO} {Q : Fr → M → Prop} {fr : Fr} : GN P T (some (v, m1)) d l Q fr = GO P T l Q (putD d v fr) m1 := rfl
theorem GG_true {o : OP} {d : Option (List Bool)} {l : List CO} {Q : Fr → M → Prop} {fr : Fr} {m : M} : GG P T (some true) o d l Q fr m = GN P T (run o fr m) d l Q fr := rfl
theorem GG_false {o : OP} {d : Option (List Bool)} {l : List CO} {Q : Fr → M → Prop} {fr : Fr} {m : M} : GG P T (some false) o d l Q fr m = GO P T l Q (putD d AV.undef fr) m := rfl
theorem GF_func {g : FuncId} {caps args : List AV} {d : Option (List Bool)} {l : List CO} {Q : Fr → M → Prop} {fr : Fr} {m : M} : GF P T (.func g caps) args d l Q fr m = WpF P T g (args ++ caps) m (CK P T d l Q fr) := rfl
theorem GF_bnd {g : FuncId} {first args : List AV} {d : Option (List Bool)} {l : List CO} {Q : Fr → M → Prop} {fr : Fr} {m : M} : GF P T (.bnd g first) args d l Q fr m = WpF P T g (first ++ args) m (CK P T d l Q fr) := rfl
theorem o_bfn (g : FuncId) (l : List RO) (fr : Fr) (m : M) : run (.bfn g l) fr m = some (.bnd g (evs l fr), m) := rfl
theorem GF_yield {y : Nat} {args : List AV} {d : Option (List Bool)} {l : List CO} {Q : Fr → M → Prop} {fr : Fr} {m : M} : GF P T (.yield y) args d l Q fr m = WpY P T y args m (CK P T d l Q fr) := rfl
theorem GFG_true {g : FuncId} {args : List AV} {d : Option (List Bool)} {l : List CO} {Q : Fr → M → Prop} {fr : Fr} {m : M} : GFG P T (some true) g args d l Q fr m = WpF P T g args m (CK P T d l Q fr) := rfl
theorem GFG_false {g : FuncId} {args : List AV} {d : Option (List Bool)} {l : List CO} {Q : Fr → M → Prop} {fr : Fr} {m : M} : GFG P T (some false) g args d l Q fr m = GO P T l Q (putD d AV.undef fr) m := rfl
theorem CK_app {d : Option (List Bool)} {l : List CO} {Q : Fr → M → Prop} {fr : Fr} {v : AV} {m : M} : CK P T d l Q fr v m = GO P T l Q (putD d v fr) m := rfl
theorem WpO_bv {d : Option (List Bool)} {f : RO} {g : FuncId} {first : List AV} {args : List RO} {l : List CO} {Q : Fr → M → Prop} {fr : Fr} {m : M} (hf : ev f fr = .bnd g first) (h : WpOC P T g (first ++ evs args fr) m d l fr Q) : WpO P T (.call d none f args :: l) fr m Q := by
 have e : ∀ n, runOps (cfN P T n) (.call d none f args :: l) fr m = nextOp d (runOps (cfN P T n) l) fr (callV (cfN P T n) (ev f fr) (evs args fr) m) := fun n => rfl
 unfold WpO
 simp only [e, hf]
 exact h
theorem GO_ok : ∀ {l : List CO} {Q : Fr → M → Prop} {fr : Fr} {m : M}, GO P T l Q fr m → WpO P T l fr m Q
 | [], Q, fr, m, h => by rw [WpO_nil]; exact h
 | .op d none o :: l, Q, fr, m, h => by
  rw [WpO_op]
  have h : GN P T (run o fr m) d l Q fr := h
  unfold GN at h
  unfold WpON
  split at h
  ·rename_i v m1 e
   rw [e]
   exact GO_ok h
  ·exact h.elim
 | .op d (some (t, w)) o :: l, Q, fr, m, h => by
  have e : ∀ n, runOps (cfN P T n) (.op d (some (t, w)) o :: l) fr m = ob (wantV w (ev (.tmp t) fr)) fun t => bc t (nextOp d (runOps (cfN P T n) l) fr (run o fr m)) (runOps (cfN P T n) l (putD d AV.undef fr) m) := fun n => rfl
  have h : GG P T (wantV w (ev (.tmp t) fr)) o d l Q fr m := h
  unfold GG at h
  split at h
  ·rename_i e1
   unfold GN at h
   split at h
   ·rename_i v m1 e2
    obtain ⟨N, f, m', h1, h2⟩ := GO_ok h
    refine ⟨N, f, m', fun n hn => ?_, h2⟩
    rw [e, e1, e2]
    exact h1 n hn
   ·exact h.elim
  ·rename_i e1
   obtain ⟨N, f, m', h1, h2⟩ := GO_ok h
   refine ⟨N, f, m', fun n hn => ?_, h2⟩
   rw [e, e1]
   exact h1 n hn
  ·exact h.elim
 | .call d none f args :: l, Q, fr, m, h => by
  have h : GF P T (ev f fr) (evs args fr) d l Q fr m := h
  unfold GF at h
  split at h
  ·rename_i g caps e1
   exact WpO_fv e1 (WpOC.to (h.mono fun v m1 h => GO_ok h))
  ·rename_i y e1
   obtain ⟨N, v, m1, h1, h2⟩ := h
   exact WpO_yv e1 ⟨N, v, m1, h1, GO_ok h2⟩
  ·rename_i g first e1
   exact WpO_bv e1 (WpOC.to (h.mono fun v m1 h => GO_ok h))
  ·exact h.elim
 | .call d (some (t, w)) f args :: l, Q, fr, m, h => by
  have h : (match (generalizing := false) wantV w (ev (.tmp t) fr) with
   | some true => match (generalizing := false) f with
    | .cst (.func g []) => WpF P T g (evs args fr) m fun v m1 => GO P T l Q (putD d v fr) m1
    | _ => False
   | some false => match (generalizing := false) f with
    | .cst (.func _ []) => GO P T l Q (putD d AV.undef fr) m
    | _ => False
   | none => False) := h
  have e : ∀ g n, runOps (cfN P T n) (.call d (some (t, w)) (.cst (.func g [])) args :: l) fr m = ob (wantV w (ev (.tmp t) fr)) fun t => bc t (nextOp d (runOps (cfN P T n) l) fr (acallF P T (aexec P T n) g (evs args fr ++ []) m)) (runOps (cfN P T n) l (putD d AV.undef fr) m) := fun g n => rfl
  split at h
  ·rename_i e1
   split at h
   ·rename_i g
    obtain ⟨N, v, m1, h1, h2⟩ := h
    obtain ⟨N2, f, m', h3, h4⟩ := GO_ok h2
    refine ⟨max N N2, f, m', fun n hn => ?_, h4⟩
    rw [e, e1, List.append_nil, h1 n (by omega)]
    exact h3 n (by omega)
   ·exact h.elim
  ·rename_i e1
   split at h
   ·rename_i g
    obtain ⟨N, f, m', h1, h2⟩ := GO_ok h
    refine ⟨N, f, m', fun n hn => ?_, h2⟩
    rw [e, e1]
    exact h1 n hn
   ·exact h.elim
  ·exact h.elim
def GT (P : Program) (T : Tb) : List CO → (List T3 → Prop) → List T3 → Fr → M → Prop
 | [], Q, H, fr, m => Q (H ++ [⟨fr, m, AV.undef⟩])
 | .op d none o :: l, Q, H, fr, m => match run o fr m with
  | some (v, m1) => GT P T l Q (H ++ [⟨fr, m, v⟩]) (putD d v fr) m1
  | none => False
 | .op d (some (t, w)) o :: l, Q, H, fr, m => match wantV w (ev (.tmp t) fr) with
  | some true => match run o fr m with
   | some (v, m1) => GT P T l Q (H ++ [⟨fr, m, v⟩]) (putD d v fr) m1
   | none => False
  | some false => GT P T l Q (H ++ [⟨fr, m, AV.undef⟩]) (putD d AV.undef fr) m
  | none => False
 | .call d none f args :: l, Q, H, fr, m => match ev f fr with
  | .func g caps => WpF P T g (evs args fr ++ caps) m fun v m1 => GT P T l Q (H ++ [⟨fr, m, v⟩]) (putD d v fr) m1
  | _ => False
 | .call d (some (t, w)) f args :: l, Q, H, fr, m => match wantV w (ev (.tmp t) fr) with
  | some true => match f with
   | .cst (.func g []) => WpF P T g (evs args fr) m fun v m1 => GT P T l Q (H ++ [⟨fr, m, v⟩]) (putD d v fr) m1
   | _ => False
  | some false => match f with
   | .cst (.func _ []) => GT P T l Q (H ++ [⟨fr, m, AV.undef⟩]) (putD d AV.undef fr) m
   | _ => False
  | none => False
def TN (P : Program) (T : Tb) (r : R) (d : Option (List Bool)) (l : List CO) (Q : List T3 → Prop) (H : List T3) (fr : Fr) (m : M) : Prop := match r with
 | some (v, m1) => GT P T l Q (H ++ [⟨fr, m, v⟩]) (putD d v fr) m1
 | none => False
def TG (P : Program) (T : Tb) (w : Option Bool) (o : OP) (d : Option (List Bool)) (l : List CO) (Q : List T3 → Prop) (H : List T3) (fr : Fr) (m : M) : Prop := match w with
 | some true => TN P T (run o fr m) d l Q H fr m
 | some false => GT P T l Q (H ++ [⟨fr, m, AV.undef⟩]) (putD d AV.undef fr) m
 | none => False
def TK (P : Program) (T : Tb) (d : Option (List Bool)) (l : List CO) (Q : List T3 → Prop) (H : List T3) (fr : Fr) (m : M) (v : AV) (m1 : M) : Prop := GT P T l Q (H ++ [⟨fr, m, v⟩]) (putD d v fr) m1
def TFG (P : Program) (T : Tb) (w : Option Bool) (g : FuncId) (args : List AV) (d : Option (List Bool)) (l : List CO) (Q : List T3 → Prop) (H : List T3) (fr : Fr) (m : M) : Prop := match w with
 | some true => WpF P T g args m (TK P T d l Q H fr m)
 | some false => GT P T l Q (H ++ [⟨fr, m, AV.undef⟩]) (putD d AV.undef fr) m
 | none => False
def TF (P : Program) (T : Tb) (f : AV) (args : List AV) (d : Option (List Bool)) (l : List CO) (Q : List T3 → Prop) (H : List T3) (fr : Fr) (m : M) : Prop := match f with
 | .func g caps => WpF P T g (args ++ caps) m (TK P T d l Q H fr m)
 | _ => False
theorem TF_func {g : FuncId} {caps args : List AV} {d : Option (List Bool)} {l : List CO} {Q : List T3 → Prop} {H : List T3} {fr : Fr} {m : M} : TF P T (.func g caps) args d l Q H fr m = WpF P T g (args ++ caps) m (TK P T d l Q H fr m) := rfl
theorem GT_nil {Q : List T3 → Prop} {H : List T3} {fr : Fr} {m : M} : GT P T [] Q H fr m = Q (H ++ [⟨fr, m, AV.undef⟩]) := rfl
theorem GT_op {d : Option (List Bool)} {o : OP} {l : List CO} {Q : List T3 → Prop} {H : List T3} {fr : Fr} {m : M} : GT P T (.op d none o :: l) Q H fr m = TN P T (run o fr m) d l Q H fr m := rfl
theorem GT_opG {d : Option (List Bool)} {t : Nat} {w : Bool} {o : OP} {l : List CO} {Q : List T3 → Prop} {H : List T3} {fr : Fr} {m : M} : GT P T (.op d (some (pth t, w)) o :: l) Q H fr m = TG P T (wantV w (ev (tm t) fr)) o d l Q H fr m := rfl
theorem GT_call {d : Option (List Bool)} {f : RO} {args : List RO} {l : List CO} {Q : List T3 → Prop} {H : List T3} {fr : Fr} {m : M} : GT P T (.call d none f args :: l) Q H fr m = TF P T (ev f fr) (evs args fr) d l Q H fr m := rfl
theorem GT_callG {d : Option (List Bool)} {t : Nat} {w : Bool} {g : FuncId} {args : List RO} {l : List CO} {Q : List T3 → Prop} {H : List T3} {fr : Fr} {m : M} : GT P T (.call d (some (pth t, w)) (.cst (.func g [])) args :: l) Q H fr m = TFG P T (wantV w (ev (tm t) fr)) g (evs args fr) d l Q H fr m := rfl
theorem TN_some {v : AV} {m1 : M} {d : Option (List Bool)} {l : List CO} {Q : List T3 → Prop} {H : List T3} {fr : Fr} {m : M} : TN P T (some (v, m1)) d l Q H fr m = GT P T l Q (H ++ [⟨fr, m, v⟩]) (putD d v fr) m1 := rfl
theorem TG_true {o : OP} {d : Option (List Bool)} {l : List CO} {Q : List T3 → Prop} {H : List T3} {fr : Fr} {m : M} : TG P T (some true) o d l Q H fr m = TN P T (run o fr m) d l Q H fr m := rfl
theorem TG_false {o : OP} {d : Option (List Bool)} {l : List CO} {Q : List T3 → Prop} {H : List T3} {fr : Fr} {m : M} : TG P T (some false) o d l Q H fr m = GT P T l Q (H ++ [⟨fr, m, AV.undef⟩]) (putD d AV.undef fr) m := rfl
theorem TFG_true {g : FuncId} {args : List AV} {d : Option (List Bool)} {l : List CO} {Q : List T3 → Prop} {H : List T3} {fr : Fr} {m : M} : TFG P T (some true) g args d l Q H fr m = WpF P T g args m (TK P T d l Q H fr m) := rfl
theorem TFG_false {g : FuncId} {args : List AV} {d : Option (List Bool)} {l : List CO} {Q : List T3 → Prop} {H : List T3} {fr : Fr} {m : M} : TFG P T (some false) g args d l Q H fr m = GT P T l Q (H ++ [⟨fr, m, AV.undef⟩]) (putD d AV.undef fr) m := rfl
theorem TK_app {d : Option (List Bool)} {l : List CO} {Q : List T3 → Prop} {H : List T3} {fr : Fr} {m m1 : M} {v : AV} : TK P T d l Q H fr m v m1 = GT P T l Q (H ++ [⟨fr, m, v⟩]) (putD d v fr) m1 := rfl
theorem GT_ok : ∀ {l : List CO} {Q : List T3 → Prop} {H : List T3} {fr : Fr} {m : M}, GT P T l Q H fr m → WpT P T l fr m H Q
 | [], Q, H, fr, m, h => by rw [WpT_nil]; exact h
 | .op d none o :: l, Q, H, fr, m, h => by
  rw [WpT_op]
  have h : TN P T (run o fr m) d l Q H fr m := h
  unfold TN at h
  unfold WpTN
  split at h
  ·rename_i v m1 e
   rw [e]
   exact GT_ok h
  ·exact h.elim
 | .op d (some (t, w)) o :: l, Q, H, fr, m, h => by
  have e : ∀ n, trO (cfN P T n) (.op d (some (t, w)) o :: l) fr m = ob (ob (wantV w (ev (.tmp t) fr)) fun t => bc t (run o fr m) (some (AV.undef, m))) fun q => ob (trO (cfN P T n) l (putD d q.1 fr) q.2) fun t => some (⟨fr, m, q.1⟩ :: t) := fun n => rfl
  have h : TG P T (wantV w (ev (.tmp t) fr)) o d l Q H fr m := h
  unfold TG at h
  unfold WpT
  simp only [e]
  split at h
  ·rename_i e1
   unfold TN at h
   split at h
   ·rename_i v m1 e2
    rw [e1]
    simp only [ob, bc_true, e2]
    exact trStep.2 (GT_ok h)
   ·exact h.elim
  ·rename_i e1
   rw [e1]
   simp only [ob, bc_false]
   exact trStep.2 (GT_ok h)
  ·exact h.elim
 | .call d none f args :: l, Q, H, fr, m, h => by
  have e : ∀ n, trO (cfN P T n) (.call d none f args :: l) fr m = ob (callV (cfN P T n) (ev f fr) (evs args fr) m) fun q => ob (trO (cfN P T n) l (putD d q.1 fr) q.2) fun t => some (⟨fr, m, q.1⟩ :: t) := fun n => rfl
  have h : TF P T (ev f fr) (evs args fr) d l Q H fr m := h
  unfold TF at h
  unfold WpT
  simp only [e]
  split at h
  ·rename_i g caps e1
   obtain ⟨N, v, m1, h1, h2⟩ := h
   obtain ⟨N2, t, h3, h4⟩ := GT_ok (show GT P T l Q (H ++ [⟨fr, m, v⟩]) (putD d v fr) m1 from h2)
   refine ⟨max N N2, ⟨fr, m, v⟩ :: t, fun n hn => ?_, by simpa using h4⟩
   rw [e1]
   show (ob (acallF P T (aexec P T n) g (evs args fr ++ caps) m) _) = _
   rw [h1 n (by omega)]
   show (ob (trO (cfN P T n) l (putD d v fr) m1) _) = _
   rw [h3 n (by omega)]; rfl
  ·exact h.elim
 | .call d (some (t, w)) f args :: l, Q, H, fr, m, h => by
  have h : (match (generalizing := false) wantV w (ev (.tmp t) fr) with
   | some true => match (generalizing := false) f with
    | .cst (.func g []) => WpF P T g (evs args fr) m fun v m1 => GT P T l Q (H ++ [⟨fr, m, v⟩]) (putD d v fr) m1
    | _ => False
   | some false => match (generalizing := false) f with
    | .cst (.func _ []) => GT P T l Q (H ++ [⟨fr, m, AV.undef⟩]) (putD d AV.undef fr) m
    | _ => False
   | none => False) := h
  have e : ∀ g n, trO (cfN P T n) (.call d (some (t, w)) (.cst (.func g [])) args :: l) fr m = ob (ob (wantV w (ev (.tmp t) fr)) fun t => bc t (acallF P T (aexec P T n) g (evs args fr ++ []) m) (some (AV.undef, m))) fun q => ob (trO (cfN P T n) l (putD d q.1 fr) q.2) fun t => some (⟨fr, m, q.1⟩ :: t) := fun g n => rfl
  split at h
  ·rename_i e1
   split at h
   ·rename_i g
    have := WpTC.to (d := d) (l := l) (fr := fr) (H := H) (Q := Q) (h.mono fun v m1 h => GT_ok h)
    obtain ⟨N, t', h1, h2⟩ := this
    refine ⟨N, t', fun n hn => ?_, h2⟩
    rw [e, e1, List.append_nil]
    exact h1 n hn
   ·exact h.elim
  ·rename_i e1
   split at h
   ·rename_i g
    unfold WpT
    simp only [e, e1]
    simp only [ob, bc_false]
    exact trStep.2 (GT_ok h)
   ·exact h.elim
  ·exact h.elim
def GX (P : Program) (T : Tb) : CC → (X → Fr → M → Prop) → Fr → M → Prop
 | .skip, Q, fr, m => Q .normal fr m
 | .reg l, Q, fr, m => GO P T l (Q .normal) fr m
 | .drawn l ps, Q, fr, m => GT P T l (fun t => ps.all (again0 l t) = true ∧ ∃ a, lastT t = some a ∧ Q .normal a.fr a.m) [] fr m
 | .seq a b, Q, fr, m => GX P T a (fun x fr1 m1 => match x with | .normal => GX P T b Q fr1 m1 | x => Q x fr1 m1) fr m
 | .cond c a b, Q, fr, m => match ev c fr with
  | .b true => GX P T a Q fr m
  | .b false => GX P T b Q fr m
  | _ => False
 | .block id b, Q, fr, m => GX P T b (fun x fr1 m1 => match x with | .exit i => (match Nat.beq i id with | true => Q .normal fr1 m1 | false => Q (.exit i) fr1 m1) | x => Q x fr1 m1) fr m
 | .exit id, Q, fr, m => Q (.exit id) fr m
 | .ret, Q, fr, m => Q .ret fr m
 | .goto l, Q, fr, m => Q (.goto l) fr m
 | .loop b, Q, fr, m => WpC P T (.loop b) fr m Q
 | .scope b, Q, fr, m => WpC P T (.scope b) fr m Q
 | .bad, _, _, _ => False
def RK (Q : X → Fr → M → Prop) (fr : Fr) (m : M) : Prop := Q .normal fr m
def DK (l : List CO) (ps : List (Nat × Nat)) (Q : X → Fr → M → Prop) (t : List T3) : Prop := ps.all (again0 l t) = true ∧ ∃ a, lastT t = some a ∧ Q .normal a.fr a.m
def SK (P : Program) (T : Tb) (b : CC) (Q : X → Fr → M → Prop) (x : X) (fr : Fr) (m : M) : Prop := match x with | .normal => GX P T b Q fr m | x => Q x fr m
def GC (P : Program) (T : Tb) (v : AV) (a b : CC) (Q : X → Fr → M → Prop) (fr : Fr) (m : M) : Prop := match v with
 | .b true => GX P T a Q fr m
 | .b false => GX P T b Q fr m
 | _ => False
def BE (Q : X → Fr → M → Prop) (c : Bool) (i : Nat) (fr : Fr) (m : M) : Prop := match c with | true => Q .normal fr m | false => Q (.exit i) fr m
def BK (id : Nat) (Q : X → Fr → M → Prop) (x : X) (fr : Fr) (m : M) : Prop := match x with | .exit i => (match Nat.beq i id with | true => Q .normal fr m | false => Q (.exit i) fr m) | x => Q x fr m
def LK (Inv : Nat → Fr → M → Prop) (k : Nat) (Q : X → Fr → M → Prop) (x : X) (fr : Fr) (m : M) : Prop := match x with | .normal => ∃ k', k' < k ∧ Inv k' fr m | x => Q x fr m
def FK (P : Program) (rs : List ResultVar) (Q : AV → M → Prop) (x : X) (fr : Fr) (m : M) : Prop := (x = .normal ∨ x = .ret) ∧ ∃ l, ares P ⟨fr, m, [], none⟩ rs = some l ∧ Q (one l) m
variable {Q : X → Fr → M → Prop} {fr : Fr} {m : M}
theorem GX_skip : GX P T .skip Q fr m = Q .normal fr m := rfl
theorem GX_reg {l : List CO} : GX P T (.reg l) Q fr m = GO P T l (RK Q) fr m := rfl
theorem GX_drawn {l : List CO} {ps : List (Nat × Nat)} : GX P T (.drawn l ps) Q fr m = GT P T l (DK l ps Q) [] fr m := rfl
theorem GX_seq {a b : CC} : GX P T (.seq a b) Q fr m = GX P T a (SK P T b Q) fr m := rfl
theorem GX_cond {c : RO} {a b : CC} : GX P T (.cond c a b) Q fr m = GC P T (ev c fr) a b Q fr m := rfl
theorem GX_block {id : Nat} {b : CC} : GX P T (.block id b) Q fr m = GX P T b (BK id Q) fr m := rfl
theorem GX_exit {id : Nat} : GX P T (.exit id) Q fr m = Q (.exit id) fr m := rfl
theorem GX_ret : GX P T .ret Q fr m = Q .ret fr m := rfl
theorem GX_goto {l : Nat} : GX P T (.goto l) Q fr m = Q (.goto l) fr m := rfl
theorem RK_app : RK Q fr m = Q .normal fr m := rfl
theorem DK_app {l : List CO} {ps : List (Nat × Nat)} {t : List T3} : DK l ps Q t = (ps.all (again0 l t) = true ∧ ∃ a, lastT t = some a ∧ Q .normal a.fr a.m) := rfl
theorem SK_normal {b : CC} : SK P T b Q .normal fr m = GX P T b Q fr m := rfl
theorem SK_ret {b : CC} : SK P T b Q .ret fr m = Q .ret fr m := rfl
theorem SK_exit {b : CC} {i : Nat} : SK P T b Q (.exit i) fr m = Q (.exit i) fr m := rfl
theorem SK_goto {b : CC} {i : Nat} : SK P T b Q (.goto i) fr m = Q (.goto i) fr m := rfl
theorem GC_true {a b : CC} : GC P T (.b true) a b Q fr m = GX P T a Q fr m := rfl
theorem GC_false {a b : CC} : GC P T (.b false) a b Q fr m = GX P T b Q fr m := rfl
theorem BK_normal {id : Nat} : BK id Q .normal fr m = Q .normal fr m := rfl
theorem BK_ret {id : Nat} : BK id Q .ret fr m = Q .ret fr m := rfl
theorem BK_goto {id i : Nat} : BK id Q (.goto i) fr m = Q (.goto i) fr m := rfl
theorem BK_exit {id i : Nat} : BK id Q (.exit i) fr m = BE Q (Nat.beq i id) i fr m := rfl
theorem BE_true {i : Nat} : BE Q true i fr m = Q .normal fr m := rfl
theorem BE_false {i : Nat} : BE Q false i fr m = Q (.exit i) fr m := rfl
theorem LK_n {Inv : Nat → Fr → M → Prop} {k k' : Nat} (hk : k' < k) (h : Inv k' fr m) : LK Inv k Q .normal fr m := ⟨k', hk, h⟩
theorem LK_ret {Inv : Nat → Fr → M → Prop} {k : Nat} : LK Inv k Q .ret fr m = Q .ret fr m := rfl
theorem LK_exit {Inv : Nat → Fr → M → Prop} {k i : Nat} : LK Inv k Q (.exit i) fr m = Q (.exit i) fr m := rfl
theorem LK_goto {Inv : Nat → Fr → M → Prop} {k i : Nat} : LK Inv k Q (.goto i) fr m = Q (.goto i) fr m := rfl
theorem FK_iff {rs : List ResultVar} {Q : AV → M → Prop} {x : X} (hx : x = .normal ∨ x = .ret) {l : List AV} (h : ares P ⟨fr, m, [], none⟩ rs = some l) : FK P rs Q x fr m = Q (one l) m := by
 apply propext
 constructor
 ·rintro ⟨_, l', h1, h2⟩
  rw [h] at h1
  cases h1
  exact h2
 ·intro h1
  exact ⟨hx, l, h, h1⟩
theorem FK_ret0 {Q : AV → M → Prop} : FK P [] Q .ret fr m = Q (.tuple []) m := FK_iff (l := []) (.inr rfl) rfl
theorem FK_nor0 {Q : AV → M → Prop} : FK P [] Q .normal fr m = Q (.tuple []) m := FK_iff (l := []) (.inl rfl) rfl
theorem FK_ret1 {Q : AV → M → Prop} {t : Nat} : FK P [.tmp t] Q .ret fr m = Q (ev (tm t) fr) m := FK_iff (.inr rfl) ares1
theorem FK_ret2 {Q : AV → M → Prop} {t u : Nat} : FK P [.tmp t, .tmp u] Q .ret fr m = Q (.tuple [ev (tm t) fr, ev (tm u) fr]) m := FK_iff (.inr rfl) ares2
theorem FK_ret3 {Q : AV → M → Prop} {t u v : Nat} : FK P [.tmp t, .tmp u, .tmp v] Q .ret fr m = Q (.tuple [ev (tm t) fr, ev (tm u) fr, ev (tm v) fr]) m := FK_iff (l := [ev (tm t) fr, ev (tm u) fr, ev (tm v) fr]) (.inr rfl) rfl
theorem GX_ok : ∀ {c : CC} {Q : X → Fr → M → Prop} {fr : Fr} {m : M}, GX P T c Q fr m → WpC P T c fr m Q
 | .skip, Q, fr, m, h => WpC_skip h
 | .reg l, Q, fr, m, h => WpC_reg (GO_ok h)
 | .drawn l ps, Q, fr, m, h => WpC_drawn (GT_ok h)
 | .seq a b, Q, fr, m, h => by
  refine WpC_seq ((GX_ok (c := a) h).mono fun x f1 m1 h1 => ?_)
  cases x with
  | normal => exact GX_ok h1
  | ret => exact h1
  | exit i => exact h1
  | goto i => exact h1
 | .cond c a b, Q, fr, m, h => by
  have h : GC P T (ev c fr) a b Q fr m := h
  unfold GC at h
  split at h
  ·rename_i e
   exact WpC_cond (t := true) e (GX_ok h)
  ·rename_i e
   exact WpC_cond (t := false) e (GX_ok h)
  ·exact h.elim
 | .block id b, Q, fr, m, h => by
  refine WpC_block ((GX_ok (c := b) h).mono fun x f1 m1 h1 => ?_)
  cases x with
  | normal => exact h1
  | ret => exact h1
  | goto i => exact h1
  | exit i =>
   have h1 : (match Nat.beq i id with | true => Q .normal f1 m1 | false => Q (.exit i) f1 m1) := h1
   show if i = id then _ else _
   by_cases e : i = id
   ·rw [if_pos e]
    subst e
    rwa [Nat.beq_refl] at h1
   ·rw [if_neg e]
    rwa [nbeq, decide_eq_false e] at h1
 | .exit id, Q, fr, m, h => WpC_exit h
 | .ret, Q, fr, m, h => WpC_ret h
 | .goto l, Q, fr, m, h => WpC_goto h
 | .loop b, Q, fr, m, h => h
 | .scope b, Q, fr, m, h => h
 | .bad, _, _, _, h => h.elim
theorem GX_loop {b : CC} (Inv : Nat → Fr → M → Prop) {k : Nat} (h0 : Inv k fr m) (hs : ∀ k fr m, Inv k fr m → GX P T b (LK Inv k Q) fr m) : GX P T (.loop b) Q fr m :=
 WpC_loop Inv h0 fun k fr m hi => (GX_ok (hs k fr m hi)).mono fun x f1 m1 h => by
  cases x with
  | normal => exact h
  | ret => exact h
  | exit i => exact h
  | goto i => exact h
def PK (Q : X → Fr → M → Prop) (x : X) (fr : Fr) (m : M) : Prop := (∀ l', x ≠ .goto l') ∧ Q x fr m
theorem PK_normal : PK Q .normal fr m = Q .normal fr m := propext ⟨fun h => h.2, fun h => ⟨nofun, h⟩⟩
theorem PK_ret : PK Q .ret fr m = Q .ret fr m := propext ⟨fun h => h.2, fun h => ⟨nofun, h⟩⟩
theorem PK_exit {i : Nat} : PK Q (.exit i) fr m = Q (.exit i) fr m := propext ⟨fun h => h.2, fun h => ⟨nofun, h⟩⟩
def JK (P : Program) (T : Tb) (b : Code) (Q : X → Fr → M → Prop) (x : X) (fr : Fr) (m : M) : Prop := match x with
 | .goto l => ∃ rest cr, findLabel b l = some rest ∧ comp P rest = cr ∧ GX P T cr (PK Q) fr m
 | x => Q x fr m
theorem JK_normal {b : Code} : JK P T b Q .normal fr m = Q .normal fr m := rfl
theorem JK_ret {b : Code} : JK P T b Q .ret fr m = Q .ret fr m := rfl
theorem JK_exit {b : Code} {i : Nat} : JK P T b Q (.exit i) fr m = Q (.exit i) fr m := rfl
theorem WpF.go {g : FuncId} {cc : CC} {nt : Nat} {rs : List ResultVar} (hf : FnAt P T g cc nt rs) {args : List AV} {m : M} {Q : AV → M → Prop}
  (h : GX P T cc (FK P rs Q) (fillP args (nat_lit 0) .leaf) m) (hit : T.it g args m = none := by rfl) (hn : Nat.ble args.length nt = true := by rfl) : WpF P T g args m Q :=
 WpF_intro hf hit hn (GX_ok h)
theorem WpF.eq {g : FuncId} {args : List AV} {m m1 : M} {v : AV} (h : WpF P T g args m fun v' m' => v' = v ∧ m' = m1) : ∀ Q : AV → M → Prop, WpF P T g args m Q = Q v m1 := by
 intro Q
 obtain ⟨N, v', m', h1, rfl, rfl⟩ := h
 apply propext
 constructor
 ·rintro ⟨N2, v2, m2, h3, h4⟩
  have e1 := h1 (max N N2) (by omega)
  rw [h3 _ (by omega)] at e1
  cases e1
  exact h4
 ·intro h
  exact ⟨N, _, _, h1, h⟩
theorem aq_ptr (b o : Nat) : aveq 40 (.ptr b o) (.ptr b o) = true := by simp [aveq, Nat.beq_refl]
theorem aq_b (c : Bool) : aveq 40 (.b c) (.b c) = true := by cases c <;> rfl
theorem aq_map (b : Nat) : aveq 40 (.map b) (.map b) = true := by simp [aveq, Nat.beq_refl]
theorem aq_nilp : aveq 40 nilp nilp = true := rfl
theorem aq_undef : aveq 40 AV.undef AV.undef = true := rfl
theorem want_sm {t : Nat} {w : Bool} {fr : Fr} : want (some (pth t, w)) fr = wantV w (ev (tm t) fr) := rfl
theorem again0_at {l : List CO} {t : List T3} {i p : Nat} : again0 l t (i, p) = match l[i]?, t[i]?, t[p]? with
 | some (.op _ g o), some a, some b => match ob (want g a.fr) fun t => bc t (run o a.fr b.m) (some (AV.undef, b.m)) with
  | some q => aveq 40 q.1 a.x
  | none => false
 | _, _, _ => false := rfl
theorem lastT_1 (a : T3) : lastT [a] = some a := rfl
theorem lastT_c (a b : T3) (l : List T3) : lastT (a :: b :: l) = lastT (b :: l) := rfl
def Ran (P : Program) (T : Tb) (g : FuncId) (args : List AV) (m : M) (v : AV) (m1 : M) : Prop := WpF P T g args m fun v' m' => v' = v ∧ m' = m1
theorem Ran.eq {g : FuncId} {args : List AV} {m m1 : M} {v : AV} (h : Ran P T g args m v m1) : ∀ Q : AV → M → Prop, WpF P T g args m Q = Q v m1 := WpF.eq h
theorem WpF.ran {g : FuncId} {args : List AV} {m : M} {Q : AV → M → Prop} (h : WpF P T g args m Q) : ∃ v m1, Q v m1 ∧ Ran P T g args m v m1 := by
 obtain ⟨N, v, m', h1, h2⟩ := h
 exact ⟨v, m', h2, N, v, m', h1, rfl, rfl⟩
end
section
variable {m : M}
theorem At.st {b : Nat} {e : TypeId} {xt : Bool} {l l' : List AV} (h : At m b e xt l) (hw : Wf m) (i : Nat) (vs : List AV) (hs : splice l i vs = l' := by rfl) (hi : i + vs.length ≤ l.length := by exact Nat.le_of_ble_eq_true rfl) :
  ∃ m', m.wr b i vs = some m' ∧ At m' b e xt l' ∧ Keep m m' (fun x => x = b) ∧ m'.next = m.next :=
 ⟨m.upd b i vs, h.wr hi, hs ▸ h.upd hi, Keep.upd hw fun _ => rfl, M.next_upd ..⟩
theorem addL_at (hw : Wf m) (e n : Nat) (l : List AV) (hn : n = l.length := by rfl) : ∃ m', m.addL e n l = m' ∧ At m' m.next e true l ∧ Keep m m' (fun _ => False) ∧ m'.next = m.next + 1 :=
 ⟨_, rfl, At.addL hn, Keep.addL hw, M.next_addL ..⟩
theorem addZ_at (hw : Wf m) (e n : Nat) (z : List AV) (hn : n = z.length := by rfl) : ∃ m', m.addZ e n z = m' ∧ At m' m.next e true z ∧ Keep m m' (fun _ => False) ∧ m'.next = m.next + 1 :=
 ⟨_, rfl, At.addZ hn, Keep.addZ hw, M.next_addZ ..⟩
end
end Go.Am
