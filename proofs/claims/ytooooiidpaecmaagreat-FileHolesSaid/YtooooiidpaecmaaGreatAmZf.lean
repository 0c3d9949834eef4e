import Derived.Test.YtooooiidpaecmaaGreatAmZd
import Derived.Test.YtooooiidpaecmaaGreatAmS
/- The abstract machine: maps from numbers, calls of function values, sorted keys, where values are not known. -/
namespace Go.Am
open Go Go.RowKit
def nilm : AV := .p (.map none)
def nilf : AV := .p .nilFunc
abbrev Al := List (Nat × AV)
noncomputable def ents (L : Al) : List (AV × AV) := L.map fun e => (iv (e.1 : Int), e.2)
def MpAt (m : M) (b : Nat) (L : Al) : Prop := ∃ st, m.get b = some (.obj (.map (ents L) st))
theorem MpAt.of_get {m m' : M} {b : Nat} {L : Al} (h : MpAt m b L) (hg : m'.get b = m.get b) : MpAt m' b L := by
 obtain ⟨st, h⟩ := h
 exact ⟨st, hg.trans h⟩
theorem MpAt.lt {m : M} {b : Nat} {L : Al} (h : MpAt m b L) (hw : Wf m) : b < m.next := by
 obtain ⟨st, h⟩ := h
 rcases Nat.lt_or_ge b m.next with k | k
 ·exact k
 ·rw [hw b k] at h; cases h
theorem MpAt.keep {m m' : M} {b : Nat} {L : Al} {F : Nat → Prop} (h : MpAt m b L) (hw : Wf m) (k : Keep m m' F) (hf : ¬ F b) : MpAt m' b L := h.of_get (k.get b (h.lt hw) hf)
def lkp : Al → Nat → Option AV
 | [], _ => none
 | e :: l, k => if e.1 = k then some e.2 else lkp l k
def putL : Al → Nat → AV → Al
 | [], k, v => [(k, v)]
 | e :: l, k, v => if e.1 = k then (k, v) :: l else e :: putL l k v
def delL : Al → Nat → Al
 | [], _ => []
 | e :: l, k => if e.1 = k then l else e :: delL l k
theorem keq_iv (a b : Nat) : keq (iv (a : Int)) (iv (b : Int)) = decide (a = b) := by
 show Nat.beq a b = _
 exact nbeq a b
theorem isK_iv (a : Nat) : isK (some .i64) (iv (a : Int)) = true := rfl
theorem keysOk_ents (k : Nat) (L : Al) : keysOk (some .i64) (iv (k : Int)) (ents L) = true := by
 unfold keysOk
 rw [isK_iv, Bool.true_and, List.all_eq_true]
 intro e he
 obtain ⟨x, _, rfl⟩ := List.mem_map.1 he
 rfl
theorem mfind_ents (k : Nat) : ∀ (L : Al) (i : Nat), (mfind (iv (k : Int)) i (ents L)).map (·.2) = lkp L k
 | [], _ => rfl
 | e :: l, i => by
  show (bc (keq (iv (k : Int)) (iv (e.1 : Int))) (some (i, e.2)) (mfind (iv (k : Int)) (i + 1) (ents l))).map (·.2) = _
  rw [keq_iv]
  unfold lkp
  by_cases h : e.1 = k
  ·rw [if_pos h, decide_eq_true h.symm]; rfl
  ·rw [if_neg h, decide_eq_false (fun x => h x.symm)]
   exact mfind_ents k l (i + 1)
theorem mfind_put (k : Nat) (v : AV) : ∀ (L : Al) (i : Nat), (match mfind (iv (k : Int)) i (ents L) with | some z => i ≤ z.1 ∧ (ents L).set (z.1 - i) (iv (k : Int), v) = ents (putL L k v) | none => ents L ++ [(iv (k : Int), v)] = ents (putL L k v))
 | [], i => rfl
 | e :: l, i => by
  have hm : mfind (iv (k : Int)) i (ents (e :: l)) = bc (keq (iv (k : Int)) (iv (e.1 : Int))) (some (i, e.2)) (mfind (iv (k : Int)) (i + 1) (ents l)) := rfl
  rw [hm, keq_iv]
  have he : ents (e :: l) = (iv (e.1 : Int), e.2) :: ents l := rfl
  rw [he]
  unfold putL
  by_cases h : e.1 = k
  ·rw [if_pos h, decide_eq_true h.symm, bc_true]
   exact ⟨Nat.le_refl _, by rw [Nat.sub_self]; rfl⟩
  ·rw [if_neg h, decide_eq_false (fun x => h x.symm), bc_false]
   have ih := mfind_put k v l (i + 1)
   cases hz : mfind (iv (k : Int)) (i + 1) (ents l) with
   | none =>
    rw [hz] at ih
    show (iv (e.1 : Int), e.2) :: ents l ++ [(iv (k : Int), v)] = (iv (e.1 : Int), e.2) :: ents (putL l k v)
    rw [List.cons_append, ih]
   | some z =>
    rw [hz] at ih
    obtain ⟨h1, h2⟩ := ih
    refine ⟨by omega, ?_⟩
    show ((iv (e.1 : Int), e.2) :: ents l).set (z.1 - i) (iv (k : Int), v) = (iv (e.1 : Int), e.2) :: ents (putL l k v)
    rw [show z.1 - i = (z.1 - (i + 1)) + 1 by omega, List.set_cons_succ, h2]
theorem mfind_del (k : Nat) : ∀ (L : Al) (i : Nat), (match mfind (iv (k : Int)) i (ents L) with | some z => i ≤ z.1 ∧ (ents L).eraseIdx (z.1 - i) = ents (delL L k) | none => delL L k = L)
 | [], i => rfl
 | e :: l, i => by
  have hm : mfind (iv (k : Int)) i (ents (e :: l)) = bc (keq (iv (k : Int)) (iv (e.1 : Int))) (some (i, e.2)) (mfind (iv (k : Int)) (i + 1) (ents l)) := rfl
  rw [hm, keq_iv]
  have he : ents (e :: l) = (iv (e.1 : Int), e.2) :: ents l := rfl
  rw [he]
  unfold delL
  by_cases h : e.1 = k
  ·rw [if_pos h, decide_eq_true h.symm, bc_true]
   exact ⟨Nat.le_refl _, by rw [Nat.sub_self]; rfl⟩
  ·rw [if_neg h, decide_eq_false (fun x => h x.symm), bc_false]
   have ih := mfind_del k l (i + 1)
   cases hz : mfind (iv (k : Int)) (i + 1) (ents l) with
   | none =>
    rw [hz] at ih
    show e :: delL l k = e :: l
    rw [ih]
   | some z =>
    rw [hz] at ih
    obtain ⟨h1, h2⟩ := ih
    refine ⟨by omega, ?_⟩
    show ((iv (e.1 : Int), e.2) :: ents l).eraseIdx (z.1 - i) = (iv (e.1 : Int), e.2) :: ents (delL l k)
    rw [show z.1 - i = (z.1 - (i + 1)) + 1 by omega, List.eraseIdx_cons_succ, h2]
section
variable {P : Program} {T : Tb} {fr : Fr} {m : M}
theorem cells_map (b : Nat) : cellsO (.map b) = some [.map b] := rfl
theorem cells_func (f : FuncId) (l : List AV) : cellsO (.func f l) = some [.func f l] := rfl
theorem o_fn (g : FuncId) (caps : List RO) : run (.fn g caps) fr m = some (.func g (evs caps fr), m) := rfl
theorem o_look (kd : Option IntKind) (z : AV) (ok : Bool) (x k : RO) : run (.look kd z ok x k) fr m = rLook kd z ok (.cst (ev x fr)) (.cst (ev k fr)) .leaf m := rfl
theorem o_mlen (x : RO) : run (.mlen x) fr m = rMLen (.cst (ev x fr)) .leaf m := rfl
theorem o_mupd (kd : Option IntKind) (x k v : RO) : run (.mupd kd x k v) fr m = rMUpd kd (.cst (ev x fr)) (.cst (ev k fr)) (.cst (ev v fr)) .leaf m := rfl
theorem o_mdel (kd : Option IntKind) (x k : RO) : run (.mdel kd x k) fr m = rMDel kd (.cst (ev x fr)) (.cst (ev k fr)) .leaf m := rfl
theorem o_mkmap : run (.mkmap none) fr m = some (.map m.next, m.new (.obj (.map [] (some ([], 0))))) := rfl
theorem o_clrs (z : List AV) (x : RO) : run (.clrs z x) fr m = rClrS z (.cst (ev x fr)) .leaf m := rfl
theorem MpAt.mapOf {b : Nat} {L : Al} (h : MpAt m b L) : Am.mapOf m (.map b) = some (ents L) := by
 obtain ⟨st, h⟩ := h
 have e : m.mapF b = some (ents L, st) := by
  show ob (m.get b) _ = _
  rw [h]; rfl
 show ob (m.mapF b) _ = _
 rw [e]; rfl
theorem MpAt.mapF {b : Nat} {L : Al} (h : MpAt m b L) : ∃ st, m.mapF b = some (ents L, st) := by
 obtain ⟨st, h⟩ := h
 refine ⟨st, ?_⟩
 show ob (m.get b) _ = _
 rw [h]; rfl
theorem MpAt.look {b : Nat} {L : Al} (h : MpAt m b L) (z : AV) (k : Nat) : rLook (some .i64) z false (.cst (.map b)) (.cst (iv (k : Int))) .leaf m = some ((lkp L k).getD z, m) := by
 show (ob (Am.mapOf m (.map b)) fun es => bc (keysOk (some .i64) (iv (k : Int)) es) (match mfind (iv (k : Int)) 0 es with | some q => some (bc false (.tuple [q.2, .b true]) q.2, m) | none => some (bc false (.tuple [z, .b false]) z, m)) none) = _
 rw [h.mapOf, v_ob, keysOk_ents, bc_true]
 have := mfind_ents k L 0
 cases hz : mfind (iv (k : Int)) 0 (ents L) with
 | none => rw [hz] at this; rw [← this]; rfl
 | some q => rw [hz] at this; rw [← this]; rfl
theorem MpAt.upd {b : Nat} {L : Al} (h : MpAt m b L) (hw : Wf m) (k : Nat) (v : AV) : ∃ m', rMUpd (some .i64) (.cst (.map b)) (.cst (iv (k : Int))) (.cst v) .leaf m = some (AV.undef, m') ∧ MpAt m' b (putL L k v) ∧ Keep m m' (fun x => x = b) ∧ m'.next = m.next := by
 have hlt := h.lt hw
 obtain ⟨st, hq⟩ := h.mapF
 have e : ∃ st', mput (ents L, st) (iv (k : Int)) v = .map (ents (putL L k v)) st' := by
  have hp := mfind_put k v L 0
  unfold mput
  cases hz : mfind (iv (k : Int)) 0 (ents L) with
  | none =>
   rw [hz] at hp
   exact ⟨_, by show OB.map (ents L ++ [(iv (k : Int), v)]) _ = _; rw [hp]⟩
  | some z =>
   rw [hz] at hp
   exact ⟨st, by show OB.map ((ents L).set z.1 (iv (k : Int), v)) st = _; rw [← hp.2, Nat.sub_zero]⟩
 obtain ⟨st', e⟩ := e
 refine ⟨m.put b (.obj (.map (ents (putL L k v)) st')), ?_, ⟨st', by rw [M.get_put, if_pos rfl]⟩, ⟨Nat.le_refl _, fun b' hb' => ?_, fun b' _ hf => by rw [M.get_put, if_neg hf]⟩, rfl⟩
 ·show (ob (m.mapF b) fun q => bc (keysOk (some .i64) (iv (k : Int)) q.1) (some (AV.undef, m.put b (.obj (mput q (iv (k : Int)) v)))) none) = _
  rw [hq, v_ob, keysOk_ents, bc_true, e]
 ·have hb' : m.next ≤ b' := hb'
  rw [M.get_put, if_neg (by omega)]
  exact hw b' hb'
theorem MpAt.del {b : Nat} {L : Al} (h : MpAt m b L) (hw : Wf m) (k : Nat) : ∃ m', rMDel (some .i64) (.cst (.map b)) (.cst (iv (k : Int))) .leaf m = some (AV.undef, m') ∧ MpAt m' b (delL L k) ∧ Keep m m' (fun x => x = b) ∧ m'.next = m.next := by
 have hlt := h.lt hw
 obtain ⟨st, hq⟩ := h.mapF
 have e : ∃ st', mdel (ents L, st) (iv (k : Int)) = .map (ents (delL L k)) st' := by
  have hp := mfind_del k L 0
  unfold mdel
  cases hz : mfind (iv (k : Int)) 0 (ents L) with
  | none =>
   rw [hz] at hp
   exact ⟨st, by show OB.map (ents L) st = _; rw [hp]⟩
  | some z =>
   rw [hz] at hp
   exact ⟨_, by show OB.map ((ents L).eraseIdx z.1) _ = _; rw [← hp.2, Nat.sub_zero]⟩
 obtain ⟨st', e⟩ := e
 refine ⟨m.put b (.obj (.map (ents (delL L k)) st')), ?_, ⟨st', by rw [M.get_put, if_pos rfl]⟩, ⟨Nat.le_refl _, fun b' hb' => ?_, fun b' _ hf => by rw [M.get_put, if_neg hf]⟩, rfl⟩
 ·show (ob (m.mapF b) fun q => bc (keysOk (some .i64) (iv (k : Int)) q.1) (some (AV.undef, m.put b (.obj (mdel q (iv (k : Int)))))) none) = _
  rw [hq, v_ob, keysOk_ents, bc_true, e]
 ·have hb' : m.next ≤ b' := hb'
  rw [M.get_put, if_neg (by omega)]
  exact hw b' hb'
theorem MpAt.new0 (hw : Wf m) : MpAt (m.new (.obj (.map [] (some ([], 0))))) m.next [] ∧ Keep m (m.new (.obj (.map [] (some ([], 0))))) (fun _ => False) :=
 ⟨⟨_, by rw [M.get_new, if_pos rfl]; rfl⟩, by rw [M.next_new]; omega, hw.new, fun b hb _ => M.get_new_ne (by omega)⟩
theorem WpO_fv {d : Option (List Bool)} {f : RO} {g : FuncId} {caps : List AV} {args : List RO} {l : List CO} {Q : Fr → M → Prop} (hf : ev f fr = .func g caps) (h : WpOC P T g (evs args fr ++ caps) m d l fr Q) : WpO P T (.call d none f args :: l) fr m Q := by
 have e : ∀ n, runOps (cfN P T n) (.call d none f args :: l) fr m = nextOp d (runOps (cfN P T n) l) fr (callV (cfN P T n) (ev f fr) (evs args fr) m) := fun n => rfl
 unfold WpO
 simp only [e, hf]
 exact h
noncomputable def Sk (L : Al) : List Int := isort (L.map fun e => (e.1 : Int))
theorem sortedR_nil (et : TypeId) : sortedR et m (ents []) = some (nils, m) := rfl
theorem sorted_known {g et kf : Nat} {b : Nat} {t : TypeId} {mb : Nat} {L : Al} (h : At m b t true [.map mb]) (hm : MpAt m mb L) : (sortedTb P g et [kf]).it g [.func kf [.ptr b 0]] m = some (sortedR et m (ents L)) := by
 obtain ⟨c, h1, h2, h3, h4, h5, h6, h7⟩ := h.row
 show bc (Nat.beq g g) (Option.rec (motive := fun _ => Option R) none (fun r => some r) (bc (Nat.beq kf kf) (some (ob (m.cel b) fun c => bc (c.exact && (c.mv.isNone && Nat.beq 0 0)) (ob (m.rd b 0) fun mv => ob (Am.mapOf m mv) fun es => sortedR et m es) none)) none)) none = _
 rw [Nat.beq_refl, Nat.beq_refl, bc_true, bc_true, M.cel_some.2 h1, v_ob, h4, h6, h.rd 0]
 show some (ob (some (AV.map mb)) fun mv => ob (Am.mapOf m mv) fun es => sortedR et m es) = _
 rw [v_ob, hm.mapOf, v_ob]
end
end Go.Am
