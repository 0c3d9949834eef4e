import Derived.Test.YtkdnajnhblplbaaGreatAmP
import Derived.ProofKit
import Derived.KernelRfl
/- The abstract machine: from a run to a row. -/
namespace Go.Am
open Go Go.RowKit Go.ChangeShapes Go.WideShapes

/-! ### What a program must be -/
noncomputable def goodB (P : Program) : Bool := P.follows .mixedOrders && P.funcs.toList.all fun fn => !(fn.name == "runtime.NumGoroutine") && (fn.body.isSome || !(fn.name == escName || fn.name == cloneName) || fn.origin == "")
theorem ext_some {n : String} {args : List AV} {m m' : M} {v : AV} (h : ext n args m = some (v, m')) :
    (n = escName ∧ args = [v] ∧ m' = m) ∨ (n = cloneName ∧ ∃ t b q, args = [.iface t (.map b)] ∧ m.mapF b = some q ∧ v = .iface t (.map m.next) ∧ m' = m.new (.obj (.map q.1 q.2))) := by
  unfold ext at h
  split at h
  · rename_i x
    by_cases h1 : n = escName
    · rw [decide_eq_true h1, bc_true] at h
      cases h
      exact .inl ⟨h1, rfl, rfl⟩
    · rw [decide_eq_false h1, bc_false] at h
      obtain ⟨h2, h⟩ := bc_some h
      obtain ⟨t, u, rfl, h⟩ := elIf_some h
      rcases elMap_some h with ⟨b, rfl, h⟩ | ⟨_, h⟩
      · obtain ⟨q, hq, h⟩ := ob_some h
        cases h
        exact .inr ⟨of_decide_eq_true h2, t, b, q, rfl, hq, rfl, rfl⟩
      · cases h
  · cases h
theorem look_next (n : String) (hn : n = escName ∨ n = cloneName) : Extern.allNextRows.lookup n = none ∧ Extern.allNextRows.lookup "" = none := by rcases hn with rfl | rfl <;> exact ⟨by kernel_rfl, by kernel_rfl⟩
theorem look_generic (n : String) (hn : n = escName ∨ n = cloneName) : Extern.allGenericRows.lookup n = none := by rcases hn with rfl | rfl <;> kernel_rfl
theorem look_typed (n : String) (hn : n = escName ∨ n = cloneName) : Extern.allTypedRows.lookup n = none := by rcases hn with rfl | rfl <;> kernel_rfl
theorem look_all : Extern.allRows.lookup escName = some Extern.AbiNoEscape.same := by kernel_rfl
theorem look_clone : Extern.allRows.lookup cloneName = some Extern.MapsClone.clone := by kernel_rfl
theorem find_ext {fn : Func} {f : Array Value → Sem Value} (hn : fn.name = escName ∨ fn.name = cloneName) (ho : fn.origin = "") (hf : Extern.allRows.lookup fn.name = some f) : Extern.findNext fn = none ∧ Extern.find fn = some f := by
  constructor
  · simp [Extern.findNext, ho, look_next _ hn]
  · simp [Extern.find, look_generic _ hn, look_typed _ hn, hf]
theorem good_of {P : Program} (h : goodB P = true) : Good P := {
  mixed := by simp only [goodB, Bool.and_eq_true] at h; exact h.1
  name := by
    intro g fn hg
    simp only [goodB, Bool.and_eq_true, List.all_eq_true] at h
    have := (h.2 fn (by simpa using Array.mem_of_getElem? hg)).1
    simpa using this
  ext := by
    intro g fn args m m' v hg hb he w0 ρ vs w hv hsim
    simp only [goodB, Bool.and_eq_true, List.all_eq_true] at h
    have ho := (h.2 fn (by simpa using Array.mem_of_getElem? hg)).2
    rcases ext_some he with ⟨hn, ha, hm⟩ | ⟨hn, t, b, q, ha, hq, hv', hm⟩
    · subst ha hm
      have ho : fn.origin = "" := by simpa [hb, hn] using ho
      obtain ⟨u, us, h1, h2, rfl⟩ := concs_cons.1 hv
      rw [concs_nil] at h2
      cases h2
      refine ⟨ρ, u, w, ?_, h1, ρ.le_refl, hsim⟩
      obtain ⟨f1, f2⟩ := find_ext (.inl hn) ho (by rw [hn]; exact look_all)
      have hne : ¬ fn.name = "runtime.NumGoroutine" := by rw [hn]; decide
      have hs : Extern.AbiNoEscape.same #[u] = pure u := rfl
      simp [callFunc, hg, hne, hb, f1, f2, hs]
    · subst ha hm hv'
      have ho : fn.origin = "" := by simpa [hb, hn] using ho
      obtain ⟨u, us, h1, h2, rfl⟩ := concs_cons.1 hv
      rw [concs_nil] at h2
      cases h2
      obtain ⟨ρ', z, w', h3, h4, h5, h6⟩ := clone_ok hsim hq h1
      refine ⟨ρ', z, w', ?_, h4, h5, h6⟩
      obtain ⟨f1, f2⟩ := find_ext (.inr hn) ho (by rw [hn]; exact look_clone)
      have hne : ¬ fn.name = "runtime.NumGoroutine" := by rw [hn]; decide
      simp [callFunc, hg, hne, hb, f1, f2, h3]
  }

/-! ### The start -/
def ρ0 : Ren := ⟨fun _ => none, fun _ => undef⟩
theorem get_m0 (b : Nat) : m0.get b = none := by unfold M.get m0; cases pth b <;> rfl
theorem cel_m0 (b : Nat) : m0.cel b = none := by unfold M.cel; rw [get_m0]; rfl
theorem Sim.start {P : Program} (w : World) : Sim P w ρ0 m0 w := {
  base := Below.refl _ _
  next := fun b _ => ⟨rfl, get_m0 b⟩
  blk := fun b B h => by rw [get_m0] at h; cases h
  mvok := fun b c x h _ => by rw [cel_m0] at h; cases h
  own := fun b c _ _ _ _ h => by rw [cel_m0] at h; cases h
  ext := fun b c _ _ _ _ h => by rw [cel_m0] at h; cases h
  mown := fun b c _ _ _ _ h => by rw [get_m0] at h; cases h
  }

/-- A closed run that ends in true. -/
theorem closed_calls {P : Program} (hP : Good P) {T : Tb} (hT : ∀ w0, TbOk P w0 T) {n : Nat} {g : FuncId} (hr : isTrue (arun P T n g [] m0) = true) {fn : Func} {c : Code} (hfn : P.funcs[g]? = some fn) (hb : fn.body = some c) (w : World) :
    Calls P g #[] w fun e w' => e = .returned (.bool true) ∧ Below w.heap.size w w' := by
  unfold isTrue at hr
  split at hr
  · rename_i m' he
    refine (arun_calls (w0 := w) hP (hT w) he (ρ := ρ0) (vs := []) (concs_nil _) (Sim.start w) hfn hb).mono fun e w' ⟨u, ρ', h1, h2, h3, h4⟩ => ?_
    rw [conc_b] at h2
    cases h2
    exact ⟨h1, h4.base⟩
  · cases hr

/-- SHUT where nothing that was there has changed, and the readings met no place. -/
theorem post_of_below {H : Type} {enc : TypeId × Value → H} {P : Program} {f : Func} {s : ChangeSpec} {apart fresh handsOn again : Bool} {W W' : World} {args : Array Value} {v : Value} {ds gs : List (DataW H)}
    (hW : DataW.Whole enc P f.params.toList s.vars apart W args.toList ds gs [])
    (hres : ∀ (b : Nat) (sp : Nat → Bool) (hd : Bool), DataW.TrodAll enc P W' b sp hd f.resultTypes.toList (v.resultList f.resultTypes.size) (s.fn H (ds ++ gs)).results [])
    (hargs : ∀ sp : Nat → Bool, DataW.TrodAll enc P W' 0 sp true f.params.toList args.toList (s.fn H (ds ++ gs)).args [])
    (hvars : ∀ sp : Nat → Bool, DataW.TrodVars enc P W' sp s.vars (s.fn H (ds ++ gs)).vars [])
    (hb : Below W.heap.size W W')
    (hok : ∀ (j : Nat) (t : TypeId) (r : Value), f.resultTypes[j]? = some t → (v.resultList f.resultTypes.size)[j]? = some r → Value.okWide P W' .any 0 t r) :
    s.post enc P f apart fresh handsOn again W args v W' := by
  refine ⟨ds, gs, [], [], [], [], hW, hres _ _ _, hargs _, hvars _, hb.frame _, fun _ => ?_⟩
  obtain ⟨_, _, _, _, _, hz, hn⟩ := hW
  refine ⟨hok, _, _, ([] ++ []) ++ [], ⟨[] ++ [], [], trodAll_append (hargs _) (hres _ _ _), hvars _, rfl, ?_, ?_⟩, ?_⟩
  · intro b off hp
    cases hp
  · intro ha
    simp
  · intro p hp _
    cases hp
end Go.Am
