import Derived.Test.YtmkbjcjlnidjiaaAmV
/- The abstract machine: laws with numbers and bytes handed in; closed runs whose answer is known ahead. -/
namespace Go.Am
open Go Go.RowKit
section
variable {P : Program} {w0 : World}

def ρS (σ : Nat → Value) : Ren := ⟨fun _ => none, σ⟩
theorem Sim.startS {P : Program} (σ : Nat → Value) (w : World) : Sim P w (ρS σ) m0 w := {
  base := Below.refl _ _
  next := fun b _ => ⟨rfl, get_m0 b⟩
  blk := fun b B h => by rw [get_m0] at h; cases h
  mvok := fun b c x h _ => by rw [cel_m0] at h; cases h
  own := fun b c _ _ _ _ h => by rw [cel_m0] at h; cases h
  ext := fun b c _ _ _ _ h => by rw [cel_m0] at h; cases h
  mown := fun b c _ _ _ _ h => by rw [get_m0] at h; cases h
  }
/-- A run that ends in true, whatever the values are that it does not know. -/
theorem law_calls {P : Program} (hP : Good P) {T : Tb} (hT : ∀ w0, TbOk P w0 T) {n : Nat} {g : FuncId} {args : List AV} (hr : isTrue (arun P T n g args m0) = true) {σ : Nat → Value} {vs : List Value} (hv : concs (ρS σ) args = some vs)
    {fn : Func} {c : Code} (hfn : P.funcs[g]? = some fn) (hb : fn.body = some c) (w : World) :
    Calls P g vs.toArray w fun e w' => e = .returned (.bool true) ∧ Below w.heap.size w w' := by
  unfold isTrue at hr
  split at hr
  · rename_i m' he
    refine (arun_calls (w0 := w) hP (hT w) he hv (Sim.startS σ w) hfn hb).mono fun e w' ⟨u, ρ', h1, h2, h3, h4⟩ => ?_
    rw [conc_b] at h2
    cases h2
    exact ⟨h1, h4.base⟩
  · cases hr

/-- The table, with closed functions that are known to answer true. -/
def noArgs (args : List AV) : Bool := match args with
  | [] => true
  | _ => false
noncomputable def withTrue (T : Tb) (cl : List FuncId) : Tb := ⟨T.fs, fun g args m => bc (cl.any (Nat.beq g) && noArgs args) (some (some (.b true, m))) (T.it g args m)⟩
structure TrueAt (P : Program) (g : FuncId) : Prop where
  enters : ∀ (args : Array Value) (w : World), (callFunc g args).run P w = .ok (.enter g args) w
  calls : ∀ (w : World), Calls P g #[] w fun e w' => e = .returned (.bool true) ∧ Below w.heap.size w w'
theorem withTrue_ok {T : Tb} (hT : TbOk P w0 T) {cl : List FuncId} (h : ∀ g ∈ cl, TrueAt P g) : TbOk P w0 (withTrue T cl) := {
  fs := hT.fs
  it := by
    intro ρ m w g args v m' vs cs hit hv hs
    have h0 : bc (cl.any (Nat.beq g) && noArgs args) (some (some (AV.b true, m))) (T.it g args m) = some (some (v, m')) := hit
    clear hit
    cases hc : cl.any (Nat.beq g) && noArgs args with
    | false =>
      rw [hc, bc_false] at h0
      exact hT.it ρ m w g args v m' vs cs h0 hv hs
    | true =>
      rw [hc, bc_true] at h0
      cases h0
      simp only [Bool.and_eq_true] at hc
      obtain ⟨hc, hn⟩ := hc
      cases args with
      | cons _ _ => cases hn
      | nil =>
      rw [concs_nil] at hv
      cases hv
      rw [List.any_eq_true] at hc
      obtain ⟨c, h1, h2⟩ := hc
      have h2 := Nat.eq_of_beq_eq_true h2
      subst h2
      obtain ⟨e, w', fr, ⟨rfl, hb⟩, hsteps, hfn, hlv⟩ := (h g h1).calls w cs
      exact ⟨ρ, .bool true, w', conc_b _, ρ.le_refl, hs.below hb, .inr ⟨(h g h1).enters _ _, fr, hsteps, hfn, hlv⟩⟩
  }

/-! ### What is handed in -/
/-- Two bytes that are not known: symbols 0 and 4. -/
def sg2 (a b : Int) : Nat → Value := fun i => if i = 0 then .int .u8 a else if i = 4 then .int .u8 b else undef
theorem wf_u8 {a : Int} (h : (Lit.int .u8 a).wf = true) : ∃ k : Nat, a = .ofNat k := by
  have h0 : 0 ≤ a := by
    simp only [Lit.wf, Bool.and_eq_true, decide_eq_true_eq] at h
    have h2 : IntKind.min .u8 = 0 := by decide
    omega
  exact ⟨a.toNat, (Int.toNat_of_nonneg h0).symm⟩
theorem conc_sym0 {a b : Int} (h : (Lit.int .u8 a).wf = true) : conc (ρS (sg2 a b)) (.sym 0) = some (.int .u8 a) := by
  obtain ⟨k, rfl⟩ := wf_u8 h
  rfl
theorem conc_sym4 {a b : Int} (h : (Lit.int .u8 b).wf = true) : conc (ρS (sg2 a b)) (.sym 4) = some (.int .u8 b) := by
  obtain ⟨k, rfl⟩ := wf_u8 h
  rfl
theorem concs_sym2 {a b : Int} (ha : (Lit.int .u8 a).wf = true) (hb : (Lit.int .u8 b).wf = true) : concs (ρS (sg2 a b)) [.sym 0, .sym 4] = some [.int .u8 a, .int .u8 b] :=
  concs_cons.2 ⟨_, _, conc_sym0 ha, concs_cons.2 ⟨_, _, conc_sym4 hb, concs_nil _, rfl⟩, rfl⟩
end
end Go.Am
