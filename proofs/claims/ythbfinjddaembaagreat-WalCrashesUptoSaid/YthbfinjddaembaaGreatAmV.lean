import Derived.Test.YthbfinjddaembaaGreatAmS
import Derived.Lib.SlMapMerge
import Derived.Maps.RangeWalk
/- The abstract machine: maps.Copy, whose result is known ahead (the kit's shelf). -/
namespace Go.Am
open Go Go.RowKit Go.MapKept Go.WideShapes
section
variable {P : Program} {w0 : World} {ρ : Ren} {m : M} {w : World}
def selfR (v : Value) : Option (DataW Value × List MemPlace) := some (.held v, [])
structure CopyMaps (P : Program) (g : FuncId) (kt : TypeId) : Prop where
  key : P.underlying kt = some (.int .i64)
  enters : ∀ (args : Array Value) (w : World), (callFunc g args).run P w = .ok (.enter g args) w
  copy : ∀ (bd nd : Nat) (bs ns : Nat) (Dd Ds : DataW Value) (W : World), W.ownsMap P kt selfR bd nd Dd → W.ownsMap P kt selfR bs ns Ds → bd ≠ bs → nd + Maps.size Ds ≤ maxLen →
    Calls P g #[.map (some bd), .map (some bs)] W fun e w' => e = .returned (.tuple #[]) ∧ w'.ownsMap P kt selfR bd (nd + Maps.size Ds) (Lib.mergeD Dd Ds) ∧ W.grownBy w' (some bd)
noncomputable section
def pickN (ks : List Int) : List (AV × AV) → List (AV × AV)
  | [] => []
  | e :: l => match keyI e.1 with
    | some i => bc (ks.all fun k => !decide (k = i)) (e :: pickN ks l) (pickN ks l)
    | none => pickN ks l
end
end
end Go.Am
