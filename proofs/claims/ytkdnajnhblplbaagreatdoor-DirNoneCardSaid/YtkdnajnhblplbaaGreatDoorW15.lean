/- The fixed run 'wakes' of a package of laws answers true whenever it is called. Conditions: none. -/
import Derived.Test.YtkdnajnhblplbaaGreatDoorLay
import Derived.Test.YtkdnajnhblplbaaGreatDoorAmW
namespace Go.Proofs.YtkdnajnhblplbaaGreatDoor
open Go.ChangeShapes Go.WideShapes Go.ChangeAt Go.RowKit

theorem ranWakes15 : Am.isTrue (Am.arun Tryz.prog tb 100000 5 [] Am.m0) = true := by decide +kernel
theorem wakes15 : Am.TrueAt Tryz.prog 5 := ⟨enters_of Tryz.func5 (by kernel_rfl) rfl, fun w => Am.closed_calls (Am.good_of Tryz.good) tb_ok ranWakes15 Tryz.func5 rfl w⟩
noncomputable def tb15 : Am.Tb := Am.withTrue tb [5]
theorem tb15_ok (w0 : World) : Am.TbOk Tryz.prog w0 tb15 := Am.withTrue_ok (tb_ok w0) fun g h => by
  simp only [List.mem_cons, List.not_mem_nil, or_false] at h
  subst h
  exact wakes15
end Go.Proofs.YtkdnajnhblplbaaGreatDoor
