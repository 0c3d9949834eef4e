/- The fixed run 'wakes' of a package of laws answers true whenever it is called. Conditions: none. -/
import Derived.Test.YtkdnajnhblplbaaGreatLay
import Derived.Test.YtkdnajnhblplbaaGreatAmW
namespace Go.Proofs.YtkdnajnhblplbaaGreat
open Go.ChangeShapes Go.WideShapes Go.ChangeAt Go.RowKit

theorem ranWakes09 : Am.isTrue (Am.arun Tryz.prog tb 100000 9 [] Am.m0) = true := by decide +kernel
theorem wakes09 : Am.TrueAt Tryz.prog 9 := ⟨enters_of Tryz.func9 (by kernel_rfl) rfl, fun w => Am.closed_calls (Am.good_of Tryz.good) tb_ok ranWakes09 Tryz.func9 rfl w⟩
noncomputable def tb09 : Am.Tb := Am.withTrue tb [9]
theorem tb09_ok (w0 : World) : Am.TbOk Tryz.prog w0 tb09 := Am.withTrue_ok (tb_ok w0) fun g h => by
  simp only [List.mem_cons, List.not_mem_nil, or_false] at h
  subst h
  exact wakes09
end Go.Proofs.YtkdnajnhblplbaaGreat
