/- The fixed run 'wakes' of a package of laws answers true whenever it is called. Conditions: none. -/
import Derived.Test.YtkdnajnhblplbaaLay
import Derived.Test.YtkdnajnhblplbaaAmW
namespace Go.Proofs.Ytkdnajnhblplbaa
open Go.ChangeShapes Go.WideShapes Go.ChangeAt Go.RowKit

theorem ranWakes09 : Am.isTrue (Am.arun Try.prog tb 100000 26 [] Am.m0) = true := by decide +kernel
theorem wakes09 : Am.TrueAt Try.prog 26 := ⟨enters_of Try.func26 (by kernel_rfl) rfl, fun w => Am.closed_calls (Am.good_of Try.good) tb_ok ranWakes09 Try.func26 rfl w⟩
noncomputable def tb09 : Am.Tb := Am.withTrue tb [26]
theorem tb09_ok (w0 : World) : Am.TbOk Try.prog w0 tb09 := Am.withTrue_ok (tb_ok w0) fun g h => by
  simp only [List.mem_cons, List.not_mem_nil, or_false] at h
  subst h
  exact wakes09
end Go.Proofs.Ytkdnajnhblplbaa
