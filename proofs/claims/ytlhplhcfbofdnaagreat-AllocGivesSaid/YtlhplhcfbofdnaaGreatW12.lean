/- The fixed run 'wakes' of a package of laws answers true whenever it is called. Conditions: none. -/
import Derived.Test.YtlhplhcfbofdnaaGreatLay
import Derived.Test.YtlhplhcfbofdnaaGreatAmW
namespace Go.Proofs.YtlhplhcfbofdnaaGreat
open Go.ChangeShapes Go.WideShapes Go.ChangeAt Go.RowKit

theorem ranWakes12 : Am.isTrue (Am.arun Tryz.prog tb 100000 4 [] Am.m0) = true := by decide +kernel
theorem wakes12 : Am.TrueAt Tryz.prog 4 := ⟨enters_of Tryz.func4 (by kernel_rfl) rfl, fun w => Am.closed_calls (Am.good_of Tryz.good) tb_ok ranWakes12 Tryz.func4 rfl w⟩
noncomputable def tb12 : Am.Tb := Am.withTrue tb [4]
theorem tb12_ok (w0 : World) : Am.TbOk Tryz.prog w0 tb12 := Am.withTrue_ok (tb_ok w0) fun g h => by
  simp only [List.mem_cons, List.not_mem_nil, or_false] at h
  subst h
  exact wakes12
end Go.Proofs.YtlhplhcfbofdnaaGreat
