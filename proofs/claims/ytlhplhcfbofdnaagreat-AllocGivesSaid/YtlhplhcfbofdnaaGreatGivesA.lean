/- The law 'skerrylaw12.AllocGives' at some numbers. Conditions: none. -/
import Derived.Test.YtlhplhcfbofdnaaGreatW12
namespace Go.Proofs.YtlhplhcfbofdnaaGreat
theorem givesNeg_true : Am.isTrue (Am.arun Tryz.prog tb12 100000 3 [.sym 1, .b true] Am.m0) = true := by decide +kernel
theorem givesNeg_false : Am.isTrue (Am.arun Tryz.prog tb12 100000 3 [.sym 1, .b false] Am.m0) = true := by decide +kernel
theorem gives0_true : Am.isTrue (Am.arun Tryz.prog tb12 100000 3 [.n 0, .b true] Am.m0) = true := by decide +kernel
theorem gives0_false : Am.isTrue (Am.arun Tryz.prog tb12 100000 3 [.n 0, .b false] Am.m0) = true := by decide +kernel
end Go.Proofs.YtlhplhcfbofdnaaGreat
