/- The law 'skerrylaw12.AllocGives' at some numbers. Conditions: none. -/
import Derived.Test.YtlhplhcfbofdnaaGreatW12
namespace Go.Proofs.YtlhplhcfbofdnaaGreat
theorem gives3_true : Am.isTrue (Am.arun Tryz.prog tb12 100000 3 [.n 3, .b true] Am.m0) = true := by decide +kernel
theorem gives3_false : Am.isTrue (Am.arun Tryz.prog tb12 100000 3 [.n 3, .b false] Am.m0) = true := by decide +kernel
theorem gives4_true : Am.isTrue (Am.arun Tryz.prog tb12 100000 3 [.n 4, .b true] Am.m0) = true := by decide +kernel
end Go.Proofs.YtlhplhcfbofdnaaGreat
