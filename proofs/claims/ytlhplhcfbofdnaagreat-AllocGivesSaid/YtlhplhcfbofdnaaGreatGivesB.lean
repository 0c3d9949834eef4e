/- The law 'skerrylaw12.AllocGives' at some numbers. Conditions: none. -/
import Derived.Test.YtlhplhcfbofdnaaGreatW12
namespace Go.Proofs.YtlhplhcfbofdnaaGreat
theorem gives1_true : Am.isTrue (Am.arun Tryz.prog tb12 100000 3 [.n 1, .b true] Am.m0) = true := by decide +kernel
theorem gives1_false : Am.isTrue (Am.arun Tryz.prog tb12 100000 3 [.n 1, .b false] Am.m0) = true := by decide +kernel
theorem gives2_true : Am.isTrue (Am.arun Tryz.prog tb12 100000 3 [.n 2, .b true] Am.m0) = true := by decide +kernel
theorem gives2_false : Am.isTrue (Am.arun Tryz.prog tb12 100000 3 [.n 2, .b false] Am.m0) = true := by decide +kernel
end Go.Proofs.YtlhplhcfbofdnaaGreat
