/- The law 'skerrylaw12.AllocGives' at some numbers. Conditions: none. -/
import Derived.Test.YtlhplhcfbofdnaaGreatW12
namespace Go.Proofs.YtlhplhcfbofdnaaGreat
theorem gives4_false : Am.isTrue (Am.arun Tryz.prog tb12 100000 3 [.n 4, .b false] Am.m0) = true := by decide +kernel
theorem givesBig_true : Am.isTrue (Am.arun Tryz.prog tb12 100000 3 [.sym 18, .b true] Am.m0) = true := by decide +kernel
theorem givesBig_false : Am.isTrue (Am.arun Tryz.prog tb12 100000 3 [.sym 18, .b false] Am.m0) = true := by decide +kernel
end Go.Proofs.YtlhplhcfbofdnaaGreat
