/- The law 'skerrylaw09.WalNeeds' at some numbers, whatever the byte. Conditions: none. -/
import Derived.Test.YtkdnajnhblplbaaW09
namespace Go.Proofs.Ytkdnajnhblplbaa
theorem needs33 : Am.isTrue (Am.arun Try.prog tb09 100000 5 [.n 33, .sym 0] Am.m0) = true := by decide +kernel
theorem needs34 : Am.isTrue (Am.arun Try.prog tb09 100000 5 [.n 34, .sym 0] Am.m0) = true := by decide +kernel
theorem needs35 : Am.isTrue (Am.arun Try.prog tb09 100000 5 [.n 35, .sym 0] Am.m0) = true := by decide +kernel
theorem needs36 : Am.isTrue (Am.arun Try.prog tb09 100000 5 [.n 36, .sym 0] Am.m0) = true := by decide +kernel
theorem needs37 : Am.isTrue (Am.arun Try.prog tb09 100000 5 [.n 37, .sym 0] Am.m0) = true := by decide +kernel
theorem needs38 : Am.isTrue (Am.arun Try.prog tb09 100000 5 [.n 38, .sym 0] Am.m0) = true := by decide +kernel
theorem needs39 : Am.isTrue (Am.arun Try.prog tb09 100000 5 [.n 39, .sym 0] Am.m0) = true := by decide +kernel
theorem needs40 : Am.isTrue (Am.arun Try.prog tb09 100000 5 [.n 40, .sym 0] Am.m0) = true := by decide +kernel
end Go.Proofs.Ytkdnajnhblplbaa
