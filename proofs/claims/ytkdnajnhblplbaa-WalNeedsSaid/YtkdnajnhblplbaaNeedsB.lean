/- The law 'skerrylaw09.WalNeeds' at some numbers, whatever the byte. Conditions: none. -/
import Derived.Test.YtkdnajnhblplbaaW09
namespace Go.Proofs.Ytkdnajnhblplbaa
theorem needs14 : Am.isTrue (Am.arun Try.prog tb09 100000 5 [.n 14, .sym 0] Am.m0) = true := by decide +kernel
theorem needs15 : Am.isTrue (Am.arun Try.prog tb09 100000 5 [.n 15, .sym 0] Am.m0) = true := by decide +kernel
theorem needs16 : Am.isTrue (Am.arun Try.prog tb09 100000 5 [.n 16, .sym 0] Am.m0) = true := by decide +kernel
theorem needs17 : Am.isTrue (Am.arun Try.prog tb09 100000 5 [.n 17, .sym 0] Am.m0) = true := by decide +kernel
theorem needs18 : Am.isTrue (Am.arun Try.prog tb09 100000 5 [.n 18, .sym 0] Am.m0) = true := by decide +kernel
theorem needs19 : Am.isTrue (Am.arun Try.prog tb09 100000 5 [.n 19, .sym 0] Am.m0) = true := by decide +kernel
theorem needs20 : Am.isTrue (Am.arun Try.prog tb09 100000 5 [.n 20, .sym 0] Am.m0) = true := by decide +kernel
theorem needs21 : Am.isTrue (Am.arun Try.prog tb09 100000 5 [.n 21, .sym 0] Am.m0) = true := by decide +kernel
theorem needs22 : Am.isTrue (Am.arun Try.prog tb09 100000 5 [.n 22, .sym 0] Am.m0) = true := by decide +kernel
theorem needs23 : Am.isTrue (Am.arun Try.prog tb09 100000 5 [.n 23, .sym 0] Am.m0) = true := by decide +kernel
end Go.Proofs.Ytkdnajnhblplbaa
