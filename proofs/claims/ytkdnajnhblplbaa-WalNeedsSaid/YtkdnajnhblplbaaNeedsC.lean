/- The law 'skerrylaw09.WalNeeds' at some numbers, whatever the byte. Conditions: none. -/
import Derived.Test.YtkdnajnhblplbaaW09
namespace Go.Proofs.Ytkdnajnhblplbaa
theorem needs24 : Am.isTrue (Am.arun Try.prog tb09 100000 5 [.n 24, .sym 0] Am.m0) = true := by decide +kernel
theorem needs25 : Am.isTrue (Am.arun Try.prog tb09 100000 5 [.n 25, .sym 0] Am.m0) = true := by decide +kernel
theorem needs26 : Am.isTrue (Am.arun Try.prog tb09 100000 5 [.n 26, .sym 0] Am.m0) = true := by decide +kernel
theorem needs27 : Am.isTrue (Am.arun Try.prog tb09 100000 5 [.n 27, .sym 0] Am.m0) = true := by decide +kernel
theorem needs28 : Am.isTrue (Am.arun Try.prog tb09 100000 5 [.n 28, .sym 0] Am.m0) = true := by decide +kernel
theorem needs29 : Am.isTrue (Am.arun Try.prog tb09 100000 5 [.n 29, .sym 0] Am.m0) = true := by decide +kernel
theorem needs30 : Am.isTrue (Am.arun Try.prog tb09 100000 5 [.n 30, .sym 0] Am.m0) = true := by decide +kernel
theorem needs31 : Am.isTrue (Am.arun Try.prog tb09 100000 5 [.n 31, .sym 0] Am.m0) = true := by decide +kernel
theorem needs32 : Am.isTrue (Am.arun Try.prog tb09 100000 5 [.n 32, .sym 0] Am.m0) = true := by decide +kernel
end Go.Proofs.Ytkdnajnhblplbaa
