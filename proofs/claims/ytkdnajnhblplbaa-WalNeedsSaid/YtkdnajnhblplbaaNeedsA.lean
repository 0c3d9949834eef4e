/- The law 'skerrylaw09.WalNeeds' at some numbers, whatever the byte. Conditions: none. -/
import Derived.Test.YtkdnajnhblplbaaW09
namespace Go.Proofs.Ytkdnajnhblplbaa
theorem needs0 : Am.isTrue (Am.arun Try.prog tb09 100000 5 [.n 0, .sym 0] Am.m0) = true := by decide +kernel
theorem needs1 : Am.isTrue (Am.arun Try.prog tb09 100000 5 [.n 1, .sym 0] Am.m0) = true := by decide +kernel
theorem needs2 : Am.isTrue (Am.arun Try.prog tb09 100000 5 [.n 2, .sym 0] Am.m0) = true := by decide +kernel
theorem needs3 : Am.isTrue (Am.arun Try.prog tb09 100000 5 [.n 3, .sym 0] Am.m0) = true := by decide +kernel
theorem needs4 : Am.isTrue (Am.arun Try.prog tb09 100000 5 [.n 4, .sym 0] Am.m0) = true := by decide +kernel
theorem needs5 : Am.isTrue (Am.arun Try.prog tb09 100000 5 [.n 5, .sym 0] Am.m0) = true := by decide +kernel
theorem needs6 : Am.isTrue (Am.arun Try.prog tb09 100000 5 [.n 6, .sym 0] Am.m0) = true := by decide +kernel
theorem needs7 : Am.isTrue (Am.arun Try.prog tb09 100000 5 [.n 7, .sym 0] Am.m0) = true := by decide +kernel
theorem needs8 : Am.isTrue (Am.arun Try.prog tb09 100000 5 [.n 8, .sym 0] Am.m0) = true := by decide +kernel
theorem needs9 : Am.isTrue (Am.arun Try.prog tb09 100000 5 [.n 9, .sym 0] Am.m0) = true := by decide +kernel
theorem needs10 : Am.isTrue (Am.arun Try.prog tb09 100000 5 [.n 10, .sym 0] Am.m0) = true := by decide +kernel
theorem needs11 : Am.isTrue (Am.arun Try.prog tb09 100000 5 [.n 11, .sym 0] Am.m0) = true := by decide +kernel
theorem needs12 : Am.isTrue (Am.arun Try.prog tb09 100000 5 [.n 12, .sym 0] Am.m0) = true := by decide +kernel
theorem needs13 : Am.isTrue (Am.arun Try.prog tb09 100000 5 [.n 13, .sym 0] Am.m0) = true := by decide +kernel
theorem needsNeg : Am.isTrue (Am.arun Try.prog tb09 100000 5 [.sym 1, .sym 0] Am.m0) = true := by decide +kernel
theorem needsBig : Am.isTrue (Am.arun Try.prog tb09 100000 5 [.sym 162, .sym 0] Am.m0) = true := by decide +kernel
end Go.Proofs.Ytkdnajnhblplbaa
