import Derived.Test.YtooooiidpaecmaaGreatIaB
import Derived.Test.YtooooiidpaecmaaGreatIaLay
import Derived.Test.YtooooiidpaecmaaGreatAmSc
/- What is known ahead holds. -/
namespace Go.Proofs.YtooooiidpaecmaaGreat
open Go Go.Am Go.RowKit
theorem ranWakes8 : Am.isTrue (Am.arun Tryz.prog tbL 100000 8 [] Am.m0) = true := by decide +kernel
theorem ranWakes23 : Am.isTrue (Am.arun Tryz.prog tbL 100000 23 [] Am.m0) = true := by decide +kernel
theorem wakes8 : Am.TrueAt Tryz.prog 8 := ⟨enters_of Tryz.func8 (by kernel_rfl) rfl, fun w => Am.closed_calls (Am.good_of Tryz.good) tbL_ok ranWakes8 Tryz.func8 rfl w⟩
theorem wakes23 : Am.TrueAt Tryz.prog 23 := ⟨enters_of Tryz.func23 (by kernel_rfl) rfl, fun w => Am.closed_calls (Am.good_of Tryz.good) tbL_ok ranWakes23 Tryz.func23 rfl w⟩
theorem sortRowsC : SortsRows Tryz.prog 79 := {
 enters := enters_of Tryz.func79 (by kernel_rfl) rfl
 sort := fun blk off cap ss W hH hblk hsz => Go.Proofs.AnyM.slices_Sort_int Tryz.sortC blk off cap ss W hH hblk hsz
 none := fun p cap W => Go.Proofs.AnyM.slices_Sort_int_none Tryz.sortC p cap W }
noncomputable def tb2 : Tb := withSort (withTrue tbL [8, 23]) 79
theorem tb2_ok (w0 : World) : TbOk Tryz.prog w0 tb2 := withSort_ok (Am.withTrue_ok (tbL_ok w0) fun g h => by
 simp only [List.mem_cons, List.not_mem_nil, or_false] at h
 rcases h with rfl | rfl
 ·exact wakes8
 ·exact wakes23) sortRowsC
def smallU : Value := .agg #[.int .i64 64, .int .i64 90, .int .i64 6, .int .i64 30, .int .i64 2, .int .i64 32, .int .i64 1, .int .i64 33, .int .i64 1, .int .i64 34, .int .i64 3, .int .i64 37]
theorem small_cn (ρ : Ren) : conc ρ smallV = some smallU := rfl
theorem ranSmall10 : Am.isVal smallV (Am.arun Tryz.prog tb2 100000 10 [] Am.m0) = true := by decide +kernel
theorem ranSmall24 : Am.isVal smallV (Am.arun Tryz.prog tb2 100000 24 [] Am.m0) = true := by decide +kernel
theorem small10 : Am.ValAt Tryz.prog 10 smallV smallU := ⟨enters_of Tryz.func10 (by kernel_rfl) rfl, small_cn, fun w => Am.closed_val (Am.good_of Tryz.good) tb2_ok ranSmall10 small_cn Tryz.func10 rfl w⟩
theorem small24 : Am.ValAt Tryz.prog 24 smallV smallU := ⟨enters_of Tryz.func24 (by kernel_rfl) rfl, small_cn, fun w => Am.closed_val (Am.good_of Tryz.good) tb2_ok ranSmall24 small_cn Tryz.func24 rfl w⟩
theorem tb0_ok (w0 : World) : TbOk Tryz.prog w0 tb0 := withVal_ok (withVal_ok (tb2_ok w0) small10) small24
theorem clRuns : cls.all (fun c => isVal c.x (arun Tryz.prog tb0 100000 c.g c.args m0)) = true := by decide +kernel
theorem clOk : ∀ c ∈ cls, ClOk Tryz.prog tb0 c := fun c hc => by
 have hr := List.all_eq_true.1 clRuns c hc
 unfold cls at hc
 simp only [List.mem_cons, List.not_mem_nil, or_false] at hc
 rcases hc with rfl | rfl | rfl | rfl
 ·exact ⟨⟨fun args w => enters_of Tryz.func89 (by kernel_rfl) rfl args w, _, _, Tryz.func89, rfl⟩, hr, ⟨_, fun ρ => rfl⟩, _, fun ρ => rfl⟩
 ·exact ⟨⟨fun args w => enters_of Tryz.func57 (by kernel_rfl) rfl args w, _, _, Tryz.func57, rfl⟩, hr, ⟨_, fun ρ => rfl⟩, _, fun ρ => rfl⟩
 ·exact ⟨⟨fun args w => enters_of Tryz.func54 (by kernel_rfl) rfl args w, _, _, Tryz.func54, rfl⟩, hr, ⟨_, fun ρ => rfl⟩, _, fun ρ => rfl⟩
 ·exact ⟨⟨fun args w => enters_of Tryz.func54 (by kernel_rfl) rfl args w, _, _, Tryz.func54, rfl⟩, hr, ⟨_, fun ρ => rfl⟩, _, fun ρ => rfl⟩
theorem tbA_ok (w0 : World) : TbOk Tryz.prog w0 tbA := withCl_ok (Am.good_of Tryz.good) tb0_ok clOk
theorem tb_ok (w0 : World) : TbOk Tryz.prog w0 tb := withRun_ok (Am.good_of Tryz.good) (tbA_ok w0) fun g hg => by
 simp only [List.mem_cons, List.not_mem_nil, or_false] at hg
 rcases hg with rfl | rfl
 ·exact ⟨fun args w => enters_of Tryz.func9 (by kernel_rfl) rfl args w, _, _, Tryz.func9, rfl⟩
 ·exact ⟨fun args w => enters_of Tryz.func25 (by kernel_rfl) rfl args w, _, _, Tryz.func25, rfl⟩
end Go.Proofs.YtooooiidpaecmaaGreat
