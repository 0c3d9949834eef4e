/- The contracts of the library's maps.Keys, slices.Sorted and slices.Sort, laid at this translation. -/
import Derived.Test.YtkdnajnhblplbaaAmV
import Derived.Test.YtkdnajnhblplbaaRows
import Derived.Shelf.SlIterI.Nil
import Derived.Shelf.SlIterI.Sorted
import Derived.Shelf.SortM.Plain
import Derived.Shelf.SortM.SortNone
import Derived.Ground.GgzProg
import Derived.Ground.SlgmProg
namespace Go.Proofs
open Go.RowKit Go.Maps Go.Sort Go.Shelf
def Try.keysC_ren : Go.Shelf.Ren := ⟨fun | 7 => 45 | 10 => 71 | n => n, fun | 23 => 72 | 26 => 3 | 3 => 75 | 28 => 80 | 0 => 0 | 27 => 79 | 33 => 84 | 4 => 4 | n => n, fun | n => n⟩
theorem Try.keysC : Go.Proofs.SlLaysZI.n7 Try.prog Try.keysC_ren := {
  mixed := by kernel_rfl
  f7 := ⟨Try.f45.name, by decide, Try.func45.trans (congrArg some (by kernel_rfl))⟩
  f10 := ⟨Try.f71.name, by decide, Try.func71.trans (congrArg some (by kernel_rfl))⟩
  t0 := Try.underlying0
  a0 := Try.isAgg0
  z0 := Try.sizeOf0
  v0 := Try.zeroValue0
  t4 := Try.underlying4
  a4 := Try.isAgg4
  z4 := Try.sizeOf4
  v4 := Try.zeroValue4
  t23 := Try.underlying72
  a23 := Try.isAgg72
  z23 := Try.sizeOf72
  v23 := Try.zeroValue72
  t26 := Try.underlying3
  a26 := Try.isAgg3
  z26 := Try.sizeOf3
  v26 := Try.zeroValue3
  t27 := Try.underlying79
  a27 := Try.isAgg79
  z27 := Try.sizeOf79
  v27 := Try.zeroValue79
  t28 := Try.underlying80
  a28 := Try.isAgg80
  z28 := Try.sizeOf80
  v28 := Try.zeroValue80
  t33 := Try.underlying84
  a33 := Try.isAgg84
  z33 := Try.sizeOf84
  v33 := Try.zeroValue84 }
def Try.keysW_ren : Go.Shelf.Ren := ⟨fun | 7 => 60 | 10 => 85 | n => n, fun | 23 => 95 | 26 => 3 | 3 => 31 | 28 => 80 | 0 => 0 | 27 => 79 | 33 => 84 | 4 => 4 | n => n, fun | n => n⟩
theorem Try.keysW : Go.Proofs.SlLaysZI.n7 Try.prog Try.keysW_ren := {
  mixed := by kernel_rfl
  f7 := ⟨Try.f60.name, by decide, Try.func60.trans (congrArg some (by kernel_rfl))⟩
  f10 := ⟨Try.f85.name, by decide, Try.func85.trans (congrArg some (by kernel_rfl))⟩
  t0 := Try.underlying0
  a0 := Try.isAgg0
  z0 := Try.sizeOf0
  v0 := Try.zeroValue0
  t4 := Try.underlying4
  a4 := Try.isAgg4
  z4 := Try.sizeOf4
  v4 := Try.zeroValue4
  t23 := Try.underlying95
  a23 := Try.isAgg95
  z23 := Try.sizeOf95
  v23 := Try.zeroValue95
  t26 := Try.underlying3
  a26 := Try.isAgg3
  z26 := Try.sizeOf3
  v26 := Try.zeroValue3
  t27 := Try.underlying79
  a27 := Try.isAgg79
  z27 := Try.sizeOf79
  v27 := Try.zeroValue79
  t28 := Try.underlying80
  a28 := Try.isAgg80
  z28 := Try.sizeOf80
  v28 := Try.zeroValue80
  t33 := Try.underlying84
  a33 := Try.isAgg84
  z33 := Try.sizeOf84
  v33 := Try.zeroValue84 }
def Try.sortedC_ren : Go.Shelf.Ren := ⟨fun | 6 => 40 | 8 => 64 | 9 => 65 | 11 => 87 | 13 => 89 | 12 => 88 | 23 => 118 | 24 => 119 | 14 => 109 | 15 => 110 | 16 => 111 | 17 => 112 | 18 => 113 | 19 => 114 | 20 => 115 | 21 => 116 | 22 => 117 | 25 => 128 | 26 => 129 | 27 => 130 | 28 => 131 | 29 => 132 | 30 => 133 | 31 => 137 | n => n, fun | 26 => 3 | 28 => 80 | 24 => 22 | 0 => 0 | 3 => 3 | 37 => 121 | 48 => 152 | 50 => 154 | 4 => 4 | 40 => 145 | 39 => 144 | 45 => 103 | 5 => 5 | 9 => 9 | 51 => 163 | 55 => 134 | 57 => 172 | 58 => 173 | 33 => 84 | n => n, fun | n => n⟩
theorem Try.sortedC : Go.Proofs.SlLaysZI.n6 Try.prog Try.sortedC_ren := {
  mixed := by kernel_rfl
  f6 := ⟨Try.f40.name, by decide, Try.func40.trans (congrArg some (by kernel_rfl))⟩
  f8 := ⟨Try.f64.name, by decide, Try.func64.trans (congrArg some (by kernel_rfl))⟩
  f11 := ⟨Try.f87.name, by decide, Try.func87.trans (congrArg some (by kernel_rfl))⟩
  t0 := Try.underlying0
  a0 := Try.isAgg0
  z0 := Try.sizeOf0
  v0 := Try.zeroValue0
  t24 := Try.underlying22
  a24 := Try.isAgg22
  z24 := Try.sizeOf22
  v24 := Try.zeroValue22
  t26 := Try.underlying3
  a26 := Try.isAgg3
  z26 := Try.sizeOf3
  v26 := Try.zeroValue3
  t28 := Try.underlying80
  a28 := Try.isAgg80
  z28 := Try.sizeOf80
  v28 := Try.zeroValue80
  i26 := by kernel_rfl }
def Try.sortC_ren : Go.Shelf.Ren := ⟨fun | 5 => 65 | 8 => 89 | 7 => 88 | 19 => 118 | 20 => 119 | 10 => 109 | 11 => 110 | 12 => 111 | 13 => 112 | 14 => 113 | 15 => 114 | 16 => 115 | 17 => 116 | 18 => 117 | 30 => 128 | 31 => 129 | 32 => 130 | 33 => 131 | 34 => 132 | 35 => 133 | 40 => 137 | n => n, fun | 23 => 22 | 25 => 3 | 3 => 3 | 32 => 121 | 22 => 22 | 0 => 0 | 44 => 152 | 46 => 154 | 4 => 4 | 36 => 145 | 35 => 144 | 41 => 103 | 5 => 5 | 9 => 9 | 53 => 163 | 57 => 134 | 63 => 172 | 64 => 173 | n => n, fun | n => n⟩
theorem Try.sortC : Go.Proofs.SlLaysM.n5 Try.prog Try.sortC_ren := {
  mixed := by kernel_rfl
  f5 := ⟨Try.f65.name, by decide, Try.func65.trans (congrArg some (by kernel_rfl))⟩
  f7 := ⟨Try.f88.name, by decide, Try.func88.trans (congrArg some (by kernel_rfl))⟩
  f8 := Try.func89.trans (congrArg some (by kernel_rfl))
  f10 := ⟨Try.f109.name, by decide, Try.func109.trans (congrArg some (by kernel_rfl))⟩
  f11 := ⟨Try.f110.name, by decide, Try.func110.trans (congrArg some (by kernel_rfl))⟩
  f12 := ⟨Try.f111.name, by decide, Try.func111.trans (congrArg some (by kernel_rfl))⟩
  f13 := ⟨Try.f112.name, by decide, Try.func112.trans (congrArg some (by kernel_rfl))⟩
  f14 := ⟨Try.f113.name, by decide, Try.func113.trans (congrArg some (by kernel_rfl))⟩
  f15 := ⟨Try.f114.name, by decide, Try.func114.trans (congrArg some (by kernel_rfl))⟩
  f16 := ⟨Try.f115.name, by decide, Try.func115.trans (congrArg some (by kernel_rfl))⟩
  f17 := ⟨Try.f116.name, by decide, Try.func116.trans (congrArg some (by kernel_rfl))⟩
  f18 := ⟨Try.f117.name, by decide, Try.func117.trans (congrArg some (by kernel_rfl))⟩
  f19 := Try.func118.trans (congrArg some (by kernel_rfl))
  f20 := Try.func119.trans (congrArg some (by kernel_rfl))
  f30 := ⟨Try.f128.name, by decide, Try.func128.trans (congrArg some (by kernel_rfl))⟩
  f31 := Try.func129.trans (congrArg some (by kernel_rfl))
  f32 := Try.func130.trans (congrArg some (by kernel_rfl))
  f33 := ⟨Try.f131.name, by decide, Try.func131.trans (congrArg some (by kernel_rfl))⟩
  f34 := ⟨Try.f132.name, by decide, Try.func132.trans (congrArg some (by kernel_rfl))⟩
  f35 := ⟨Try.f133.name, by decide, Try.func133.trans (congrArg some (by kernel_rfl))⟩
  f40 := ⟨Try.f137.name, by decide, Try.func137.trans (congrArg some (by kernel_rfl))⟩
  t0 := Try.underlying0
  a0 := Try.isAgg0
  z0 := Try.sizeOf0
  v0 := Try.zeroValue0
  t3 := Try.underlying3
  a3 := Try.isAgg3
  z3 := Try.sizeOf3
  v3 := Try.zeroValue3
  t4 := Try.underlying4
  a4 := Try.isAgg4
  z4 := Try.sizeOf4
  v4 := Try.zeroValue4
  t5 := Try.underlying5
  a5 := Try.isAgg5
  z5 := Try.sizeOf5
  v5 := Try.zeroValue5
  t9 := Try.underlying9
  a9 := Try.isAgg9
  z9 := Try.sizeOf9
  v9 := Try.zeroValue9
  t22 := Try.underlying22
  a22 := Try.isAgg22
  z22 := Try.sizeOf22
  v22 := Try.zeroValue22
  t23 := Try.underlying22
  a23 := Try.isAgg22
  z23 := Try.sizeOf22
  v23 := Try.zeroValue22
  t25 := Try.underlying3
  a25 := Try.isAgg3
  z25 := Try.sizeOf3
  v25 := Try.zeroValue3
  t32 := Try.underlying121
  a32 := Try.isAgg121
  z32 := Try.sizeOf121
  v32 := Try.zeroValue121
  t35 := Try.underlying144
  a35 := Try.isAgg144
  z35 := Try.sizeOf144
  v35 := Try.zeroValue144
  t36 := Try.underlying145
  a36 := Try.isAgg145
  z36 := Try.sizeOf145
  v36 := Try.zeroValue145
  t41 := Try.underlying103
  a41 := Try.isAgg103
  z41 := Try.sizeOf103
  v41 := Try.zeroValue103
  t44 := Try.underlying152
  a44 := Try.isAgg152
  z44 := Try.sizeOf152
  v44 := Try.zeroValue152
  t46 := Try.underlying154
  a46 := Try.isAgg154
  z46 := Try.sizeOf154
  v46 := Try.zeroValue154
  t53 := Try.underlying163
  a53 := Try.isAgg163
  z53 := Try.sizeOf163
  v53 := Try.zeroValue163
  t57 := Try.underlying134
  a57 := Try.isAgg134
  z57 := Try.sizeOf134
  v57 := Try.zeroValue134
  t63 := Try.underlying172
  a63 := Try.isAgg172
  z63 := Try.sizeOf172
  v63 := Try.zeroValue172
  t64 := Try.underlying173
  a64 := Try.isAgg173
  z64 := Try.sizeOf173
  v64 := Try.zeroValue173 }
/-- slices.Sort's two contracts at this dump. -/
theorem Try.sortsC (m : Nat) : AnyZI.SortsIn Try.prog Try.sortedC_ren Fence.wide m :=
  ⟨fun blk off cap ss W hH hblk hsz => callsIn_wide.2 (AnyM.slices_Sort_int Try.sortC blk off cap ss W hH hblk hsz),
   fun p cap W => callsIn_wide.2 (AnyM.slices_Sort_int_none Try.sortC p cap W)⟩
end Go.Proofs
namespace Go.Proofs.Ytkdnajnhblplbaa
open Go.ChangeShapes Go.WideShapes Go.ChangeAt Go.RowKit Go.Maps Go.Sort Go.Shelf

set_option maxHeartbeats 1000000 in
theorem sortsKeysC : Am.SortsKeys Try.prog 40 71 3 3 := {
  key := by kernel_rfl
  elem := by kernel_rfl
  enters := enters_of Try.func40 (by kernel_rfl) rfl
  keys := by
    intro Bm b nn D0 W hBm hcell hown hsize
    refine (callsIn_wide (n := 5)).1 ?_
    have hmax : Maps.size D0 ≤ maxLen := Nat.le_trans hsize (by decide)
    have hbytes : Maps.size D0 * 8 ≤ 140737488355328 := by omega
    have hseq : SeqGives Fence.wide 2 Try.prog 71 #[.pointer (some ⟨Bm, 0, none⟩)] encZ (fun ss => ss.Perm (intKeys D0)) (Maps.size D0) W :=
      AnyZI.keys_gives (ρ := Try.keysC_ren) { Try.keysC with } Fence.wide _ trivial rfl (by omega) Bm b nn D0 W hBm hcell hown
    have cS := AnyZI.sorted_in Try.sortedC Fence.wide 5 trivial trivial trivial trivial rfl (by omega) (Try.sortsC _) (enters_of Try.func65 (by kernel_rfl) rfl) 71 #[.pointer (some ⟨Bm, 0, none⟩)] trivial (enters_of Try.func71 (by kernel_rfl) rfl) _ _ hmax hbytes _ hseq
    exact cS.mono fun e w' ⟨v, ss, h1, h2, h3, h4, h5⟩ => ⟨v, ss, h1, h2, h3, h4.2, h5⟩
  none := by
    intro Bm W hBm hcell
    refine (callsIn_wide (n := 5)).1 ?_
    have hseq : SeqGives Fence.wide 2 Try.prog 71 #[.pointer (some ⟨Bm, 0, none⟩)] encZ (fun ss : List Int => ss = []) 0 W :=
      AnyZI.keys_gives_nil (ρ := Try.keysC_ren) { Try.keysC with } Fence.wide _ trivial rfl Bm W hBm hcell
    have cS := AnyZI.sorted_in Try.sortedC Fence.wide 5 trivial trivial trivial trivial rfl (by omega) (Try.sortsC _) (enters_of Try.func65 (by kernel_rfl) rfl) 71 #[.pointer (some ⟨Bm, 0, none⟩)] trivial (enters_of Try.func71 (by kernel_rfl) rfl) _ 0 (Nat.zero_le _) (by omega) _ hseq
    refine cS.mono fun e w' ⟨v, ss, h1, h2, h3, h4, h5⟩ => ?_
    subst h2
    obtain rfl : v = .slice none 0 0 := h4.2 rfl
    exact ⟨h1, h5⟩
  }

set_option maxHeartbeats 1000000 in
theorem sortsKeysW : Am.SortsKeys Try.prog 40 85 3 3 := {
  key := by kernel_rfl
  elem := by kernel_rfl
  enters := enters_of Try.func40 (by kernel_rfl) rfl
  keys := by
    intro Bm b nn D0 W hBm hcell hown hsize
    refine (callsIn_wide (n := 5)).1 ?_
    have hmax : Maps.size D0 ≤ maxLen := Nat.le_trans hsize (by decide)
    have hbytes : Maps.size D0 * 8 ≤ 140737488355328 := by omega
    have hseq : SeqGives Fence.wide 2 Try.prog 85 #[.pointer (some ⟨Bm, 0, none⟩)] encZ (fun ss => ss.Perm (intKeys D0)) (Maps.size D0) W :=
      AnyZI.keys_gives (ρ := Try.keysW_ren) { Try.keysW with } Fence.wide _ trivial rfl (by omega) Bm b nn D0 W hBm hcell hown
    have cS := AnyZI.sorted_in Try.sortedC Fence.wide 5 trivial trivial trivial trivial rfl (by omega) (Try.sortsC _) (enters_of Try.func65 (by kernel_rfl) rfl) 85 #[.pointer (some ⟨Bm, 0, none⟩)] trivial (enters_of Try.func85 (by kernel_rfl) rfl) _ _ hmax hbytes _ hseq
    exact cS.mono fun e w' ⟨v, ss, h1, h2, h3, h4, h5⟩ => ⟨v, ss, h1, h2, h3, h4.2, h5⟩
  none := by
    intro Bm W hBm hcell
    refine (callsIn_wide (n := 5)).1 ?_
    have hseq : SeqGives Fence.wide 2 Try.prog 85 #[.pointer (some ⟨Bm, 0, none⟩)] encZ (fun ss : List Int => ss = []) 0 W :=
      AnyZI.keys_gives_nil (ρ := Try.keysW_ren) { Try.keysW with } Fence.wide _ trivial rfl Bm W hBm hcell
    have cS := AnyZI.sorted_in Try.sortedC Fence.wide 5 trivial trivial trivial trivial rfl (by omega) (Try.sortsC _) (enters_of Try.func65 (by kernel_rfl) rfl) 85 #[.pointer (some ⟨Bm, 0, none⟩)] trivial (enters_of Try.func85 (by kernel_rfl) rfl) _ 0 (Nat.zero_le _) (by omega) _ hseq
    refine cS.mono fun e w' ⟨v, ss, h1, h2, h3, h4, h5⟩ => ?_
    subst h2
    obtain rfl : v = .slice none 0 0 := h4.2 rfl
    exact ⟨h1, h5⟩
  }

noncomputable def tb : Am.Tb := Am.libTb Try.prog 40 3 [71, 85] []
theorem tb_ok (w0 : World) : Am.TbOk Try.prog w0 tb := Am.libTb_ok (kt := 3) (fun kf h => by
  simp only [List.mem_cons, List.not_mem_nil, or_false] at h
  rcases h with rfl | rfl
  · exact sortsKeysC
  · exact sortsKeysW) (fun c h => by
  cases h)
theorem Try.own : ownKnob Try.prog.godebug = none := by kernel_rfl
theorem Try.good : Am.goodB Try.prog = true := by decide +kernel
end Go.Proofs.Ytkdnajnhblplbaa
