/- The contracts of the library's maps.Keys, slices.Sorted and slices.Sort, laid at this translation. -/
import Derived.Test.YtlhplhcfbofdnaaGreatAmV
import Derived.Test.YtlhplhcfbofdnaaGreatRows
import Derived.Shelf.SlIterI.Nil
import Derived.Shelf.SlIterI.Sorted
import Derived.Shelf.SortM.Plain
import Derived.Shelf.SortM.SortNone
import Derived.Shelf.SlMaps.Copy
import Derived.Ground.GgzProg
import Derived.Ground.SlgmProg
import Derived.Ground.SlmpProg
namespace Go.Proofs
open Go.RowKit Go.Maps Go.Sort Go.Shelf
def Tryz.keysW_ren : Go.Shelf.Ren := ⟨fun | 7 => 125 | 10 => 144 | n => n, fun | 23 => 61 | 26 => 3 | 3 => 77 | 28 => 122 | 0 => 0 | 27 => 121 | 33 => 73 | 4 => 4 | n => n, fun | n => n⟩
theorem Tryz.keysW : Go.Proofs.SlLaysZI.n7 Tryz.prog Tryz.keysW_ren := {
  mixed := by kernel_rfl
  f7 := ⟨Tryz.f125.name, by decide, Tryz.func125.trans (congrArg some (by kernel_rfl))⟩
  f10 := ⟨Tryz.f144.name, by decide, Tryz.func144.trans (congrArg some (by kernel_rfl))⟩
  t0 := Tryz.underlying0
  a0 := Tryz.isAgg0
  z0 := Tryz.sizeOf0
  v0 := Tryz.zeroValue0
  t4 := Tryz.underlying4
  a4 := Tryz.isAgg4
  z4 := Tryz.sizeOf4
  v4 := Tryz.zeroValue4
  t23 := Tryz.underlying61
  a23 := Tryz.isAgg61
  z23 := Tryz.sizeOf61
  v23 := Tryz.zeroValue61
  t26 := Tryz.underlying3
  a26 := Tryz.isAgg3
  z26 := Tryz.sizeOf3
  v26 := Tryz.zeroValue3
  t27 := Tryz.underlying121
  a27 := Tryz.isAgg121
  z27 := Tryz.sizeOf121
  v27 := Tryz.zeroValue121
  t28 := Tryz.underlying122
  a28 := Tryz.isAgg122
  z28 := Tryz.sizeOf122
  v28 := Tryz.zeroValue122
  t33 := Tryz.underlying73
  a33 := Tryz.isAgg73
  z33 := Tryz.sizeOf73
  v33 := Tryz.zeroValue73 }
def Tryz.keysG_ren : Go.Shelf.Ren := ⟨fun | 7 => 60 | 10 => 105 | n => n, fun | 23 => 62 | 26 => 3 | 3 => 77 | 28 => 122 | 0 => 0 | 27 => 121 | 33 => 73 | 4 => 4 | n => n, fun | n => n⟩
theorem Tryz.keysG : Go.Proofs.SlLaysZI.n7 Tryz.prog Tryz.keysG_ren := {
  mixed := by kernel_rfl
  f7 := ⟨Tryz.f60.name, by decide, Tryz.func60.trans (congrArg some (by kernel_rfl))⟩
  f10 := ⟨Tryz.f105.name, by decide, Tryz.func105.trans (congrArg some (by kernel_rfl))⟩
  t0 := Tryz.underlying0
  a0 := Tryz.isAgg0
  z0 := Tryz.sizeOf0
  v0 := Tryz.zeroValue0
  t4 := Tryz.underlying4
  a4 := Tryz.isAgg4
  z4 := Tryz.sizeOf4
  v4 := Tryz.zeroValue4
  t23 := Tryz.underlying62
  a23 := Tryz.isAgg62
  z23 := Tryz.sizeOf62
  v23 := Tryz.zeroValue62
  t26 := Tryz.underlying3
  a26 := Tryz.isAgg3
  z26 := Tryz.sizeOf3
  v26 := Tryz.zeroValue3
  t27 := Tryz.underlying121
  a27 := Tryz.isAgg121
  z27 := Tryz.sizeOf121
  v27 := Tryz.zeroValue121
  t28 := Tryz.underlying122
  a28 := Tryz.isAgg122
  z28 := Tryz.sizeOf122
  v28 := Tryz.zeroValue122
  t33 := Tryz.underlying73
  a33 := Tryz.isAgg73
  z33 := Tryz.sizeOf73
  v33 := Tryz.zeroValue73 }
def Tryz.keysC_ren : Go.Shelf.Ren := ⟨fun | 7 => 149 | 10 => 168 | n => n, fun | 23 => 100 | 26 => 3 | 3 => 124 | 28 => 122 | 0 => 0 | 27 => 121 | 33 => 73 | 4 => 4 | n => n, fun | n => n⟩
theorem Tryz.keysC : Go.Proofs.SlLaysZI.n7 Tryz.prog Tryz.keysC_ren := {
  mixed := by kernel_rfl
  f7 := ⟨Tryz.f149.name, by decide, Tryz.func149.trans (congrArg some (by kernel_rfl))⟩
  f10 := ⟨Tryz.f168.name, by decide, Tryz.func168.trans (congrArg some (by kernel_rfl))⟩
  t0 := Tryz.underlying0
  a0 := Tryz.isAgg0
  z0 := Tryz.sizeOf0
  v0 := Tryz.zeroValue0
  t4 := Tryz.underlying4
  a4 := Tryz.isAgg4
  z4 := Tryz.sizeOf4
  v4 := Tryz.zeroValue4
  t23 := Tryz.underlying100
  a23 := Tryz.isAgg100
  z23 := Tryz.sizeOf100
  v23 := Tryz.zeroValue100
  t26 := Tryz.underlying3
  a26 := Tryz.isAgg3
  z26 := Tryz.sizeOf3
  v26 := Tryz.zeroValue3
  t27 := Tryz.underlying121
  a27 := Tryz.isAgg121
  z27 := Tryz.sizeOf121
  v27 := Tryz.zeroValue121
  t28 := Tryz.underlying122
  a28 := Tryz.isAgg122
  z28 := Tryz.sizeOf122
  v28 := Tryz.zeroValue122
  t33 := Tryz.underlying73
  a33 := Tryz.isAgg73
  z33 := Tryz.sizeOf73
  v33 := Tryz.zeroValue73 }
def Tryz.sortedC_ren : Go.Shelf.Ren := ⟨fun | 6 => 59 | 8 => 103 | 9 => 104 | 11 => 133 | 13 => 135 | 12 => 134 | 23 => 159 | 24 => 160 | 14 => 150 | 15 => 151 | 16 => 152 | 17 => 153 | 18 => 154 | 19 => 155 | 20 => 156 | 21 => 157 | 22 => 158 | 25 => 169 | 26 => 170 | 27 => 171 | 28 => 172 | 29 => 173 | 30 => 174 | 31 => 176 | n => n, fun | 26 => 3 | 28 => 122 | 24 => 37 | 0 => 0 | 3 => 3 | 37 => 182 | 48 => 170 | 50 => 198 | 4 => 4 | 40 => 203 | 39 => 202 | 45 => 166 | 5 => 5 | 9 => 9 | 51 => 217 | 55 => 147 | 57 => 223 | 58 => 224 | 33 => 73 | n => n, fun | n => n⟩
theorem Tryz.sortedC : Go.Proofs.SlLaysZI.n6 Tryz.prog Tryz.sortedC_ren := {
  mixed := by kernel_rfl
  f6 := ⟨Tryz.f59.name, by decide, Tryz.func59.trans (congrArg some (by kernel_rfl))⟩
  f8 := ⟨Tryz.f103.name, by decide, Tryz.func103.trans (congrArg some (by kernel_rfl))⟩
  f11 := ⟨Tryz.f133.name, by decide, Tryz.func133.trans (congrArg some (by kernel_rfl))⟩
  t0 := Tryz.underlying0
  a0 := Tryz.isAgg0
  z0 := Tryz.sizeOf0
  v0 := Tryz.zeroValue0
  t24 := Tryz.underlying37
  a24 := Tryz.isAgg37
  z24 := Tryz.sizeOf37
  v24 := Tryz.zeroValue37
  t26 := Tryz.underlying3
  a26 := Tryz.isAgg3
  z26 := Tryz.sizeOf3
  v26 := Tryz.zeroValue3
  t28 := Tryz.underlying122
  a28 := Tryz.isAgg122
  z28 := Tryz.sizeOf122
  v28 := Tryz.zeroValue122
  i26 := by kernel_rfl }
def Tryz.sortC_ren : Go.Shelf.Ren := ⟨fun | 5 => 104 | 8 => 135 | 7 => 134 | 19 => 159 | 20 => 160 | 10 => 150 | 11 => 151 | 12 => 152 | 13 => 153 | 14 => 154 | 15 => 155 | 16 => 156 | 17 => 157 | 18 => 158 | 30 => 169 | 31 => 170 | 32 => 171 | 33 => 172 | 34 => 173 | 35 => 174 | 40 => 176 | n => n, fun | 23 => 37 | 25 => 3 | 3 => 3 | 32 => 182 | 22 => 37 | 0 => 0 | 44 => 170 | 46 => 198 | 4 => 4 | 36 => 203 | 35 => 202 | 41 => 166 | 5 => 5 | 9 => 9 | 53 => 217 | 57 => 147 | 63 => 223 | 64 => 224 | n => n, fun | n => n⟩
theorem Tryz.sortC : Go.Proofs.SlLaysM.n5 Tryz.prog Tryz.sortC_ren := {
  mixed := by kernel_rfl
  f5 := ⟨Tryz.f104.name, by decide, Tryz.func104.trans (congrArg some (by kernel_rfl))⟩
  f7 := ⟨Tryz.f134.name, by decide, Tryz.func134.trans (congrArg some (by kernel_rfl))⟩
  f8 := Tryz.func135.trans (congrArg some (by kernel_rfl))
  f10 := ⟨Tryz.f150.name, by decide, Tryz.func150.trans (congrArg some (by kernel_rfl))⟩
  f11 := ⟨Tryz.f151.name, by decide, Tryz.func151.trans (congrArg some (by kernel_rfl))⟩
  f12 := ⟨Tryz.f152.name, by decide, Tryz.func152.trans (congrArg some (by kernel_rfl))⟩
  f13 := ⟨Tryz.f153.name, by decide, Tryz.func153.trans (congrArg some (by kernel_rfl))⟩
  f14 := ⟨Tryz.f154.name, by decide, Tryz.func154.trans (congrArg some (by kernel_rfl))⟩
  f15 := ⟨Tryz.f155.name, by decide, Tryz.func155.trans (congrArg some (by kernel_rfl))⟩
  f16 := ⟨Tryz.f156.name, by decide, Tryz.func156.trans (congrArg some (by kernel_rfl))⟩
  f17 := ⟨Tryz.f157.name, by decide, Tryz.func157.trans (congrArg some (by kernel_rfl))⟩
  f18 := ⟨Tryz.f158.name, by decide, Tryz.func158.trans (congrArg some (by kernel_rfl))⟩
  f19 := Tryz.func159.trans (congrArg some (by kernel_rfl))
  f20 := Tryz.func160.trans (congrArg some (by kernel_rfl))
  f30 := ⟨Tryz.f169.name, by decide, Tryz.func169.trans (congrArg some (by kernel_rfl))⟩
  f31 := Tryz.func170.trans (congrArg some (by kernel_rfl))
  f32 := Tryz.func171.trans (congrArg some (by kernel_rfl))
  f33 := ⟨Tryz.f172.name, by decide, Tryz.func172.trans (congrArg some (by kernel_rfl))⟩
  f34 := ⟨Tryz.f173.name, by decide, Tryz.func173.trans (congrArg some (by kernel_rfl))⟩
  f35 := ⟨Tryz.f174.name, by decide, Tryz.func174.trans (congrArg some (by kernel_rfl))⟩
  f40 := ⟨Tryz.f176.name, by decide, Tryz.func176.trans (congrArg some (by kernel_rfl))⟩
  t0 := Tryz.underlying0
  a0 := Tryz.isAgg0
  z0 := Tryz.sizeOf0
  v0 := Tryz.zeroValue0
  t3 := Tryz.underlying3
  a3 := Tryz.isAgg3
  z3 := Tryz.sizeOf3
  v3 := Tryz.zeroValue3
  t4 := Tryz.underlying4
  a4 := Tryz.isAgg4
  z4 := Tryz.sizeOf4
  v4 := Tryz.zeroValue4
  t5 := Tryz.underlying5
  a5 := Tryz.isAgg5
  z5 := Tryz.sizeOf5
  v5 := Tryz.zeroValue5
  t9 := Tryz.underlying9
  a9 := Tryz.isAgg9
  z9 := Tryz.sizeOf9
  v9 := Tryz.zeroValue9
  t22 := Tryz.underlying37
  a22 := Tryz.isAgg37
  z22 := Tryz.sizeOf37
  v22 := Tryz.zeroValue37
  t23 := Tryz.underlying37
  a23 := Tryz.isAgg37
  z23 := Tryz.sizeOf37
  v23 := Tryz.zeroValue37
  t25 := Tryz.underlying3
  a25 := Tryz.isAgg3
  z25 := Tryz.sizeOf3
  v25 := Tryz.zeroValue3
  t32 := Tryz.underlying182
  a32 := Tryz.isAgg182
  z32 := Tryz.sizeOf182
  v32 := Tryz.zeroValue182
  t35 := Tryz.underlying202
  a35 := Tryz.isAgg202
  z35 := Tryz.sizeOf202
  v35 := Tryz.zeroValue202
  t36 := Tryz.underlying203
  a36 := Tryz.isAgg203
  z36 := Tryz.sizeOf203
  v36 := Tryz.zeroValue203
  t41 := Tryz.underlying166
  a41 := Tryz.isAgg166
  z41 := Tryz.sizeOf166
  v41 := Tryz.zeroValue166
  t44 := Tryz.underlying170
  a44 := Tryz.isAgg170
  z44 := Tryz.sizeOf170
  v44 := Tryz.zeroValue170
  t46 := Tryz.underlying198
  a46 := Tryz.isAgg198
  z46 := Tryz.sizeOf198
  v46 := Tryz.zeroValue198
  t53 := Tryz.underlying217
  a53 := Tryz.isAgg217
  z53 := Tryz.sizeOf217
  v53 := Tryz.zeroValue217
  t57 := Tryz.underlying147
  a57 := Tryz.isAgg147
  z57 := Tryz.sizeOf147
  v57 := Tryz.zeroValue147
  t63 := Tryz.underlying223
  a63 := Tryz.isAgg223
  z63 := Tryz.sizeOf223
  v63 := Tryz.zeroValue223
  t64 := Tryz.underlying224
  a64 := Tryz.isAgg224
  z64 := Tryz.sizeOf224
  v64 := Tryz.zeroValue224 }
def Tryz.copyG_ren : Go.Shelf.Ren := ⟨fun | 5 => 29 | n => n, fun | 23 => 62 | 24 => 62 | 26 => 3 | 27 => 77 | 0 => 0 | 4 => 4 | n => n, fun | n => n⟩
theorem Tryz.copyG : Go.Proofs.SlLaysX.n5 Tryz.prog Tryz.copyG_ren := {
  mixed := by kernel_rfl
  f5 := ⟨Tryz.f29.name, by decide, Tryz.func29.trans (congrArg some (by kernel_rfl))⟩
  t0 := Tryz.underlying0
  a0 := Tryz.isAgg0
  z0 := Tryz.sizeOf0
  v0 := Tryz.zeroValue0
  t4 := Tryz.underlying4
  a4 := Tryz.isAgg4
  z4 := Tryz.sizeOf4
  v4 := Tryz.zeroValue4
  t23 := Tryz.underlying62
  a23 := Tryz.isAgg62
  z23 := Tryz.sizeOf62
  v23 := Tryz.zeroValue62
  t24 := Tryz.underlying62
  a24 := Tryz.isAgg62
  z24 := Tryz.sizeOf62
  v24 := Tryz.zeroValue62
  a26 := Tryz.isAgg3
  z26 := Tryz.sizeOf3
  a27 := Tryz.isAgg77
  z27 := Tryz.sizeOf77 }
/-- slices.Sort's two contracts at this dump. -/
theorem Tryz.sortsC (m : Nat) : AnyZI.SortsIn Tryz.prog Tryz.sortedC_ren Fence.wide m :=
  ⟨fun blk off cap ss W hH hblk hsz => callsIn_wide.2 (AnyM.slices_Sort_int Tryz.sortC blk off cap ss W hH hblk hsz),
   fun p cap W => callsIn_wide.2 (AnyM.slices_Sort_int_none Tryz.sortC p cap W)⟩
end Go.Proofs
namespace Go.Proofs.YtlhplhcfbofdnaaGreat
open Go.ChangeShapes Go.WideShapes Go.ChangeAt Go.RowKit Go.Maps Go.Sort Go.Shelf

set_option maxHeartbeats 1000000 in
theorem sortsKeysW : Am.SortsKeys Tryz.prog 59 144 3 3 := {
  key := by kernel_rfl
  elem := by kernel_rfl
  enters := enters_of Tryz.func59 (by kernel_rfl) rfl
  keys := by
    intro Bm b nn D0 W hBm hcell hown hsize
    refine (callsIn_wide (n := 5)).1 ?_
    have hmax : Maps.size D0 ≤ maxLen := Nat.le_trans hsize (by decide)
    have hbytes : Maps.size D0 * 8 ≤ 140737488355328 := by omega
    have hseq : SeqGives Fence.wide 2 Tryz.prog 144 #[.pointer (some ⟨Bm, 0, none⟩)] encZ (fun ss => ss.Perm (intKeys D0)) (Maps.size D0) W :=
      AnyZI.keys_gives (ρ := Tryz.keysW_ren) { Tryz.keysW with } Fence.wide _ trivial rfl (by omega) Bm b nn D0 W hBm hcell hown
    have cS := AnyZI.sorted_in Tryz.sortedC Fence.wide 5 trivial trivial trivial trivial rfl (by omega) (Tryz.sortsC _) (enters_of Tryz.func104 (by kernel_rfl) rfl) 144 #[.pointer (some ⟨Bm, 0, none⟩)] trivial (enters_of Tryz.func144 (by kernel_rfl) rfl) _ _ hmax hbytes _ hseq
    exact cS.mono fun e w' ⟨v, ss, h1, h2, h3, h4, h5⟩ => ⟨v, ss, h1, h2, h3, h4.2, h5⟩
  none := by
    intro Bm W hBm hcell
    refine (callsIn_wide (n := 5)).1 ?_
    have hseq : SeqGives Fence.wide 2 Tryz.prog 144 #[.pointer (some ⟨Bm, 0, none⟩)] encZ (fun ss : List Int => ss = []) 0 W :=
      AnyZI.keys_gives_nil (ρ := Tryz.keysW_ren) { Tryz.keysW with } Fence.wide _ trivial rfl Bm W hBm hcell
    have cS := AnyZI.sorted_in Tryz.sortedC Fence.wide 5 trivial trivial trivial trivial rfl (by omega) (Tryz.sortsC _) (enters_of Tryz.func104 (by kernel_rfl) rfl) 144 #[.pointer (some ⟨Bm, 0, none⟩)] trivial (enters_of Tryz.func144 (by kernel_rfl) rfl) _ 0 (Nat.zero_le _) (by omega) _ hseq
    refine cS.mono fun e w' ⟨v, ss, h1, h2, h3, h4, h5⟩ => ?_
    subst h2
    obtain rfl : v = .slice none 0 0 := h4.2 rfl
    exact ⟨h1, h5⟩
  }

set_option maxHeartbeats 1000000 in
theorem sortsKeysG : Am.SortsKeys Tryz.prog 59 105 3 3 := {
  key := by kernel_rfl
  elem := by kernel_rfl
  enters := enters_of Tryz.func59 (by kernel_rfl) rfl
  keys := by
    intro Bm b nn D0 W hBm hcell hown hsize
    refine (callsIn_wide (n := 5)).1 ?_
    have hmax : Maps.size D0 ≤ maxLen := Nat.le_trans hsize (by decide)
    have hbytes : Maps.size D0 * 8 ≤ 140737488355328 := by omega
    have hseq : SeqGives Fence.wide 2 Tryz.prog 105 #[.pointer (some ⟨Bm, 0, none⟩)] encZ (fun ss => ss.Perm (intKeys D0)) (Maps.size D0) W :=
      AnyZI.keys_gives (ρ := Tryz.keysG_ren) { Tryz.keysG with } Fence.wide _ trivial rfl (by omega) Bm b nn D0 W hBm hcell hown
    have cS := AnyZI.sorted_in Tryz.sortedC Fence.wide 5 trivial trivial trivial trivial rfl (by omega) (Tryz.sortsC _) (enters_of Tryz.func104 (by kernel_rfl) rfl) 105 #[.pointer (some ⟨Bm, 0, none⟩)] trivial (enters_of Tryz.func105 (by kernel_rfl) rfl) _ _ hmax hbytes _ hseq
    exact cS.mono fun e w' ⟨v, ss, h1, h2, h3, h4, h5⟩ => ⟨v, ss, h1, h2, h3, h4.2, h5⟩
  none := by
    intro Bm W hBm hcell
    refine (callsIn_wide (n := 5)).1 ?_
    have hseq : SeqGives Fence.wide 2 Tryz.prog 105 #[.pointer (some ⟨Bm, 0, none⟩)] encZ (fun ss : List Int => ss = []) 0 W :=
      AnyZI.keys_gives_nil (ρ := Tryz.keysG_ren) { Tryz.keysG with } Fence.wide _ trivial rfl Bm W hBm hcell
    have cS := AnyZI.sorted_in Tryz.sortedC Fence.wide 5 trivial trivial trivial trivial rfl (by omega) (Tryz.sortsC _) (enters_of Tryz.func104 (by kernel_rfl) rfl) 105 #[.pointer (some ⟨Bm, 0, none⟩)] trivial (enters_of Tryz.func105 (by kernel_rfl) rfl) _ 0 (Nat.zero_le _) (by omega) _ hseq
    refine cS.mono fun e w' ⟨v, ss, h1, h2, h3, h4, h5⟩ => ?_
    subst h2
    obtain rfl : v = .slice none 0 0 := h4.2 rfl
    exact ⟨h1, h5⟩
  }

set_option maxHeartbeats 1000000 in
theorem sortsKeysC : Am.SortsKeys Tryz.prog 59 168 3 3 := {
  key := by kernel_rfl
  elem := by kernel_rfl
  enters := enters_of Tryz.func59 (by kernel_rfl) rfl
  keys := by
    intro Bm b nn D0 W hBm hcell hown hsize
    refine (callsIn_wide (n := 5)).1 ?_
    have hmax : Maps.size D0 ≤ maxLen := Nat.le_trans hsize (by decide)
    have hbytes : Maps.size D0 * 8 ≤ 140737488355328 := by omega
    have hseq : SeqGives Fence.wide 2 Tryz.prog 168 #[.pointer (some ⟨Bm, 0, none⟩)] encZ (fun ss => ss.Perm (intKeys D0)) (Maps.size D0) W :=
      AnyZI.keys_gives (ρ := Tryz.keysC_ren) { Tryz.keysC with } Fence.wide _ trivial rfl (by omega) Bm b nn D0 W hBm hcell hown
    have cS := AnyZI.sorted_in Tryz.sortedC Fence.wide 5 trivial trivial trivial trivial rfl (by omega) (Tryz.sortsC _) (enters_of Tryz.func104 (by kernel_rfl) rfl) 168 #[.pointer (some ⟨Bm, 0, none⟩)] trivial (enters_of Tryz.func168 (by kernel_rfl) rfl) _ _ hmax hbytes _ hseq
    exact cS.mono fun e w' ⟨v, ss, h1, h2, h3, h4, h5⟩ => ⟨v, ss, h1, h2, h3, h4.2, h5⟩
  none := by
    intro Bm W hBm hcell
    refine (callsIn_wide (n := 5)).1 ?_
    have hseq : SeqGives Fence.wide 2 Tryz.prog 168 #[.pointer (some ⟨Bm, 0, none⟩)] encZ (fun ss : List Int => ss = []) 0 W :=
      AnyZI.keys_gives_nil (ρ := Tryz.keysC_ren) { Tryz.keysC with } Fence.wide _ trivial rfl Bm W hBm hcell
    have cS := AnyZI.sorted_in Tryz.sortedC Fence.wide 5 trivial trivial trivial trivial rfl (by omega) (Tryz.sortsC _) (enters_of Tryz.func104 (by kernel_rfl) rfl) 168 #[.pointer (some ⟨Bm, 0, none⟩)] trivial (enters_of Tryz.func168 (by kernel_rfl) rfl) _ 0 (Nat.zero_le _) (by omega) _ hseq
    refine cS.mono fun e w' ⟨v, ss, h1, h2, h3, h4, h5⟩ => ?_
    subst h2
    obtain rfl : v = .slice none 0 0 := h4.2 rfl
    exact ⟨h1, h5⟩
  }

theorem copyMapsG : Am.CopyMaps Tryz.prog 29 3 := {
  key := by kernel_rfl
  enters := enters_of Tryz.func29 (by kernel_rfl) rfl
  copy := fun bd nd bs ns Dd Ds W h1 h2 h3 h4 => (AnyX.maps_Copy (ρ := Tryz.copyG_ren) { Tryz.copyG with } (int_keyed (show Tryz.prog.underlying 3 = some (.int .i64) by kernel_rfl)) Am.selfR bd bs nd ns Dd Ds W h1 h2 h3 h4).mono fun _ _ h => ⟨h.1, h.2.1, h.2.2.2⟩
  }

noncomputable def tb : Am.Tb := Am.libTb Tryz.prog 59 3 [144, 105, 168] [29]
theorem tb_ok (w0 : World) : Am.TbOk Tryz.prog w0 tb := Am.libTb_ok (kt := 3) (fun kf h => by
  simp only [List.mem_cons, List.not_mem_nil, or_false] at h
  rcases h with rfl | rfl | rfl
  · exact sortsKeysW
  · exact sortsKeysG
  · exact sortsKeysC) (fun c h => by
  simp only [List.mem_cons, List.not_mem_nil, or_false] at h
  rcases h with rfl
  · exact copyMapsG)
theorem Tryz.own : ownKnob Tryz.prog.godebug = none := by kernel_rfl
theorem Tryz.good : Am.goodB Tryz.prog = true := by decide +kernel
end Go.Proofs.YtlhplhcfbofdnaaGreat
