import Derived.Test.YthbfinjddaembaaGreatAmV
import Derived.Test.YthbfinjddaembaaGreatRows
import Derived.Shelf.SlIterI.Nil
import Derived.Shelf.SlIterI.Sorted
import Derived.Shelf.SortM.Plain
import Derived.Shelf.SortM.SortNone
import Derived.Ground.GgzProg
import Derived.Ground.SlgmProg
/- The contracts of the library's maps.Keys, slices.Sorted and slices.Sort, laid at this translation. -/
namespace Go.Proofs
open Go.RowKit Go.Maps Go.Sort Go.Shelf
def Tryz.keysC_ren : Go.Shelf.Ren := ⟨fun | 7 => 53 | 10 => 92 | n => n, fun | 23 => 82 | 26 => 3 | 3 => 43 | 28 => 93 | 0 => 0 | 27 => 92 | 33 => 108 | 4 => 4 | n => n, fun | n => n⟩
theorem Tryz.keysC : Go.Proofs.SlLaysZI.n7 Tryz.prog Tryz.keysC_ren := {
  mixed := by kernel_rfl
  f7 := ⟨Tryz.f53.name, by decide, Tryz.func53.trans (congrArg some (by kernel_rfl))⟩
  f10 := ⟨Tryz.f92.name, by decide, Tryz.func92.trans (congrArg some (by kernel_rfl))⟩
  t0 := Tryz.underlying0
  a0 := Tryz.isAgg0
  z0 := Tryz.sizeOf0
  v0 := Tryz.zeroValue0
  t4 := Tryz.underlying4
  a4 := Tryz.isAgg4
  z4 := Tryz.sizeOf4
  v4 := Tryz.zeroValue4
  t23 := Tryz.underlying82
  a23 := Tryz.isAgg82
  z23 := Tryz.sizeOf82
  v23 := Tryz.zeroValue82
  t26 := Tryz.underlying3
  a26 := Tryz.isAgg3
  z26 := Tryz.sizeOf3
  v26 := Tryz.zeroValue3
  t27 := Tryz.underlying92
  a27 := Tryz.isAgg92
  z27 := Tryz.sizeOf92
  v27 := Tryz.zeroValue92
  t28 := Tryz.underlying93
  a28 := Tryz.isAgg93
  z28 := Tryz.sizeOf93
  v28 := Tryz.zeroValue93
  t33 := Tryz.underlying108
  a33 := Tryz.isAgg108
  z33 := Tryz.sizeOf108
  v33 := Tryz.zeroValue108 }
def Tryz.sortedC_ren : Go.Shelf.Ren := ⟨fun | 6 => 52 | 8 => 90 | 9 => 91 | 11 => 117 | 13 => 119 | 12 => 118 | 23 => 141 | 24 => 142 | 14 => 132 | 15 => 133 | 16 => 134 | 17 => 135 | 18 => 136 | 19 => 137 | 20 => 138 | 21 => 139 | 22 => 140 | 25 => 149 | 26 => 150 | 27 => 151 | 28 => 152 | 29 => 153 | 30 => 154 | 31 => 158 | n => n, fun | 26 => 3 | 28 => 93 | 24 => 69 | 0 => 0 | 3 => 3 | 37 => 153 | 48 => 161 | 50 => 175 | 4 => 4 | 40 => 167 | 39 => 166 | 45 => 171 | 5 => 5 | 9 => 9 | 51 => 180 | 55 => 132 | 57 => 190 | 58 => 191 | 33 => 108 | n => n, fun | n => n⟩
theorem Tryz.sortedC : Go.Proofs.SlLaysZI.n6 Tryz.prog Tryz.sortedC_ren := {
  mixed := by kernel_rfl
  f6 := ⟨Tryz.f52.name, by decide, Tryz.func52.trans (congrArg some (by kernel_rfl))⟩
  f8 := ⟨Tryz.f90.name, by decide, Tryz.func90.trans (congrArg some (by kernel_rfl))⟩
  f11 := ⟨Tryz.f117.name, by decide, Tryz.func117.trans (congrArg some (by kernel_rfl))⟩
  t0 := Tryz.underlying0
  a0 := Tryz.isAgg0
  z0 := Tryz.sizeOf0
  v0 := Tryz.zeroValue0
  t24 := Tryz.underlying69
  a24 := Tryz.isAgg69
  z24 := Tryz.sizeOf69
  v24 := Tryz.zeroValue69
  t26 := Tryz.underlying3
  a26 := Tryz.isAgg3
  z26 := Tryz.sizeOf3
  v26 := Tryz.zeroValue3
  t28 := Tryz.underlying93
  a28 := Tryz.isAgg93
  z28 := Tryz.sizeOf93
  v28 := Tryz.zeroValue93
  i26 := by kernel_rfl }
def Tryz.sortC_ren : Go.Shelf.Ren := ⟨fun | 5 => 91 | 8 => 119 | 7 => 118 | 19 => 141 | 20 => 142 | 10 => 132 | 11 => 133 | 12 => 134 | 13 => 135 | 14 => 136 | 15 => 137 | 16 => 138 | 17 => 139 | 18 => 140 | 30 => 149 | 31 => 150 | 32 => 151 | 33 => 152 | 34 => 153 | 35 => 154 | 40 => 158 | n => n, fun | 23 => 69 | 25 => 3 | 3 => 3 | 32 => 153 | 22 => 69 | 0 => 0 | 44 => 161 | 46 => 175 | 4 => 4 | 36 => 167 | 35 => 166 | 41 => 171 | 5 => 5 | 9 => 9 | 53 => 180 | 57 => 132 | 63 => 190 | 64 => 191 | n => n, fun | n => n⟩
theorem Tryz.sortC : Go.Proofs.SlLaysM.n5 Tryz.prog Tryz.sortC_ren := {
  mixed := by kernel_rfl
  f5 := ⟨Tryz.f91.name, by decide, Tryz.func91.trans (congrArg some (by kernel_rfl))⟩
  f7 := ⟨Tryz.f118.name, by decide, Tryz.func118.trans (congrArg some (by kernel_rfl))⟩
  f8 := Tryz.func119.trans (congrArg some (by kernel_rfl))
  f10 := ⟨Tryz.f132.name, by decide, Tryz.func132.trans (congrArg some (by kernel_rfl))⟩
  f11 := ⟨Tryz.f133.name, by decide, Tryz.func133.trans (congrArg some (by kernel_rfl))⟩
  f12 := ⟨Tryz.f134.name, by decide, Tryz.func134.trans (congrArg some (by kernel_rfl))⟩
  f13 := ⟨Tryz.f135.name, by decide, Tryz.func135.trans (congrArg some (by kernel_rfl))⟩
  f14 := ⟨Tryz.f136.name, by decide, Tryz.func136.trans (congrArg some (by kernel_rfl))⟩
  f15 := ⟨Tryz.f137.name, by decide, Tryz.func137.trans (congrArg some (by kernel_rfl))⟩
  f16 := ⟨Tryz.f138.name, by decide, Tryz.func138.trans (congrArg some (by kernel_rfl))⟩
  f17 := ⟨Tryz.f139.name, by decide, Tryz.func139.trans (congrArg some (by kernel_rfl))⟩
  f18 := ⟨Tryz.f140.name, by decide, Tryz.func140.trans (congrArg some (by kernel_rfl))⟩
  f19 := Tryz.func141.trans (congrArg some (by kernel_rfl))
  f20 := Tryz.func142.trans (congrArg some (by kernel_rfl))
  f30 := ⟨Tryz.f149.name, by decide, Tryz.func149.trans (congrArg some (by kernel_rfl))⟩
  f31 := Tryz.func150.trans (congrArg some (by kernel_rfl))
  f32 := Tryz.func151.trans (congrArg some (by kernel_rfl))
  f33 := ⟨Tryz.f152.name, by decide, Tryz.func152.trans (congrArg some (by kernel_rfl))⟩
  f34 := ⟨Tryz.f153.name, by decide, Tryz.func153.trans (congrArg some (by kernel_rfl))⟩
  f35 := ⟨Tryz.f154.name, by decide, Tryz.func154.trans (congrArg some (by kernel_rfl))⟩
  f40 := ⟨Tryz.f158.name, by decide, Tryz.func158.trans (congrArg some (by kernel_rfl))⟩
  t0 := Tryz.underlying0
  a0 := Tryz.isAgg0
  z0 := Tryz.sizeOf0
  v0 := Tryz.zeroValue0
  t3 := Tryz.underlying3
  a3 := Tryz.isAgg3
  z3 := Tryz.sizeOf3
  v3 := Tryz.zeroValue3
  t4 := Tryz.underlying4
  a4 := Tryz.isAgg4
  z4 := Tryz.sizeOf4
  v4 := Tryz.zeroValue4
  t5 := Tryz.underlying5
  a5 := Tryz.isAgg5
  z5 := Tryz.sizeOf5
  v5 := Tryz.zeroValue5
  t9 := Tryz.underlying9
  a9 := Tryz.isAgg9
  z9 := Tryz.sizeOf9
  v9 := Tryz.zeroValue9
  t22 := Tryz.underlying69
  a22 := Tryz.isAgg69
  z22 := Tryz.sizeOf69
  v22 := Tryz.zeroValue69
  t23 := Tryz.underlying69
  a23 := Tryz.isAgg69
  z23 := Tryz.sizeOf69
  v23 := Tryz.zeroValue69
  t25 := Tryz.underlying3
  a25 := Tryz.isAgg3
  z25 := Tryz.sizeOf3
  v25 := Tryz.zeroValue3
  t32 := Tryz.underlying153
  a32 := Tryz.isAgg153
  z32 := Tryz.sizeOf153
  v32 := Tryz.zeroValue153
  t35 := Tryz.underlying166
  a35 := Tryz.isAgg166
  z35 := Tryz.sizeOf166
  v35 := Tryz.zeroValue166
  t36 := Tryz.underlying167
  a36 := Tryz.isAgg167
  z36 := Tryz.sizeOf167
  v36 := Tryz.zeroValue167
  t41 := Tryz.underlying171
  a41 := Tryz.isAgg171
  z41 := Tryz.sizeOf171
  v41 := Tryz.zeroValue171
  t44 := Tryz.underlying161
  a44 := Tryz.isAgg161
  z44 := Tryz.sizeOf161
  v44 := Tryz.zeroValue161
  t46 := Tryz.underlying175
  a46 := Tryz.isAgg175
  z46 := Tryz.sizeOf175
  v46 := Tryz.zeroValue175
  t53 := Tryz.underlying180
  a53 := Tryz.isAgg180
  z53 := Tryz.sizeOf180
  v53 := Tryz.zeroValue180
  t57 := Tryz.underlying132
  a57 := Tryz.isAgg132
  z57 := Tryz.sizeOf132
  v57 := Tryz.zeroValue132
  t63 := Tryz.underlying190
  a63 := Tryz.isAgg190
  z63 := Tryz.sizeOf190
  v63 := Tryz.zeroValue190
  t64 := Tryz.underlying191
  a64 := Tryz.isAgg191
  z64 := Tryz.sizeOf191
  v64 := Tryz.zeroValue191 }
theorem Tryz.sortsC (m : Nat) : AnyZI.SortsIn Tryz.prog Tryz.sortedC_ren Fence.wide m :=
  ⟨fun blk off cap ss W hH hblk hsz => callsIn_wide.2 (AnyM.slices_Sort_int Tryz.sortC blk off cap ss W hH hblk hsz),
   fun p cap W => callsIn_wide.2 (AnyM.slices_Sort_int_none Tryz.sortC p cap W)⟩
end Go.Proofs
namespace Go.Proofs.YthbfinjddaembaaGreat
open Go.ChangeShapes Go.WideShapes Go.ChangeAt Go.RowKit Go.Maps Go.Sort Go.Shelf
set_option maxHeartbeats 1000000 in
theorem sortsKeysC : Am.SortsKeys Tryz.prog 52 92 3 3 := {
  key := by kernel_rfl
  elem := by kernel_rfl
  enters := enters_of Tryz.func52 (by kernel_rfl) rfl
  keys := by
    intro Bm b nn D0 W hBm hcell hown hsize
    refine (callsIn_wide (n := 5)).1 ?_
    have hmax : Maps.size D0 ≤ maxLen := Nat.le_trans hsize (by decide)
    have hbytes : Maps.size D0 * 8 ≤ 140737488355328 := by omega
    have hseq : SeqGives Fence.wide 2 Tryz.prog 92 #[.pointer (some ⟨Bm, 0, none⟩)] encZ (fun ss => ss.Perm (intKeys D0)) (Maps.size D0) W :=
      AnyZI.keys_gives (ρ := Tryz.keysC_ren) { Tryz.keysC with } Fence.wide _ trivial rfl (by omega) Bm b nn D0 W hBm hcell hown
    have cS := AnyZI.sorted_in Tryz.sortedC Fence.wide 5 trivial trivial trivial trivial rfl (by omega) (Tryz.sortsC _) (enters_of Tryz.func91 (by kernel_rfl) rfl) 92 #[.pointer (some ⟨Bm, 0, none⟩)] trivial (enters_of Tryz.func92 (by kernel_rfl) rfl) _ _ hmax hbytes _ hseq
    exact cS.mono fun e w' ⟨v, ss, h1, h2, h3, h4, h5⟩ => ⟨v, ss, h1, h2, h3, h4.2, h5⟩
  none := by
    intro Bm W hBm hcell
    refine (callsIn_wide (n := 5)).1 ?_
    have hseq : SeqGives Fence.wide 2 Tryz.prog 92 #[.pointer (some ⟨Bm, 0, none⟩)] encZ (fun ss : List Int => ss = []) 0 W :=
      AnyZI.keys_gives_nil (ρ := Tryz.keysC_ren) { Tryz.keysC with } Fence.wide _ trivial rfl Bm W hBm hcell
    have cS := AnyZI.sorted_in Tryz.sortedC Fence.wide 5 trivial trivial trivial trivial rfl (by omega) (Tryz.sortsC _) (enters_of Tryz.func91 (by kernel_rfl) rfl) 92 #[.pointer (some ⟨Bm, 0, none⟩)] trivial (enters_of Tryz.func92 (by kernel_rfl) rfl) _ 0 (Nat.zero_le _) (by omega) _ hseq
    refine cS.mono fun e w' ⟨v, ss, h1, h2, h3, h4, h5⟩ => ?_
    subst h2
    obtain rfl : v = .slice none 0 0 := h4.2 rfl
    exact ⟨h1, h5⟩
  }
end Go.Proofs.YthbfinjddaembaaGreat
