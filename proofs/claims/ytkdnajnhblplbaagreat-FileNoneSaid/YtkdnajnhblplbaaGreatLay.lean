/- The contracts of the library's maps.Keys, slices.Sorted and slices.Sort, laid at this translation. -/
import Derived.Test.YtkdnajnhblplbaaGreatAmV
import Derived.Test.YtkdnajnhblplbaaGreatRows
import Derived.Shelf.SlIterI.Nil
import Derived.Shelf.SlIterI.Sorted
import Derived.Shelf.SortM.Plain
import Derived.Shelf.SortM.SortNone
import Derived.Shelf.SlMaps.Copy
import Derived.Ground.GgzProg
import Derived.Ground.SlgmProg
import Derived.Ground.SlmpProg
namespace Go.Proofs
open Go.RowKit Go.Maps Go.Sort Go.Shelf
def Tryz.keysW_ren : Go.Shelf.Ren := ⟨fun | 7 => 77 | 10 => 144 | n => n, fun | 23 => 108 | 26 => 3 | 3 => 30 | 28 => 118 | 0 => 0 | 27 => 117 | 33 => 59 | 4 => 4 | n => n, fun | n => n⟩
theorem Tryz.keysW : Go.Proofs.SlLaysZI.n7 Tryz.prog Tryz.keysW_ren := {
  mixed := by kernel_rfl
  f7 := ⟨Tryz.f77.name, by decide, Tryz.func77.trans (congrArg some (by kernel_rfl))⟩
  f10 := ⟨Tryz.f144.name, by decide, Tryz.func144.trans (congrArg some (by kernel_rfl))⟩
  t0 := Tryz.underlying0
  a0 := Tryz.isAgg0
  z0 := Tryz.sizeOf0
  v0 := Tryz.zeroValue0
  t4 := Tryz.underlying4
  a4 := Tryz.isAgg4
  z4 := Tryz.sizeOf4
  v4 := Tryz.zeroValue4
  t23 := Tryz.underlying108
  a23 := Tryz.isAgg108
  z23 := Tryz.sizeOf108
  v23 := Tryz.zeroValue108
  t26 := Tryz.underlying3
  a26 := Tryz.isAgg3
  z26 := Tryz.sizeOf3
  v26 := Tryz.zeroValue3
  t27 := Tryz.underlying117
  a27 := Tryz.isAgg117
  z27 := Tryz.sizeOf117
  v27 := Tryz.zeroValue117
  t28 := Tryz.underlying118
  a28 := Tryz.isAgg118
  z28 := Tryz.sizeOf118
  v28 := Tryz.zeroValue118
  t33 := Tryz.underlying59
  a33 := Tryz.isAgg59
  z33 := Tryz.sizeOf59
  v33 := Tryz.zeroValue59 }
def Tryz.keysG_ren : Go.Shelf.Ren := ⟨fun | 7 => 147 | 10 => 190 | n => n, fun | 23 => 125 | 26 => 3 | 3 => 30 | 28 => 118 | 0 => 0 | 27 => 117 | 33 => 59 | 4 => 4 | n => n, fun | n => n⟩
theorem Tryz.keysG : Go.Proofs.SlLaysZI.n7 Tryz.prog Tryz.keysG_ren := {
  mixed := by kernel_rfl
  f7 := ⟨Tryz.f147.name, by decide, Tryz.func147.trans (congrArg some (by kernel_rfl))⟩
  f10 := ⟨Tryz.f190.name, by decide, Tryz.func190.trans (congrArg some (by kernel_rfl))⟩
  t0 := Tryz.underlying0
  a0 := Tryz.isAgg0
  z0 := Tryz.sizeOf0
  v0 := Tryz.zeroValue0
  t4 := Tryz.underlying4
  a4 := Tryz.isAgg4
  z4 := Tryz.sizeOf4
  v4 := Tryz.zeroValue4
  t23 := Tryz.underlying125
  a23 := Tryz.isAgg125
  z23 := Tryz.sizeOf125
  v23 := Tryz.zeroValue125
  t26 := Tryz.underlying3
  a26 := Tryz.isAgg3
  z26 := Tryz.sizeOf3
  v26 := Tryz.zeroValue3
  t27 := Tryz.underlying117
  a27 := Tryz.isAgg117
  z27 := Tryz.sizeOf117
  v27 := Tryz.zeroValue117
  t28 := Tryz.underlying118
  a28 := Tryz.isAgg118
  z28 := Tryz.sizeOf118
  v28 := Tryz.zeroValue118
  t33 := Tryz.underlying59
  a33 := Tryz.isAgg59
  z33 := Tryz.sizeOf59
  v33 := Tryz.zeroValue59 }
def Tryz.keysC_ren : Go.Shelf.Ren := ⟨fun | 7 => 220 | 10 => 234 | n => n, fun | 23 => 199 | 26 => 3 | 3 => 204 | 28 => 118 | 0 => 0 | 27 => 117 | 33 => 59 | 4 => 4 | n => n, fun | n => n⟩
theorem Tryz.keysC : Go.Proofs.SlLaysZI.n7 Tryz.prog Tryz.keysC_ren := {
  mixed := by kernel_rfl
  f7 := ⟨Tryz.f220.name, by decide, Tryz.func220.trans (congrArg some (by kernel_rfl))⟩
  f10 := ⟨Tryz.f234.name, by decide, Tryz.func234.trans (congrArg some (by kernel_rfl))⟩
  t0 := Tryz.underlying0
  a0 := Tryz.isAgg0
  z0 := Tryz.sizeOf0
  v0 := Tryz.zeroValue0
  t4 := Tryz.underlying4
  a4 := Tryz.isAgg4
  z4 := Tryz.sizeOf4
  v4 := Tryz.zeroValue4
  t23 := Tryz.underlying199
  a23 := Tryz.isAgg199
  z23 := Tryz.sizeOf199
  v23 := Tryz.zeroValue199
  t26 := Tryz.underlying3
  a26 := Tryz.isAgg3
  z26 := Tryz.sizeOf3
  v26 := Tryz.zeroValue3
  t27 := Tryz.underlying117
  a27 := Tryz.isAgg117
  z27 := Tryz.sizeOf117
  v27 := Tryz.zeroValue117
  t28 := Tryz.underlying118
  a28 := Tryz.isAgg118
  z28 := Tryz.sizeOf118
  v28 := Tryz.zeroValue118
  t33 := Tryz.underlying59
  a33 := Tryz.isAgg59
  z33 := Tryz.sizeOf59
  v33 := Tryz.zeroValue59 }
def Tryz.sortedC_ren : Go.Shelf.Ren := ⟨fun | 6 => 76 | 8 => 143 | 9 => 129 | 11 => 189 | 13 => 175 | 12 => 174 | 23 => 214 | 24 => 215 | 14 => 205 | 15 => 206 | 16 => 207 | 17 => 208 | 18 => 209 | 19 => 210 | 20 => 211 | 21 => 212 | 22 => 213 | 25 => 227 | 26 => 228 | 27 => 229 | 28 => 230 | 29 => 231 | 30 => 232 | 31 => 237 | n => n, fun | 26 => 3 | 28 => 118 | 24 => 53 | 0 => 0 | 3 => 3 | 37 => 233 | 48 => 264 | 50 => 266 | 4 => 4 | 40 => 257 | 39 => 256 | 45 => 245 | 5 => 5 | 9 => 9 | 51 => 278 | 55 => 169 | 57 => 285 | 58 => 286 | 33 => 59 | n => n, fun | n => n⟩
theorem Tryz.sortedC : Go.Proofs.SlLaysZI.n6 Tryz.prog Tryz.sortedC_ren := {
  mixed := by kernel_rfl
  f6 := ⟨Tryz.f76.name, by decide, Tryz.func76.trans (congrArg some (by kernel_rfl))⟩
  f8 := ⟨Tryz.f143.name, by decide, Tryz.func143.trans (congrArg some (by kernel_rfl))⟩
  f11 := ⟨Tryz.f189.name, by decide, Tryz.func189.trans (congrArg some (by kernel_rfl))⟩
  t0 := Tryz.underlying0
  a0 := Tryz.isAgg0
  z0 := Tryz.sizeOf0
  v0 := Tryz.zeroValue0
  t24 := Tryz.underlying53
  a24 := Tryz.isAgg53
  z24 := Tryz.sizeOf53
  v24 := Tryz.zeroValue53
  t26 := Tryz.underlying3
  a26 := Tryz.isAgg3
  z26 := Tryz.sizeOf3
  v26 := Tryz.zeroValue3
  t28 := Tryz.underlying118
  a28 := Tryz.isAgg118
  z28 := Tryz.sizeOf118
  v28 := Tryz.zeroValue118
  i26 := by kernel_rfl }
def Tryz.sortC_ren : Go.Shelf.Ren := ⟨fun | 5 => 129 | 8 => 175 | 7 => 174 | 19 => 214 | 20 => 215 | 10 => 205 | 11 => 206 | 12 => 207 | 13 => 208 | 14 => 209 | 15 => 210 | 16 => 211 | 17 => 212 | 18 => 213 | 30 => 227 | 31 => 228 | 32 => 229 | 33 => 230 | 34 => 231 | 35 => 232 | 40 => 237 | n => n, fun | 23 => 53 | 25 => 3 | 3 => 3 | 32 => 233 | 22 => 53 | 0 => 0 | 44 => 264 | 46 => 266 | 4 => 4 | 36 => 257 | 35 => 256 | 41 => 245 | 5 => 5 | 9 => 9 | 53 => 278 | 57 => 169 | 63 => 285 | 64 => 286 | n => n, fun | n => n⟩
theorem Tryz.sortC : Go.Proofs.SlLaysM.n5 Tryz.prog Tryz.sortC_ren := {
  mixed := by kernel_rfl
  f5 := ⟨Tryz.f129.name, by decide, Tryz.func129.trans (congrArg some (by kernel_rfl))⟩
  f7 := ⟨Tryz.f174.name, by decide, Tryz.func174.trans (congrArg some (by kernel_rfl))⟩
  f8 := Tryz.func175.trans (congrArg some (by kernel_rfl))
  f10 := ⟨Tryz.f205.name, by decide, Tryz.func205.trans (congrArg some (by kernel_rfl))⟩
  f11 := ⟨Tryz.f206.name, by decide, Tryz.func206.trans (congrArg some (by kernel_rfl))⟩
  f12 := ⟨Tryz.f207.name, by decide, Tryz.func207.trans (congrArg some (by kernel_rfl))⟩
  f13 := ⟨Tryz.f208.name, by decide, Tryz.func208.trans (congrArg some (by kernel_rfl))⟩
  f14 := ⟨Tryz.f209.name, by decide, Tryz.func209.trans (congrArg some (by kernel_rfl))⟩
  f15 := ⟨Tryz.f210.name, by decide, Tryz.func210.trans (congrArg some (by kernel_rfl))⟩
  f16 := ⟨Tryz.f211.name, by decide, Tryz.func211.trans (congrArg some (by kernel_rfl))⟩
  f17 := ⟨Tryz.f212.name, by decide, Tryz.func212.trans (congrArg some (by kernel_rfl))⟩
  f18 := ⟨Tryz.f213.name, by decide, Tryz.func213.trans (congrArg some (by kernel_rfl))⟩
  f19 := Tryz.func214.trans (congrArg some (by kernel_rfl))
  f20 := Tryz.func215.trans (congrArg some (by kernel_rfl))
  f30 := ⟨Tryz.f227.name, by decide, Tryz.func227.trans (congrArg some (by kernel_rfl))⟩
  f31 := Tryz.func228.trans (congrArg some (by kernel_rfl))
  f32 := Tryz.func229.trans (congrArg some (by kernel_rfl))
  f33 := ⟨Tryz.f230.name, by decide, Tryz.func230.trans (congrArg some (by kernel_rfl))⟩
  f34 := ⟨Tryz.f231.name, by decide, Tryz.func231.trans (congrArg some (by kernel_rfl))⟩
  f35 := ⟨Tryz.f232.name, by decide, Tryz.func232.trans (congrArg some (by kernel_rfl))⟩
  f40 := ⟨Tryz.f237.name, by decide, Tryz.func237.trans (congrArg some (by kernel_rfl))⟩
  t0 := Tryz.underlying0
  a0 := Tryz.isAgg0
  z0 := Tryz.sizeOf0
  v0 := Tryz.zeroValue0
  t3 := Tryz.underlying3
  a3 := Tryz.isAgg3
  z3 := Tryz.sizeOf3
  v3 := Tryz.zeroValue3
  t4 := Tryz.underlying4
  a4 := Tryz.isAgg4
  z4 := Tryz.sizeOf4
  v4 := Tryz.zeroValue4
  t5 := Tryz.underlying5
  a5 := Tryz.isAgg5
  z5 := Tryz.sizeOf5
  v5 := Tryz.zeroValue5
  t9 := Tryz.underlying9
  a9 := Tryz.isAgg9
  z9 := Tryz.sizeOf9
  v9 := Tryz.zeroValue9
  t22 := Tryz.underlying53
  a22 := Tryz.isAgg53
  z22 := Tryz.sizeOf53
  v22 := Tryz.zeroValue53
  t23 := Tryz.underlying53
  a23 := Tryz.isAgg53
  z23 := Tryz.sizeOf53
  v23 := Tryz.zeroValue53
  t25 := Tryz.underlying3
  a25 := Tryz.isAgg3
  z25 := Tryz.sizeOf3
  v25 := Tryz.zeroValue3
  t32 := Tryz.underlying233
  a32 := Tryz.isAgg233
  z32 := Tryz.sizeOf233
  v32 := Tryz.zeroValue233
  t35 := Tryz.underlying256
  a35 := Tryz.isAgg256
  z35 := Tryz.sizeOf256
  v35 := Tryz.zeroValue256
  t36 := Tryz.underlying257
  a36 := Tryz.isAgg257
  z36 := Tryz.sizeOf257
  v36 := Tryz.zeroValue257
  t41 := Tryz.underlying245
  a41 := Tryz.isAgg245
  z41 := Tryz.sizeOf245
  v41 := Tryz.zeroValue245
  t44 := Tryz.underlying264
  a44 := Tryz.isAgg264
  z44 := Tryz.sizeOf264
  v44 := Tryz.zeroValue264
  t46 := Tryz.underlying266
  a46 := Tryz.isAgg266
  z46 := Tryz.sizeOf266
  v46 := Tryz.zeroValue266
  t53 := Tryz.underlying278
  a53 := Tryz.isAgg278
  z53 := Tryz.sizeOf278
  v53 := Tryz.zeroValue278
  t57 := Tryz.underlying169
  a57 := Tryz.isAgg169
  z57 := Tryz.sizeOf169
  v57 := Tryz.zeroValue169
  t63 := Tryz.underlying285
  a63 := Tryz.isAgg285
  z63 := Tryz.sizeOf285
  v63 := Tryz.zeroValue285
  t64 := Tryz.underlying286
  a64 := Tryz.isAgg286
  z64 := Tryz.sizeOf286
  v64 := Tryz.zeroValue286 }
def Tryz.copyG_ren : Go.Shelf.Ren := ⟨fun | 5 => 89 | n => n, fun | 23 => 125 | 24 => 125 | 26 => 3 | 27 => 30 | 0 => 0 | 4 => 4 | n => n, fun | n => n⟩
theorem Tryz.copyG : Go.Proofs.SlLaysX.n5 Tryz.prog Tryz.copyG_ren := {
  mixed := by kernel_rfl
  f5 := ⟨Tryz.f89.name, by decide, Tryz.func89.trans (congrArg some (by kernel_rfl))⟩
  t0 := Tryz.underlying0
  a0 := Tryz.isAgg0
  z0 := Tryz.sizeOf0
  v0 := Tryz.zeroValue0
  t4 := Tryz.underlying4
  a4 := Tryz.isAgg4
  z4 := Tryz.sizeOf4
  v4 := Tryz.zeroValue4
  t23 := Tryz.underlying125
  a23 := Tryz.isAgg125
  z23 := Tryz.sizeOf125
  v23 := Tryz.zeroValue125
  t24 := Tryz.underlying125
  a24 := Tryz.isAgg125
  z24 := Tryz.sizeOf125
  v24 := Tryz.zeroValue125
  a26 := Tryz.isAgg3
  z26 := Tryz.sizeOf3
  a27 := Tryz.isAgg30
  z27 := Tryz.sizeOf30 }
/-- slices.Sort's two contracts at this dump. -/
theorem Tryz.sortsC (m : Nat) : AnyZI.SortsIn Tryz.prog Tryz.sortedC_ren Fence.wide m :=
  ⟨fun blk off cap ss W hH hblk hsz => callsIn_wide.2 (AnyM.slices_Sort_int Tryz.sortC blk off cap ss W hH hblk hsz),
   fun p cap W => callsIn_wide.2 (AnyM.slices_Sort_int_none Tryz.sortC p cap W)⟩
end Go.Proofs
namespace Go.Proofs.YtkdnajnhblplbaaGreat
open Go.ChangeShapes Go.WideShapes Go.ChangeAt Go.RowKit Go.Maps Go.Sort Go.Shelf

set_option maxHeartbeats 1000000 in
theorem sortsKeysW : Am.SortsKeys Tryz.prog 76 144 3 3 := {
  key := by kernel_rfl
  elem := by kernel_rfl
  enters := enters_of Tryz.func76 (by kernel_rfl) rfl
  keys := by
    intro Bm b nn D0 W hBm hcell hown hsize
    refine (callsIn_wide (n := 5)).1 ?_
    have hmax : Maps.size D0 ≤ maxLen := Nat.le_trans hsize (by decide)
    have hbytes : Maps.size D0 * 8 ≤ 140737488355328 := by omega
    have hseq : SeqGives Fence.wide 2 Tryz.prog 144 #[.pointer (some ⟨Bm, 0, none⟩)] encZ (fun ss => ss.Perm (intKeys D0)) (Maps.size D0) W :=
      AnyZI.keys_gives (ρ := Tryz.keysW_ren) { Tryz.keysW with } Fence.wide _ trivial rfl (by omega) Bm b nn D0 W hBm hcell hown
    have cS := AnyZI.sorted_in Tryz.sortedC Fence.wide 5 trivial trivial trivial trivial rfl (by omega) (Tryz.sortsC _) (enters_of Tryz.func129 (by kernel_rfl) rfl) 144 #[.pointer (some ⟨Bm, 0, none⟩)] trivial (enters_of Tryz.func144 (by kernel_rfl) rfl) _ _ hmax hbytes _ hseq
    exact cS.mono fun e w' ⟨v, ss, h1, h2, h3, h4, h5⟩ => ⟨v, ss, h1, h2, h3, h4.2, h5⟩
  none := by
    intro Bm W hBm hcell
    refine (callsIn_wide (n := 5)).1 ?_
    have hseq : SeqGives Fence.wide 2 Tryz.prog 144 #[.pointer (some ⟨Bm, 0, none⟩)] encZ (fun ss : List Int => ss = []) 0 W :=
      AnyZI.keys_gives_nil (ρ := Tryz.keysW_ren) { Tryz.keysW with } Fence.wide _ trivial rfl Bm W hBm hcell
    have cS := AnyZI.sorted_in Tryz.sortedC Fence.wide 5 trivial trivial trivial trivial rfl (by omega) (Tryz.sortsC _) (enters_of Tryz.func129 (by kernel_rfl) rfl) 144 #[.pointer (some ⟨Bm, 0, none⟩)] trivial (enters_of Tryz.func144 (by kernel_rfl) rfl) _ 0 (Nat.zero_le _) (by omega) _ hseq
    refine cS.mono fun e w' ⟨v, ss, h1, h2, h3, h4, h5⟩ => ?_
    subst h2
    obtain rfl : v = .slice none 0 0 := h4.2 rfl
    exact ⟨h1, h5⟩
  }

set_option maxHeartbeats 1000000 in
theorem sortsKeysG : Am.SortsKeys Tryz.prog 76 190 3 3 := {
  key := by kernel_rfl
  elem := by kernel_rfl
  enters := enters_of Tryz.func76 (by kernel_rfl) rfl
  keys := by
    intro Bm b nn D0 W hBm hcell hown hsize
    refine (callsIn_wide (n := 5)).1 ?_
    have hmax : Maps.size D0 ≤ maxLen := Nat.le_trans hsize (by decide)
    have hbytes : Maps.size D0 * 8 ≤ 140737488355328 := by omega
    have hseq : SeqGives Fence.wide 2 Tryz.prog 190 #[.pointer (some ⟨Bm, 0, none⟩)] encZ (fun ss => ss.Perm (intKeys D0)) (Maps.size D0) W :=
      AnyZI.keys_gives (ρ := Tryz.keysG_ren) { Tryz.keysG with } Fence.wide _ trivial rfl (by omega) Bm b nn D0 W hBm hcell hown
    have cS := AnyZI.sorted_in Tryz.sortedC Fence.wide 5 trivial trivial trivial trivial rfl (by omega) (Tryz.sortsC _) (enters_of Tryz.func129 (by kernel_rfl) rfl) 190 #[.pointer (some ⟨Bm, 0, none⟩)] trivial (enters_of Tryz.func190 (by kernel_rfl) rfl) _ _ hmax hbytes _ hseq
    exact cS.mono fun e w' ⟨v, ss, h1, h2, h3, h4, h5⟩ => ⟨v, ss, h1, h2, h3, h4.2, h5⟩
  none := by
    intro Bm W hBm hcell
    refine (callsIn_wide (n := 5)).1 ?_
    have hseq : SeqGives Fence.wide 2 Tryz.prog 190 #[.pointer (some ⟨Bm, 0, none⟩)] encZ (fun ss : List Int => ss = []) 0 W :=
      AnyZI.keys_gives_nil (ρ := Tryz.keysG_ren) { Tryz.keysG with } Fence.wide _ trivial rfl Bm W hBm hcell
    have cS := AnyZI.sorted_in Tryz.sortedC Fence.wide 5 trivial trivial trivial trivial rfl (by omega) (Tryz.sortsC _) (enters_of Tryz.func129 (by kernel_rfl) rfl) 190 #[.pointer (some ⟨Bm, 0, none⟩)] trivial (enters_of Tryz.func190 (by kernel_rfl) rfl) _ 0 (Nat.zero_le _) (by omega) _ hseq
    refine cS.mono fun e w' ⟨v, ss, h1, h2, h3, h4, h5⟩ => ?_
    subst h2
    obtain rfl : v = .slice none 0 0 := h4.2 rfl
    exact ⟨h1, h5⟩
  }

set_option maxHeartbeats 1000000 in
theorem sortsKeysC : Am.SortsKeys Tryz.prog 76 234 3 3 := {
  key := by kernel_rfl
  elem := by kernel_rfl
  enters := enters_of Tryz.func76 (by kernel_rfl) rfl
  keys := by
    intro Bm b nn D0 W hBm hcell hown hsize
    refine (callsIn_wide (n := 5)).1 ?_
    have hmax : Maps.size D0 ≤ maxLen := Nat.le_trans hsize (by decide)
    have hbytes : Maps.size D0 * 8 ≤ 140737488355328 := by omega
    have hseq : SeqGives Fence.wide 2 Tryz.prog 234 #[.pointer (some ⟨Bm, 0, none⟩)] encZ (fun ss => ss.Perm (intKeys D0)) (Maps.size D0) W :=
      AnyZI.keys_gives (ρ := Tryz.keysC_ren) { Tryz.keysC with } Fence.wide _ trivial rfl (by omega) Bm b nn D0 W hBm hcell hown
    have cS := AnyZI.sorted_in Tryz.sortedC Fence.wide 5 trivial trivial trivial trivial rfl (by omega) (Tryz.sortsC _) (enters_of Tryz.func129 (by kernel_rfl) rfl) 234 #[.pointer (some ⟨Bm, 0, none⟩)] trivial (enters_of Tryz.func234 (by kernel_rfl) rfl) _ _ hmax hbytes _ hseq
    exact cS.mono fun e w' ⟨v, ss, h1, h2, h3, h4, h5⟩ => ⟨v, ss, h1, h2, h3, h4.2, h5⟩
  none := by
    intro Bm W hBm hcell
    refine (callsIn_wide (n := 5)).1 ?_
    have hseq : SeqGives Fence.wide 2 Tryz.prog 234 #[.pointer (some ⟨Bm, 0, none⟩)] encZ (fun ss : List Int => ss = []) 0 W :=
      AnyZI.keys_gives_nil (ρ := Tryz.keysC_ren) { Tryz.keysC with } Fence.wide _ trivial rfl Bm W hBm hcell
    have cS := AnyZI.sorted_in Tryz.sortedC Fence.wide 5 trivial trivial trivial trivial rfl (by omega) (Tryz.sortsC _) (enters_of Tryz.func129 (by kernel_rfl) rfl) 234 #[.pointer (some ⟨Bm, 0, none⟩)] trivial (enters_of Tryz.func234 (by kernel_rfl) rfl) _ 0 (Nat.zero_le _) (by omega) _ hseq
    refine cS.mono fun e w' ⟨v, ss, h1, h2, h3, h4, h5⟩ => ?_
    subst h2
    obtain rfl : v = .slice none 0 0 := h4.2 rfl
    exact ⟨h1, h5⟩
  }

theorem copyMapsG : Am.CopyMaps Tryz.prog 89 3 := {
  key := by kernel_rfl
  enters := enters_of Tryz.func89 (by kernel_rfl) rfl
  copy := fun bd nd bs ns Dd Ds W h1 h2 h3 h4 => (AnyX.maps_Copy (ρ := Tryz.copyG_ren) { Tryz.copyG with } (int_keyed (show Tryz.prog.underlying 3 = some (.int .i64) by kernel_rfl)) Am.selfR bd bs nd ns Dd Ds W h1 h2 h3 h4).mono fun _ _ h => ⟨h.1, h.2.1, h.2.2.2⟩
  }

noncomputable def tb : Am.Tb := Am.libTb Tryz.prog 76 3 [144, 190, 234] [89]
theorem tb_ok (w0 : World) : Am.TbOk Tryz.prog w0 tb := Am.libTb_ok (kt := 3) (fun kf h => by
  simp only [List.mem_cons, List.not_mem_nil, or_false] at h
  rcases h with rfl | rfl | rfl
  · exact sortsKeysW
  · exact sortsKeysG
  · exact sortsKeysC) (fun c h => by
  simp only [List.mem_cons, List.not_mem_nil, or_false] at h
  rcases h with rfl
  · exact copyMapsG)
theorem Tryz.own : ownKnob Tryz.prog.godebug = none := by kernel_rfl
theorem Tryz.good : Am.goodB Tryz.prog = true := by decide +kernel
end Go.Proofs.YtkdnajnhblplbaaGreat
