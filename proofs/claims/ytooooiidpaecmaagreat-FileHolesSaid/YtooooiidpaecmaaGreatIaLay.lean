import Derived.Test.YtooooiidpaecmaaGreatAmV
import Derived.Test.YtooooiidpaecmaaGreatRows
import Derived.Shelf.SlIterI.Nil
import Derived.Shelf.SlIterI.Sorted
import Derived.Shelf.SortM.Plain
import Derived.Shelf.SortM.SortNone
import Derived.Shelf.SlMaps.Copy
import Derived.Ground.GgzProg
import Derived.Ground.SlgmProg
import Derived.Ground.SlmpProg
/- The contracts of the library's maps.Keys, slices.Sorted and slices.Sort, laid at this translation. -/
namespace Go.Proofs
open Go.RowKit Go.Maps Go.Sort Go.Shelf
def Tryz.keysW_ren : Go.Shelf.Ren := ⟨fun | 7 => 117 | 10 => 163 | n => n, fun | 23 => 94 | 26 => 3 | 3 => 59 | 28 => 203 | 0 => 0 | 27 => 202 | 33 => 119 | 4 => 4 | n => n, fun | n => n⟩
theorem Tryz.keysW : Go.Proofs.SlLaysZI.n7 Tryz.prog Tryz.keysW_ren := {
 mixed := by kernel_rfl
 f7 := ⟨Tryz.f117.name, by decide, Tryz.func117.trans (congrArg some (by kernel_rfl))⟩
 f10 := ⟨Tryz.f163.name, by decide, Tryz.func163.trans (congrArg some (by kernel_rfl))⟩
 t0 := Tryz.underlying0
 a0 := Tryz.isAgg0
 z0 := Tryz.sizeOf0
 v0 := Tryz.zeroValue0
 t4 := Tryz.underlying4
 a4 := Tryz.isAgg4
 z4 := Tryz.sizeOf4
 v4 := Tryz.zeroValue4
 t23 := Tryz.underlying94
 a23 := Tryz.isAgg94
 z23 := Tryz.sizeOf94
 v23 := Tryz.zeroValue94
 t26 := Tryz.underlying3
 a26 := Tryz.isAgg3
 z26 := Tryz.sizeOf3
 v26 := Tryz.zeroValue3
 t27 := Tryz.underlying202
 a27 := Tryz.isAgg202
 z27 := Tryz.sizeOf202
 v27 := Tryz.zeroValue202
 t28 := Tryz.underlying203
 a28 := Tryz.isAgg203
 z28 := Tryz.sizeOf203
 v28 := Tryz.zeroValue203
 t33 := Tryz.underlying119
 a33 := Tryz.isAgg119
 z33 := Tryz.sizeOf119
 v33 := Tryz.zeroValue119 }
def Tryz.keysG_ren : Go.Shelf.Ren := ⟨fun | 7 => 167 | 10 => 203 | n => n, fun | 23 => 93 | 26 => 3 | 3 => 59 | 28 => 203 | 0 => 0 | 27 => 202 | 33 => 119 | 4 => 4 | n => n, fun | n => n⟩
theorem Tryz.keysG : Go.Proofs.SlLaysZI.n7 Tryz.prog Tryz.keysG_ren := {
 mixed := by kernel_rfl
 f7 := ⟨Tryz.f167.name, by decide, Tryz.func167.trans (congrArg some (by kernel_rfl))⟩
 f10 := ⟨Tryz.f203.name, by decide, Tryz.func203.trans (congrArg some (by kernel_rfl))⟩
 t0 := Tryz.underlying0
 a0 := Tryz.isAgg0
 z0 := Tryz.sizeOf0
 v0 := Tryz.zeroValue0
 t4 := Tryz.underlying4
 a4 := Tryz.isAgg4
 z4 := Tryz.sizeOf4
 v4 := Tryz.zeroValue4
 t23 := Tryz.underlying93
 a23 := Tryz.isAgg93
 z23 := Tryz.sizeOf93
 v23 := Tryz.zeroValue93
 t26 := Tryz.underlying3
 a26 := Tryz.isAgg3
 z26 := Tryz.sizeOf3
 v26 := Tryz.zeroValue3
 t27 := Tryz.underlying202
 a27 := Tryz.isAgg202
 z27 := Tryz.sizeOf202
 v27 := Tryz.zeroValue202
 t28 := Tryz.underlying203
 a28 := Tryz.isAgg203
 z28 := Tryz.sizeOf203
 v28 := Tryz.zeroValue203
 t33 := Tryz.underlying119
 a33 := Tryz.isAgg119
 z33 := Tryz.sizeOf119
 v33 := Tryz.zeroValue119 }
def Tryz.keysC_ren : Go.Shelf.Ren := ⟨fun | 7 => 218 | 10 => 225 | n => n, fun | 23 => 163 | 26 => 3 | 3 => 205 | 28 => 203 | 0 => 0 | 27 => 202 | 33 => 119 | 4 => 4 | n => n, fun | n => n⟩
theorem Tryz.keysC : Go.Proofs.SlLaysZI.n7 Tryz.prog Tryz.keysC_ren := {
 mixed := by kernel_rfl
 f7 := ⟨Tryz.f218.name, by decide, Tryz.func218.trans (congrArg some (by kernel_rfl))⟩
 f10 := ⟨Tryz.f225.name, by decide, Tryz.func225.trans (congrArg some (by kernel_rfl))⟩
 t0 := Tryz.underlying0
 a0 := Tryz.isAgg0
 z0 := Tryz.sizeOf0
 v0 := Tryz.zeroValue0
 t4 := Tryz.underlying4
 a4 := Tryz.isAgg4
 z4 := Tryz.sizeOf4
 v4 := Tryz.zeroValue4
 t23 := Tryz.underlying163
 a23 := Tryz.isAgg163
 z23 := Tryz.sizeOf163
 v23 := Tryz.zeroValue163
 t26 := Tryz.underlying3
 a26 := Tryz.isAgg3
 z26 := Tryz.sizeOf3
 v26 := Tryz.zeroValue3
 t27 := Tryz.underlying202
 a27 := Tryz.isAgg202
 z27 := Tryz.sizeOf202
 v27 := Tryz.zeroValue202
 t28 := Tryz.underlying203
 a28 := Tryz.isAgg203
 z28 := Tryz.sizeOf203
 v28 := Tryz.zeroValue203
 t33 := Tryz.underlying119
 a33 := Tryz.isAgg119
 z33 := Tryz.sizeOf119
 v33 := Tryz.zeroValue119 }
def Tryz.sortedC_ren : Go.Shelf.Ren := ⟨fun | 6 => 116 | 8 => 162 | 9 => 79 | 11 => 201 | 13 => 129 | 12 => 128 | 23 => 181 | 24 => 182 | 14 => 172 | 15 => 173 | 16 => 174 | 17 => 175 | 18 => 176 | 19 => 177 | 20 => 178 | 21 => 179 | 22 => 180 | 25 => 204 | 26 => 205 | 27 => 206 | 28 => 207 | 29 => 208 | 30 => 209 | 31 => 219 | n => n, fun | 26 => 3 | 28 => 203 | 24 => 22 | 0 => 0 | 3 => 3 | 37 => 215 | 48 => 249 | 50 => 251 | 4 => 4 | 40 => 242 | 39 => 241 | 45 => 237 | 5 => 5 | 9 => 9 | 51 => 269 | 55 => 111 | 57 => 279 | 58 => 280 | 33 => 119 | n => n, fun | n => n⟩
theorem Tryz.sortedC : Go.Proofs.SlLaysZI.n6 Tryz.prog Tryz.sortedC_ren := {
 mixed := by kernel_rfl
 f6 := ⟨Tryz.f116.name, by decide, Tryz.func116.trans (congrArg some (by kernel_rfl))⟩
 f8 := ⟨Tryz.f162.name, by decide, Tryz.func162.trans (congrArg some (by kernel_rfl))⟩
 f11 := ⟨Tryz.f201.name, by decide, Tryz.func201.trans (congrArg some (by kernel_rfl))⟩
 t0 := Tryz.underlying0
 a0 := Tryz.isAgg0
 z0 := Tryz.sizeOf0
 v0 := Tryz.zeroValue0
 t24 := Tryz.underlying22
 a24 := Tryz.isAgg22
 z24 := Tryz.sizeOf22
 v24 := Tryz.zeroValue22
 t26 := Tryz.underlying3
 a26 := Tryz.isAgg3
 z26 := Tryz.sizeOf3
 v26 := Tryz.zeroValue3
 t28 := Tryz.underlying203
 a28 := Tryz.isAgg203
 z28 := Tryz.sizeOf203
 v28 := Tryz.zeroValue203
 i26 := by kernel_rfl }
def Tryz.sortC_ren : Go.Shelf.Ren := ⟨fun | 5 => 79 | 8 => 129 | 7 => 128 | 19 => 181 | 20 => 182 | 10 => 172 | 11 => 173 | 12 => 174 | 13 => 175 | 14 => 176 | 15 => 177 | 16 => 178 | 17 => 179 | 18 => 180 | 30 => 204 | 31 => 205 | 32 => 206 | 33 => 207 | 34 => 208 | 35 => 209 | 40 => 219 | n => n, fun | 23 => 22 | 25 => 3 | 3 => 3 | 32 => 215 | 22 => 22 | 0 => 0 | 44 => 249 | 46 => 251 | 4 => 4 | 36 => 242 | 35 => 241 | 41 => 237 | 5 => 5 | 9 => 9 | 53 => 269 | 57 => 111 | 63 => 279 | 64 => 280 | n => n, fun | n => n⟩
theorem Tryz.sortC : Go.Proofs.SlLaysM.n5 Tryz.prog Tryz.sortC_ren := {
 mixed := by kernel_rfl
 f5 := ⟨Tryz.f79.name, by decide, Tryz.func79.trans (congrArg some (by kernel_rfl))⟩
 f7 := ⟨Tryz.f128.name, by decide, Tryz.func128.trans (congrArg some (by kernel_rfl))⟩
 f8 := Tryz.func129.trans (congrArg some (by kernel_rfl))
 f10 := ⟨Tryz.f172.name, by decide, Tryz.func172.trans (congrArg some (by kernel_rfl))⟩
 f11 := ⟨Tryz.f173.name, by decide, Tryz.func173.trans (congrArg some (by kernel_rfl))⟩
 f12 := ⟨Tryz.f174.name, by decide, Tryz.func174.trans (congrArg some (by kernel_rfl))⟩
 f13 := ⟨Tryz.f175.name, by decide, Tryz.func175.trans (congrArg some (by kernel_rfl))⟩
 f14 := ⟨Tryz.f176.name, by decide, Tryz.func176.trans (congrArg some (by kernel_rfl))⟩
 f15 := ⟨Tryz.f177.name, by decide, Tryz.func177.trans (congrArg some (by kernel_rfl))⟩
 f16 := ⟨Tryz.f178.name, by decide, Tryz.func178.trans (congrArg some (by kernel_rfl))⟩
 f17 := ⟨Tryz.f179.name, by decide, Tryz.func179.trans (congrArg some (by kernel_rfl))⟩
 f18 := ⟨Tryz.f180.name, by decide, Tryz.func180.trans (congrArg some (by kernel_rfl))⟩
 f19 := Tryz.func181.trans (congrArg some (by kernel_rfl))
 f20 := Tryz.func182.trans (congrArg some (by kernel_rfl))
 f30 := ⟨Tryz.f204.name, by decide, Tryz.func204.trans (congrArg some (by kernel_rfl))⟩
 f31 := Tryz.func205.trans (congrArg some (by kernel_rfl))
 f32 := Tryz.func206.trans (congrArg some (by kernel_rfl))
 f33 := ⟨Tryz.f207.name, by decide, Tryz.func207.trans (congrArg some (by kernel_rfl))⟩
 f34 := ⟨Tryz.f208.name, by decide, Tryz.func208.trans (congrArg some (by kernel_rfl))⟩
 f35 := ⟨Tryz.f209.name, by decide, Tryz.func209.trans (congrArg some (by kernel_rfl))⟩
 f40 := ⟨Tryz.f219.name, by decide, Tryz.func219.trans (congrArg some (by kernel_rfl))⟩
 t0 := Tryz.underlying0
 a0 := Tryz.isAgg0
 z0 := Tryz.sizeOf0
 v0 := Tryz.zeroValue0
 t3 := Tryz.underlying3
 a3 := Tryz.isAgg3
 z3 := Tryz.sizeOf3
 v3 := Tryz.zeroValue3
 t4 := Tryz.underlying4
 a4 := Tryz.isAgg4
 z4 := Tryz.sizeOf4
 v4 := Tryz.zeroValue4
 t5 := Tryz.underlying5
 a5 := Tryz.isAgg5
 z5 := Tryz.sizeOf5
 v5 := Tryz.zeroValue5
 t9 := Tryz.underlying9
 a9 := Tryz.isAgg9
 z9 := Tryz.sizeOf9
 v9 := Tryz.zeroValue9
 t22 := Tryz.underlying22
 a22 := Tryz.isAgg22
 z22 := Tryz.sizeOf22
 v22 := Tryz.zeroValue22
 t23 := Tryz.underlying22
 a23 := Tryz.isAgg22
 z23 := Tryz.sizeOf22
 v23 := Tryz.zeroValue22
 t25 := Tryz.underlying3
 a25 := Tryz.isAgg3
 z25 := Tryz.sizeOf3
 v25 := Tryz.zeroValue3
 t32 := Tryz.underlying215
 a32 := Tryz.isAgg215
 z32 := Tryz.sizeOf215
 v32 := Tryz.zeroValue215
 t35 := Tryz.underlying241
 a35 := Tryz.isAgg241
 z35 := Tryz.sizeOf241
 v35 := Tryz.zeroValue241
 t36 := Tryz.underlying242
 a36 := Tryz.isAgg242
 z36 := Tryz.sizeOf242
 v36 := Tryz.zeroValue242
 t41 := Tryz.underlying237
 a41 := Tryz.isAgg237
 z41 := Tryz.sizeOf237
 v41 := Tryz.zeroValue237
 t44 := Tryz.underlying249
 a44 := Tryz.isAgg249
 z44 := Tryz.sizeOf249
 v44 := Tryz.zeroValue249
 t46 := Tryz.underlying251
 a46 := Tryz.isAgg251
 z46 := Tryz.sizeOf251
 v46 := Tryz.zeroValue251
 t53 := Tryz.underlying269
 a53 := Tryz.isAgg269
 z53 := Tryz.sizeOf269
 v53 := Tryz.zeroValue269
 t57 := Tryz.underlying111
 a57 := Tryz.isAgg111
 z57 := Tryz.sizeOf111
 v57 := Tryz.zeroValue111
 t63 := Tryz.underlying279
 a63 := Tryz.isAgg279
 z63 := Tryz.sizeOf279
 v63 := Tryz.zeroValue279
 t64 := Tryz.underlying280
 a64 := Tryz.isAgg280
 z64 := Tryz.sizeOf280
 v64 := Tryz.zeroValue280 }
def Tryz.copyG_ren : Go.Shelf.Ren := ⟨fun | 5 => 63 | n => n, fun | 23 => 94 | 24 => 94 | 26 => 3 | 27 => 59 | 0 => 0 | 4 => 4 | n => n, fun | n => n⟩
theorem Tryz.copyG : Go.Proofs.SlLaysX.n5 Tryz.prog Tryz.copyG_ren := {
 mixed := by kernel_rfl
 f5 := ⟨Tryz.f63.name, by decide, Tryz.func63.trans (congrArg some (by kernel_rfl))⟩
 t0 := Tryz.underlying0
 a0 := Tryz.isAgg0
 z0 := Tryz.sizeOf0
 v0 := Tryz.zeroValue0
 t4 := Tryz.underlying4
 a4 := Tryz.isAgg4
 z4 := Tryz.sizeOf4
 v4 := Tryz.zeroValue4
 t23 := Tryz.underlying94
 a23 := Tryz.isAgg94
 z23 := Tryz.sizeOf94
 v23 := Tryz.zeroValue94
 t24 := Tryz.underlying94
 a24 := Tryz.isAgg94
 z24 := Tryz.sizeOf94
 v24 := Tryz.zeroValue94
 a26 := Tryz.isAgg3
 z26 := Tryz.sizeOf3
 a27 := Tryz.isAgg59
 z27 := Tryz.sizeOf59 }
theorem Tryz.sortsC (m : Nat) : AnyZI.SortsIn Tryz.prog Tryz.sortedC_ren Fence.wide m :=
 ⟨fun blk off cap ss W hH hblk hsz => callsIn_wide.2 (AnyM.slices_Sort_int Tryz.sortC blk off cap ss W hH hblk hsz),
  fun p cap W => callsIn_wide.2 (AnyM.slices_Sort_int_none Tryz.sortC p cap W)⟩
end Go.Proofs
namespace Go.Proofs.YtooooiidpaecmaaGreat
open Go.ChangeShapes Go.WideShapes Go.ChangeAt Go.RowKit Go.Maps Go.Sort Go.Shelf
set_option maxHeartbeats 1000000 in
theorem sortsKeysW : Am.SortsKeys Tryz.prog 116 163 3 3 := {
 key := by kernel_rfl
 elem := by kernel_rfl
 enters := enters_of Tryz.func116 (by kernel_rfl) rfl
 keys := by
  intro Bm b nn D0 W hBm hcell hown hsize
  refine (callsIn_wide (n := 5)).1 ?_
  have hmax : Maps.size D0 ≤ maxLen := Nat.le_trans hsize (by decide)
  have hbytes : Maps.size D0 * 8 ≤ 140737488355328 := by omega
  have hseq : SeqGives Fence.wide 2 Tryz.prog 163 #[.pointer (some ⟨Bm, 0, none⟩)] encZ (fun ss => ss.Perm (intKeys D0)) (Maps.size D0) W :=
   AnyZI.keys_gives (ρ := Tryz.keysW_ren) { Tryz.keysW with } Fence.wide _ trivial rfl (by omega) Bm b nn D0 W hBm hcell hown
  have cS := AnyZI.sorted_in Tryz.sortedC Fence.wide 5 trivial trivial trivial trivial rfl (by omega) (Tryz.sortsC _) (enters_of Tryz.func79 (by kernel_rfl) rfl) 163 #[.pointer (some ⟨Bm, 0, none⟩)] trivial (enters_of Tryz.func163 (by kernel_rfl) rfl) _ _ hmax hbytes _ hseq
  exact cS.mono fun e w' ⟨v, ss, h1, h2, h3, h4, h5⟩ => ⟨v, ss, h1, h2, h3, h4.2, h5⟩
 none := by
  intro Bm W hBm hcell
  refine (callsIn_wide (n := 5)).1 ?_
  have hseq : SeqGives Fence.wide 2 Tryz.prog 163 #[.pointer (some ⟨Bm, 0, none⟩)] encZ (fun ss : List Int => ss = []) 0 W :=
   AnyZI.keys_gives_nil (ρ := Tryz.keysW_ren) { Tryz.keysW with } Fence.wide _ trivial rfl Bm W hBm hcell
  have cS := AnyZI.sorted_in Tryz.sortedC Fence.wide 5 trivial trivial trivial trivial rfl (by omega) (Tryz.sortsC _) (enters_of Tryz.func79 (by kernel_rfl) rfl) 163 #[.pointer (some ⟨Bm, 0, none⟩)] trivial (enters_of Tryz.func163 (by kernel_rfl) rfl) _ 0 (Nat.zero_le _) (by omega) _ hseq
  refine cS.mono fun e w' ⟨v, ss, h1, h2, h3, h4, h5⟩ => ?_
  subst h2
  obtain rfl : v = .slice none 0 0 := h4.2 rfl
  exact ⟨h1, h5⟩
 }
set_option maxHeartbeats 1000000 in
theorem sortsKeysG : Am.SortsKeys Tryz.prog 116 203 3 3 := {
 key := by kernel_rfl
 elem := by kernel_rfl
 enters := enters_of Tryz.func116 (by kernel_rfl) rfl
 keys := by
  intro Bm b nn D0 W hBm hcell hown hsize
  refine (callsIn_wide (n := 5)).1 ?_
  have hmax : Maps.size D0 ≤ maxLen := Nat.le_trans hsize (by decide)
  have hbytes : Maps.size D0 * 8 ≤ 140737488355328 := by omega
  have hseq : SeqGives Fence.wide 2 Tryz.prog 203 #[.pointer (some ⟨Bm, 0, none⟩)] encZ (fun ss => ss.Perm (intKeys D0)) (Maps.size D0) W :=
   AnyZI.keys_gives (ρ := Tryz.keysG_ren) { Tryz.keysG with } Fence.wide _ trivial rfl (by omega) Bm b nn D0 W hBm hcell hown
  have cS := AnyZI.sorted_in Tryz.sortedC Fence.wide 5 trivial trivial trivial trivial rfl (by omega) (Tryz.sortsC _) (enters_of Tryz.func79 (by kernel_rfl) rfl) 203 #[.pointer (some ⟨Bm, 0, none⟩)] trivial (enters_of Tryz.func203 (by kernel_rfl) rfl) _ _ hmax hbytes _ hseq
  exact cS.mono fun e w' ⟨v, ss, h1, h2, h3, h4, h5⟩ => ⟨v, ss, h1, h2, h3, h4.2, h5⟩
 none := by
  intro Bm W hBm hcell
  refine (callsIn_wide (n := 5)).1 ?_
  have hseq : SeqGives Fence.wide 2 Tryz.prog 203 #[.pointer (some ⟨Bm, 0, none⟩)] encZ (fun ss : List Int => ss = []) 0 W :=
   AnyZI.keys_gives_nil (ρ := Tryz.keysG_ren) { Tryz.keysG with } Fence.wide _ trivial rfl Bm W hBm hcell
  have cS := AnyZI.sorted_in Tryz.sortedC Fence.wide 5 trivial trivial trivial trivial rfl (by omega) (Tryz.sortsC _) (enters_of Tryz.func79 (by kernel_rfl) rfl) 203 #[.pointer (some ⟨Bm, 0, none⟩)] trivial (enters_of Tryz.func203 (by kernel_rfl) rfl) _ 0 (Nat.zero_le _) (by omega) _ hseq
  refine cS.mono fun e w' ⟨v, ss, h1, h2, h3, h4, h5⟩ => ?_
  subst h2
  obtain rfl : v = .slice none 0 0 := h4.2 rfl
  exact ⟨h1, h5⟩
 }
set_option maxHeartbeats 1000000 in
theorem sortsKeysC : Am.SortsKeys Tryz.prog 116 225 3 3 := {
 key := by kernel_rfl
 elem := by kernel_rfl
 enters := enters_of Tryz.func116 (by kernel_rfl) rfl
 keys := by
  intro Bm b nn D0 W hBm hcell hown hsize
  refine (callsIn_wide (n := 5)).1 ?_
  have hmax : Maps.size D0 ≤ maxLen := Nat.le_trans hsize (by decide)
  have hbytes : Maps.size D0 * 8 ≤ 140737488355328 := by omega
  have hseq : SeqGives Fence.wide 2 Tryz.prog 225 #[.pointer (some ⟨Bm, 0, none⟩)] encZ (fun ss => ss.Perm (intKeys D0)) (Maps.size D0) W :=
   AnyZI.keys_gives (ρ := Tryz.keysC_ren) { Tryz.keysC with } Fence.wide _ trivial rfl (by omega) Bm b nn D0 W hBm hcell hown
  have cS := AnyZI.sorted_in Tryz.sortedC Fence.wide 5 trivial trivial trivial trivial rfl (by omega) (Tryz.sortsC _) (enters_of Tryz.func79 (by kernel_rfl) rfl) 225 #[.pointer (some ⟨Bm, 0, none⟩)] trivial (enters_of Tryz.func225 (by kernel_rfl) rfl) _ _ hmax hbytes _ hseq
  exact cS.mono fun e w' ⟨v, ss, h1, h2, h3, h4, h5⟩ => ⟨v, ss, h1, h2, h3, h4.2, h5⟩
 none := by
  intro Bm W hBm hcell
  refine (callsIn_wide (n := 5)).1 ?_
  have hseq : SeqGives Fence.wide 2 Tryz.prog 225 #[.pointer (some ⟨Bm, 0, none⟩)] encZ (fun ss : List Int => ss = []) 0 W :=
   AnyZI.keys_gives_nil (ρ := Tryz.keysC_ren) { Tryz.keysC with } Fence.wide _ trivial rfl Bm W hBm hcell
  have cS := AnyZI.sorted_in Tryz.sortedC Fence.wide 5 trivial trivial trivial trivial rfl (by omega) (Tryz.sortsC _) (enters_of Tryz.func79 (by kernel_rfl) rfl) 225 #[.pointer (some ⟨Bm, 0, none⟩)] trivial (enters_of Tryz.func225 (by kernel_rfl) rfl) _ 0 (Nat.zero_le _) (by omega) _ hseq
  refine cS.mono fun e w' ⟨v, ss, h1, h2, h3, h4, h5⟩ => ?_
  subst h2
  obtain rfl : v = .slice none 0 0 := h4.2 rfl
  exact ⟨h1, h5⟩
 }
theorem copyMapsG : Am.CopyMaps Tryz.prog 63 3 := {
 key := by kernel_rfl
 enters := enters_of Tryz.func63 (by kernel_rfl) rfl
 copy := fun bd nd bs ns Dd Ds W h1 h2 h3 h4 => (AnyX.maps_Copy (ρ := Tryz.copyG_ren) { Tryz.copyG with } (int_keyed (show Tryz.prog.underlying 3 = some (.int .i64) by kernel_rfl)) Am.selfR bd bs nd ns Dd Ds W h1 h2 h3 h4).mono fun _ _ h => ⟨h.1, h.2.1, h.2.2.2⟩
 }
noncomputable def tbL : Am.Tb := Am.libTb Tryz.prog 116 3 [163, 203, 225] [63]
theorem tbL_ok (w0 : World) : Am.TbOk Tryz.prog w0 tbL := Am.libTb_ok (kt := 3) (fun kf h => by
 simp only [List.mem_cons, List.not_mem_nil, or_false] at h
 rcases h with rfl | rfl | rfl
 ·exact sortsKeysW
 ·exact sortsKeysG
 ·exact sortsKeysC) (fun c h => by
 simp only [List.mem_cons, List.not_mem_nil, or_false] at h
 rcases h with rfl
 ·exact copyMapsG)
theorem Tryz.own : ownKnob Tryz.prog.godebug = none := by kernel_rfl
theorem Tryz.good : Am.goodB Tryz.prog = true := by decide +kernel
end Go.Proofs.YtooooiidpaecmaaGreat
