/- The contracts of the library's maps.Keys, slices.Sorted and slices.Sort, laid at this translation. -/
import Derived.Test.YtkdnajnhblplbaaGreatDoorAmV
import Derived.Test.YtkdnajnhblplbaaGreatDoorRows
import Derived.Shelf.SlIterI.Nil
import Derived.Shelf.SlIterI.Sorted
import Derived.Shelf.SortM.Plain
import Derived.Shelf.SortM.SortNone
import Derived.Ground.GgzProg
import Derived.Ground.SlgmProg
namespace Go.Proofs
open Go.RowKit Go.Maps Go.Sort Go.Shelf
def Tryz.keysW_ren : Go.Shelf.Ren := ⟨fun | 7 => 172 | 10 => 187 | n => n, fun | 23 => 83 | 26 => 3 | 3 => 33 | 28 => 268 | 0 => 0 | 27 => 267 | 33 => 39 | 4 => 4 | n => n, fun | n => n⟩
theorem Tryz.keysW : Go.Proofs.SlLaysZI.n7 Tryz.prog Tryz.keysW_ren := {
  mixed := by kernel_rfl
  f7 := ⟨Tryz.f172.name, by decide, Tryz.func172.trans (congrArg some (by kernel_rfl))⟩
  f10 := ⟨Tryz.f187.name, by decide, Tryz.func187.trans (congrArg some (by kernel_rfl))⟩
  t0 := Tryz.underlying0
  a0 := Tryz.isAgg0
  z0 := Tryz.sizeOf0
  v0 := Tryz.zeroValue0
  t4 := Tryz.underlying4
  a4 := Tryz.isAgg4
  z4 := Tryz.sizeOf4
  v4 := Tryz.zeroValue4
  t23 := Tryz.underlying83
  a23 := Tryz.isAgg83
  z23 := Tryz.sizeOf83
  v23 := Tryz.zeroValue83
  t26 := Tryz.underlying3
  a26 := Tryz.isAgg3
  z26 := Tryz.sizeOf3
  v26 := Tryz.zeroValue3
  t27 := Tryz.underlying267
  a27 := Tryz.isAgg267
  z27 := Tryz.sizeOf267
  v27 := Tryz.zeroValue267
  t28 := Tryz.underlying268
  a28 := Tryz.isAgg268
  z28 := Tryz.sizeOf268
  v28 := Tryz.zeroValue268
  t33 := Tryz.underlying39
  a33 := Tryz.isAgg39
  z33 := Tryz.sizeOf39
  v33 := Tryz.zeroValue39 }
def Tryz.keysC_ren : Go.Shelf.Ren := ⟨fun | 7 => 200 | 10 => 212 | n => n, fun | 23 => 109 | 26 => 3 | 3 => 254 | 28 => 268 | 0 => 0 | 27 => 267 | 33 => 39 | 4 => 4 | n => n, fun | n => n⟩
theorem Tryz.keysC : Go.Proofs.SlLaysZI.n7 Tryz.prog Tryz.keysC_ren := {
  mixed := by kernel_rfl
  f7 := ⟨Tryz.f200.name, by decide, Tryz.func200.trans (congrArg some (by kernel_rfl))⟩
  f10 := ⟨Tryz.f212.name, by decide, Tryz.func212.trans (congrArg some (by kernel_rfl))⟩
  t0 := Tryz.underlying0
  a0 := Tryz.isAgg0
  z0 := Tryz.sizeOf0
  v0 := Tryz.zeroValue0
  t4 := Tryz.underlying4
  a4 := Tryz.isAgg4
  z4 := Tryz.sizeOf4
  v4 := Tryz.zeroValue4
  t23 := Tryz.underlying109
  a23 := Tryz.isAgg109
  z23 := Tryz.sizeOf109
  v23 := Tryz.zeroValue109
  t26 := Tryz.underlying3
  a26 := Tryz.isAgg3
  z26 := Tryz.sizeOf3
  v26 := Tryz.zeroValue3
  t27 := Tryz.underlying267
  a27 := Tryz.isAgg267
  z27 := Tryz.sizeOf267
  v27 := Tryz.zeroValue267
  t28 := Tryz.underlying268
  a28 := Tryz.isAgg268
  z28 := Tryz.sizeOf268
  v28 := Tryz.zeroValue268
  t33 := Tryz.underlying39
  a33 := Tryz.isAgg39
  z33 := Tryz.sizeOf39
  v33 := Tryz.zeroValue39 }
def Tryz.sortedC_ren : Go.Shelf.Ren := ⟨fun | 6 => 171 | 8 => 185 | 9 => 186 | 11 => 196 | 13 => 198 | 12 => 197 | 23 => 210 | 24 => 211 | 14 => 201 | 15 => 202 | 16 => 203 | 17 => 204 | 18 => 205 | 19 => 206 | 20 => 207 | 21 => 208 | 22 => 209 | 25 => 213 | 26 => 214 | 27 => 215 | 28 => 216 | 29 => 217 | 30 => 218 | 31 => 219 | n => n, fun | 26 => 3 | 28 => 268 | 24 => 107 | 0 => 0 | 3 => 3 | 37 => 211 | 48 => 199 | 50 => 232 | 4 => 4 | 40 => 292 | 39 => 291 | 45 => 270 | 5 => 5 | 9 => 9 | 51 => 298 | 55 => 167 | 57 => 303 | 58 => 304 | 33 => 39 | n => n, fun | n => n⟩
theorem Tryz.sortedC : Go.Proofs.SlLaysZI.n6 Tryz.prog Tryz.sortedC_ren := {
  mixed := by kernel_rfl
  f6 := ⟨Tryz.f171.name, by decide, Tryz.func171.trans (congrArg some (by kernel_rfl))⟩
  f8 := ⟨Tryz.f185.name, by decide, Tryz.func185.trans (congrArg some (by kernel_rfl))⟩
  f11 := ⟨Tryz.f196.name, by decide, Tryz.func196.trans (congrArg some (by kernel_rfl))⟩
  t0 := Tryz.underlying0
  a0 := Tryz.isAgg0
  z0 := Tryz.sizeOf0
  v0 := Tryz.zeroValue0
  t24 := Tryz.underlying107
  a24 := Tryz.isAgg107
  z24 := Tryz.sizeOf107
  v24 := Tryz.zeroValue107
  t26 := Tryz.underlying3
  a26 := Tryz.isAgg3
  z26 := Tryz.sizeOf3
  v26 := Tryz.zeroValue3
  t28 := Tryz.underlying268
  a28 := Tryz.isAgg268
  z28 := Tryz.sizeOf268
  v28 := Tryz.zeroValue268
  i26 := by kernel_rfl }
def Tryz.sortC_ren : Go.Shelf.Ren := ⟨fun | 5 => 186 | 8 => 198 | 7 => 197 | 19 => 210 | 20 => 211 | 10 => 201 | 11 => 202 | 12 => 203 | 13 => 204 | 14 => 205 | 15 => 206 | 16 => 207 | 17 => 208 | 18 => 209 | 30 => 213 | 31 => 214 | 32 => 215 | 33 => 216 | 34 => 217 | 35 => 218 | 40 => 219 | n => n, fun | 23 => 107 | 25 => 3 | 3 => 3 | 32 => 211 | 22 => 107 | 0 => 0 | 44 => 199 | 46 => 232 | 4 => 4 | 36 => 292 | 35 => 291 | 41 => 270 | 5 => 5 | 9 => 9 | 53 => 298 | 57 => 167 | 63 => 303 | 64 => 304 | n => n, fun | n => n⟩
theorem Tryz.sortC : Go.Proofs.SlLaysM.n5 Tryz.prog Tryz.sortC_ren := {
  mixed := by kernel_rfl
  f5 := ⟨Tryz.f186.name, by decide, Tryz.func186.trans (congrArg some (by kernel_rfl))⟩
  f7 := ⟨Tryz.f197.name, by decide, Tryz.func197.trans (congrArg some (by kernel_rfl))⟩
  f8 := Tryz.func198.trans (congrArg some (by kernel_rfl))
  f10 := ⟨Tryz.f201.name, by decide, Tryz.func201.trans (congrArg some (by kernel_rfl))⟩
  f11 := ⟨Tryz.f202.name, by decide, Tryz.func202.trans (congrArg some (by kernel_rfl))⟩
  f12 := ⟨Tryz.f203.name, by decide, Tryz.func203.trans (congrArg some (by kernel_rfl))⟩
  f13 := ⟨Tryz.f204.name, by decide, Tryz.func204.trans (congrArg some (by kernel_rfl))⟩
  f14 := ⟨Tryz.f205.name, by decide, Tryz.func205.trans (congrArg some (by kernel_rfl))⟩
  f15 := ⟨Tryz.f206.name, by decide, Tryz.func206.trans (congrArg some (by kernel_rfl))⟩
  f16 := ⟨Tryz.f207.name, by decide, Tryz.func207.trans (congrArg some (by kernel_rfl))⟩
  f17 := ⟨Tryz.f208.name, by decide, Tryz.func208.trans (congrArg some (by kernel_rfl))⟩
  f18 := ⟨Tryz.f209.name, by decide, Tryz.func209.trans (congrArg some (by kernel_rfl))⟩
  f19 := Tryz.func210.trans (congrArg some (by kernel_rfl))
  f20 := Tryz.func211.trans (congrArg some (by kernel_rfl))
  f30 := ⟨Tryz.f213.name, by decide, Tryz.func213.trans (congrArg some (by kernel_rfl))⟩
  f31 := Tryz.func214.trans (congrArg some (by kernel_rfl))
  f32 := Tryz.func215.trans (congrArg some (by kernel_rfl))
  f33 := ⟨Tryz.f216.name, by decide, Tryz.func216.trans (congrArg some (by kernel_rfl))⟩
  f34 := ⟨Tryz.f217.name, by decide, Tryz.func217.trans (congrArg some (by kernel_rfl))⟩
  f35 := ⟨Tryz.f218.name, by decide, Tryz.func218.trans (congrArg some (by kernel_rfl))⟩
  f40 := ⟨Tryz.f219.name, by decide, Tryz.func219.trans (congrArg some (by kernel_rfl))⟩
  t0 := Tryz.underlying0
  a0 := Tryz.isAgg0
  z0 := Tryz.sizeOf0
  v0 := Tryz.zeroValue0
  t3 := Tryz.underlying3
  a3 := Tryz.isAgg3
  z3 := Tryz.sizeOf3
  v3 := Tryz.zeroValue3
  t4 := Tryz.underlying4
  a4 := Tryz.isAgg4
  z4 := Tryz.sizeOf4
  v4 := Tryz.zeroValue4
  t5 := Tryz.underlying5
  a5 := Tryz.isAgg5
  z5 := Tryz.sizeOf5
  v5 := Tryz.zeroValue5
  t9 := Tryz.underlying9
  a9 := Tryz.isAgg9
  z9 := Tryz.sizeOf9
  v9 := Tryz.zeroValue9
  t22 := Tryz.underlying107
  a22 := Tryz.isAgg107
  z22 := Tryz.sizeOf107
  v22 := Tryz.zeroValue107
  t23 := Tryz.underlying107
  a23 := Tryz.isAgg107
  z23 := Tryz.sizeOf107
  v23 := Tryz.zeroValue107
  t25 := Tryz.underlying3
  a25 := Tryz.isAgg3
  z25 := Tryz.sizeOf3
  v25 := Tryz.zeroValue3
  t32 := Tryz.underlying211
  a32 := Tryz.isAgg211
  z32 := Tryz.sizeOf211
  v32 := Tryz.zeroValue211
  t35 := Tryz.underlying291
  a35 := Tryz.isAgg291
  z35 := Tryz.sizeOf291
  v35 := Tryz.zeroValue291
  t36 := Tryz.underlying292
  a36 := Tryz.isAgg292
  z36 := Tryz.sizeOf292
  v36 := Tryz.zeroValue292
  t41 := Tryz.underlying270
  a41 := Tryz.isAgg270
  z41 := Tryz.sizeOf270
  v41 := Tryz.zeroValue270
  t44 := Tryz.underlying199
  a44 := Tryz.isAgg199
  z44 := Tryz.sizeOf199
  v44 := Tryz.zeroValue199
  t46 := Tryz.underlying232
  a46 := Tryz.isAgg232
  z46 := Tryz.sizeOf232
  v46 := Tryz.zeroValue232
  t53 := Tryz.underlying298
  a53 := Tryz.isAgg298
  z53 := Tryz.sizeOf298
  v53 := Tryz.zeroValue298
  t57 := Tryz.underlying167
  a57 := Tryz.isAgg167
  z57 := Tryz.sizeOf167
  v57 := Tryz.zeroValue167
  t63 := Tryz.underlying303
  a63 := Tryz.isAgg303
  z63 := Tryz.sizeOf303
  v63 := Tryz.zeroValue303
  t64 := Tryz.underlying304
  a64 := Tryz.isAgg304
  z64 := Tryz.sizeOf304
  v64 := Tryz.zeroValue304 }
/-- slices.Sort's two contracts at this dump. -/
theorem Tryz.sortsC (m : Nat) : AnyZI.SortsIn Tryz.prog Tryz.sortedC_ren Fence.wide m :=
  ⟨fun blk off cap ss W hH hblk hsz => callsIn_wide.2 (AnyM.slices_Sort_int Tryz.sortC blk off cap ss W hH hblk hsz),
   fun p cap W => callsIn_wide.2 (AnyM.slices_Sort_int_none Tryz.sortC p cap W)⟩
end Go.Proofs
namespace Go.Proofs.YtkdnajnhblplbaaGreatDoor
open Go.ChangeShapes Go.WideShapes Go.ChangeAt Go.RowKit Go.Maps Go.Sort Go.Shelf

set_option maxHeartbeats 1000000 in
theorem sortsKeysW : Am.SortsKeys Tryz.prog 171 187 3 3 := {
  key := by kernel_rfl
  elem := by kernel_rfl
  enters := enters_of Tryz.func171 (by kernel_rfl) rfl
  keys := by
    intro Bm b nn D0 W hBm hcell hown hsize
    refine (callsIn_wide (n := 5)).1 ?_
    have hmax : Maps.size D0 ≤ maxLen := Nat.le_trans hsize (by decide)
    have hbytes : Maps.size D0 * 8 ≤ 140737488355328 := by omega
    have hseq : SeqGives Fence.wide 2 Tryz.prog 187 #[.pointer (some ⟨Bm, 0, none⟩)] encZ (fun ss => ss.Perm (intKeys D0)) (Maps.size D0) W :=
      AnyZI.keys_gives (ρ := Tryz.keysW_ren) { Tryz.keysW with } Fence.wide _ trivial rfl (by omega) Bm b nn D0 W hBm hcell hown
    have cS := AnyZI.sorted_in Tryz.sortedC Fence.wide 5 trivial trivial trivial trivial rfl (by omega) (Tryz.sortsC _) (enters_of Tryz.func186 (by kernel_rfl) rfl) 187 #[.pointer (some ⟨Bm, 0, none⟩)] trivial (enters_of Tryz.func187 (by kernel_rfl) rfl) _ _ hmax hbytes _ hseq
    exact cS.mono fun e w' ⟨v, ss, h1, h2, h3, h4, h5⟩ => ⟨v, ss, h1, h2, h3, h4.2, h5⟩
  none := by
    intro Bm W hBm hcell
    refine (callsIn_wide (n := 5)).1 ?_
    have hseq : SeqGives Fence.wide 2 Tryz.prog 187 #[.pointer (some ⟨Bm, 0, none⟩)] encZ (fun ss : List Int => ss = []) 0 W :=
      AnyZI.keys_gives_nil (ρ := Tryz.keysW_ren) { Tryz.keysW with } Fence.wide _ trivial rfl Bm W hBm hcell
    have cS := AnyZI.sorted_in Tryz.sortedC Fence.wide 5 trivial trivial trivial trivial rfl (by omega) (Tryz.sortsC _) (enters_of Tryz.func186 (by kernel_rfl) rfl) 187 #[.pointer (some ⟨Bm, 0, none⟩)] trivial (enters_of Tryz.func187 (by kernel_rfl) rfl) _ 0 (Nat.zero_le _) (by omega) _ hseq
    refine cS.mono fun e w' ⟨v, ss, h1, h2, h3, h4, h5⟩ => ?_
    subst h2
    obtain rfl : v = .slice none 0 0 := h4.2 rfl
    exact ⟨h1, h5⟩
  }

set_option maxHeartbeats 1000000 in
theorem sortsKeysC : Am.SortsKeys Tryz.prog 171 212 3 3 := {
  key := by kernel_rfl
  elem := by kernel_rfl
  enters := enters_of Tryz.func171 (by kernel_rfl) rfl
  keys := by
    intro Bm b nn D0 W hBm hcell hown hsize
    refine (callsIn_wide (n := 5)).1 ?_
    have hmax : Maps.size D0 ≤ maxLen := Nat.le_trans hsize (by decide)
    have hbytes : Maps.size D0 * 8 ≤ 140737488355328 := by omega
    have hseq : SeqGives Fence.wide 2 Tryz.prog 212 #[.pointer (some ⟨Bm, 0, none⟩)] encZ (fun ss => ss.Perm (intKeys D0)) (Maps.size D0) W :=
      AnyZI.keys_gives (ρ := Tryz.keysC_ren) { Tryz.keysC with } Fence.wide _ trivial rfl (by omega) Bm b nn D0 W hBm hcell hown
    have cS := AnyZI.sorted_in Tryz.sortedC Fence.wide 5 trivial trivial trivial trivial rfl (by omega) (Tryz.sortsC _) (enters_of Tryz.func186 (by kernel_rfl) rfl) 212 #[.pointer (some ⟨Bm, 0, none⟩)] trivial (enters_of Tryz.func212 (by kernel_rfl) rfl) _ _ hmax hbytes _ hseq
    exact cS.mono fun e w' ⟨v, ss, h1, h2, h3, h4, h5⟩ => ⟨v, ss, h1, h2, h3, h4.2, h5⟩
  none := by
    intro Bm W hBm hcell
    refine (callsIn_wide (n := 5)).1 ?_
    have hseq : SeqGives Fence.wide 2 Tryz.prog 212 #[.pointer (some ⟨Bm, 0, none⟩)] encZ (fun ss : List Int => ss = []) 0 W :=
      AnyZI.keys_gives_nil (ρ := Tryz.keysC_ren) { Tryz.keysC with } Fence.wide _ trivial rfl Bm W hBm hcell
    have cS := AnyZI.sorted_in Tryz.sortedC Fence.wide 5 trivial trivial trivial trivial rfl (by omega) (Tryz.sortsC _) (enters_of Tryz.func186 (by kernel_rfl) rfl) 212 #[.pointer (some ⟨Bm, 0, none⟩)] trivial (enters_of Tryz.func212 (by kernel_rfl) rfl) _ 0 (Nat.zero_le _) (by omega) _ hseq
    refine cS.mono fun e w' ⟨v, ss, h1, h2, h3, h4, h5⟩ => ?_
    subst h2
    obtain rfl : v = .slice none 0 0 := h4.2 rfl
    exact ⟨h1, h5⟩
  }

noncomputable def tb : Am.Tb := Am.libTb Tryz.prog 171 3 [187, 212] []
theorem tb_ok (w0 : World) : Am.TbOk Tryz.prog w0 tb := Am.libTb_ok (kt := 3) (fun kf h => by
  simp only [List.mem_cons, List.not_mem_nil, or_false] at h
  rcases h with rfl | rfl
  · exact sortsKeysW
  · exact sortsKeysC) (fun c h => by
  cases h)
theorem Tryz.own : ownKnob Tryz.prog.godebug = none := by kernel_rfl
theorem Tryz.good : Am.goodB Tryz.prog = true := by decide +kernel
end Go.Proofs.YtkdnajnhblplbaaGreatDoor
