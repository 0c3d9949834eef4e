import Derived.Test.YtooooiidpaecmaaGreatDoorAmV
import Derived.Test.YtooooiidpaecmaaGreatDoorRows
import Derived.Shelf.SlIterI.Nil
import Derived.Shelf.SlIterI.Sorted
import Derived.Shelf.SortM.Plain
import Derived.Shelf.SortM.SortNone
import Derived.Ground.GgzProg
import Derived.Ground.SlgmProg
import Derived.Test.YtooooiidpaecmaaGreatDoorIaA
import Derived.Test.YtooooiidpaecmaaGreatDoorAmSc
/- The contracts of the library's maps.Keys, slices.Sorted and slices.Sort, laid at this translation. -/
namespace Go.Proofs
open Go.RowKit Go.Maps Go.Sort Go.Shelf
def Tryz.keysW_ren:Go.Shelf.Ren:=⟨fun|7=>200|10=>214|n=>n,fun|23=>118|26=>3|3=>33|28=>301|0=>0|27=>300|33=>39|4=>4|n=>n,fun|n=>n⟩
theorem Tryz.keysW:Go.Proofs.SlLaysZI.n7 Tryz.prog Tryz.keysW_ren:={
 mixed:=by kernel_rfl
 f7:=⟨Tryz.f200.name,by decide,Tryz.func200.trans (congrArg some (by kernel_rfl))⟩
 f10:=⟨Tryz.f214.name,by decide,Tryz.func214.trans (congrArg some (by kernel_rfl))⟩
 t0:=Tryz.underlying0
 a0:=Tryz.isAgg0
 z0:=Tryz.sizeOf0
 v0:=Tryz.zeroValue0
 t4:=Tryz.underlying4
 a4:=Tryz.isAgg4
 z4:=Tryz.sizeOf4
 v4:=Tryz.zeroValue4
 t23:=Tryz.underlying118
 a23:=Tryz.isAgg118
 z23:=Tryz.sizeOf118
 v23:=Tryz.zeroValue118
 t26:=Tryz.underlying3
 a26:=Tryz.isAgg3
 z26:=Tryz.sizeOf3
 v26:=Tryz.zeroValue3
 t27:=Tryz.underlying300
 a27:=Tryz.isAgg300
 z27:=Tryz.sizeOf300
 v27:=Tryz.zeroValue300
 t28:=Tryz.underlying301
 a28:=Tryz.isAgg301
 z28:=Tryz.sizeOf301
 v28:=Tryz.zeroValue301
 t33:=Tryz.underlying39
 a33:=Tryz.isAgg39
 z33:=Tryz.sizeOf39
 v33:=Tryz.zeroValue39}
def Tryz.keysC_ren:Go.Shelf.Ren:=⟨fun|7=>223|10=>224|n=>n,fun|23=>124|26=>3|3=>287|28=>301|0=>0|27=>300|33=>39|4=>4|n=>n,fun|n=>n⟩
theorem Tryz.keysC:Go.Proofs.SlLaysZI.n7 Tryz.prog Tryz.keysC_ren:={
 mixed:=by kernel_rfl
 f7:=⟨Tryz.f223.name,by decide,Tryz.func223.trans (congrArg some (by kernel_rfl))⟩
 f10:=⟨Tryz.f224.name,by decide,Tryz.func224.trans (congrArg some (by kernel_rfl))⟩
 t0:=Tryz.underlying0
 a0:=Tryz.isAgg0
 z0:=Tryz.sizeOf0
 v0:=Tryz.zeroValue0
 t4:=Tryz.underlying4
 a4:=Tryz.isAgg4
 z4:=Tryz.sizeOf4
 v4:=Tryz.zeroValue4
 t23:=Tryz.underlying124
 a23:=Tryz.isAgg124
 z23:=Tryz.sizeOf124
 v23:=Tryz.zeroValue124
 t26:=Tryz.underlying3
 a26:=Tryz.isAgg3
 z26:=Tryz.sizeOf3
 v26:=Tryz.zeroValue3
 t27:=Tryz.underlying300
 a27:=Tryz.isAgg300
 z27:=Tryz.sizeOf300
 v27:=Tryz.zeroValue300
 t28:=Tryz.underlying301
 a28:=Tryz.isAgg301
 z28:=Tryz.sizeOf301
 v28:=Tryz.zeroValue301
 t33:=Tryz.underlying39
 a33:=Tryz.isAgg39
 z33:=Tryz.sizeOf39
 v33:=Tryz.zeroValue39}
def Tryz.sortedC_ren:Go.Shelf.Ren:=⟨fun|6=>199|8=>213|9=>37|11=>222|13=>69|12=>68|23=>124|24=>125|14=>115|15=>116|16=>117|17=>118|18=>119|19=>120|20=>121|21=>122|22=>123|25=>152|26=>153|27=>154|28=>155|29=>156|30=>157|31=>180|n=>n,fun|26=>3|28=>301|24=>40|0=>0|3=>3|37=>168|48=>228|50=>230|4=>4|40=>220|39=>219|45=>225|5=>5|9=>9|51=>257|55=>162|57=>279|58=>280|33=>39|n=>n,fun|n=>n⟩
theorem Tryz.sortedC:Go.Proofs.SlLaysZI.n6 Tryz.prog Tryz.sortedC_ren:={
 mixed:=by kernel_rfl
 f6:=⟨Tryz.f199.name,by decide,Tryz.func199.trans (congrArg some (by kernel_rfl))⟩
 f8:=⟨Tryz.f213.name,by decide,Tryz.func213.trans (congrArg some (by kernel_rfl))⟩
 f11:=⟨Tryz.f222.name,by decide,Tryz.func222.trans (congrArg some (by kernel_rfl))⟩
 t0:=Tryz.underlying0
 a0:=Tryz.isAgg0
 z0:=Tryz.sizeOf0
 v0:=Tryz.zeroValue0
 t24:=Tryz.underlying40
 a24:=Tryz.isAgg40
 z24:=Tryz.sizeOf40
 v24:=Tryz.zeroValue40
 t26:=Tryz.underlying3
 a26:=Tryz.isAgg3
 z26:=Tryz.sizeOf3
 v26:=Tryz.zeroValue3
 t28:=Tryz.underlying301
 a28:=Tryz.isAgg301
 z28:=Tryz.sizeOf301
 v28:=Tryz.zeroValue301
 i26:=by kernel_rfl}
def Tryz.sortC_ren:Go.Shelf.Ren:=⟨fun|5=>37|8=>69|7=>68|19=>124|20=>125|10=>115|11=>116|12=>117|13=>118|14=>119|15=>120|16=>121|17=>122|18=>123|30=>152|31=>153|32=>154|33=>155|34=>156|35=>157|40=>180|n=>n,fun|23=>40|25=>3|3=>3|32=>168|22=>40|0=>0|44=>228|46=>230|4=>4|36=>220|35=>219|41=>225|5=>5|9=>9|53=>257|57=>162|63=>279|64=>280|n=>n,fun|n=>n⟩
theorem Tryz.sortC:Go.Proofs.SlLaysM.n5 Tryz.prog Tryz.sortC_ren:={
 mixed:=by kernel_rfl
 f5:=⟨Tryz.f37.name,by decide,Tryz.func37.trans (congrArg some (by kernel_rfl))⟩
 f7:=⟨Tryz.f68.name,by decide,Tryz.func68.trans (congrArg some (by kernel_rfl))⟩
 f8:=Tryz.func69.trans (congrArg some (by kernel_rfl))
 f10:=⟨Tryz.f115.name,by decide,Tryz.func115.trans (congrArg some (by kernel_rfl))⟩
 f11:=⟨Tryz.f116.name,by decide,Tryz.func116.trans (congrArg some (by kernel_rfl))⟩
 f12:=⟨Tryz.f117.name,by decide,Tryz.func117.trans (congrArg some (by kernel_rfl))⟩
 f13:=⟨Tryz.f118.name,by decide,Tryz.func118.trans (congrArg some (by kernel_rfl))⟩
 f14:=⟨Tryz.f119.name,by decide,Tryz.func119.trans (congrArg some (by kernel_rfl))⟩
 f15:=⟨Tryz.f120.name,by decide,Tryz.func120.trans (congrArg some (by kernel_rfl))⟩
 f16:=⟨Tryz.f121.name,by decide,Tryz.func121.trans (congrArg some (by kernel_rfl))⟩
 f17:=⟨Tryz.f122.name,by decide,Tryz.func122.trans (congrArg some (by kernel_rfl))⟩
 f18:=⟨Tryz.f123.name,by decide,Tryz.func123.trans (congrArg some (by kernel_rfl))⟩
 f19:=Tryz.func124.trans (congrArg some (by kernel_rfl))
 f20:=Tryz.func125.trans (congrArg some (by kernel_rfl))
 f30:=⟨Tryz.f152.name,by decide,Tryz.func152.trans (congrArg some (by kernel_rfl))⟩
 f31:=Tryz.func153.trans (congrArg some (by kernel_rfl))
 f32:=Tryz.func154.trans (congrArg some (by kernel_rfl))
 f33:=⟨Tryz.f155.name,by decide,Tryz.func155.trans (congrArg some (by kernel_rfl))⟩
 f34:=⟨Tryz.f156.name,by decide,Tryz.func156.trans (congrArg some (by kernel_rfl))⟩
 f35:=⟨Tryz.f157.name,by decide,Tryz.func157.trans (congrArg some (by kernel_rfl))⟩
 f40:=⟨Tryz.f180.name,by decide,Tryz.func180.trans (congrArg some (by kernel_rfl))⟩
 t0:=Tryz.underlying0
 a0:=Tryz.isAgg0
 z0:=Tryz.sizeOf0
 v0:=Tryz.zeroValue0
 t3:=Tryz.underlying3
 a3:=Tryz.isAgg3
 z3:=Tryz.sizeOf3
 v3:=Tryz.zeroValue3
 t4:=Tryz.underlying4
 a4:=Tryz.isAgg4
 z4:=Tryz.sizeOf4
 v4:=Tryz.zeroValue4
 t5:=Tryz.underlying5
 a5:=Tryz.isAgg5
 z5:=Tryz.sizeOf5
 v5:=Tryz.zeroValue5
 t9:=Tryz.underlying9
 a9:=Tryz.isAgg9
 z9:=Tryz.sizeOf9
 v9:=Tryz.zeroValue9
 t22:=Tryz.underlying40
 a22:=Tryz.isAgg40
 z22:=Tryz.sizeOf40
 v22:=Tryz.zeroValue40
 t23:=Tryz.underlying40
 a23:=Tryz.isAgg40
 z23:=Tryz.sizeOf40
 v23:=Tryz.zeroValue40
 t25:=Tryz.underlying3
 a25:=Tryz.isAgg3
 z25:=Tryz.sizeOf3
 v25:=Tryz.zeroValue3
 t32:=Tryz.underlying168
 a32:=Tryz.isAgg168
 z32:=Tryz.sizeOf168
 v32:=Tryz.zeroValue168
 t35:=Tryz.underlying219
 a35:=Tryz.isAgg219
 z35:=Tryz.sizeOf219
 v35:=Tryz.zeroValue219
 t36:=Tryz.underlying220
 a36:=Tryz.isAgg220
 z36:=Tryz.sizeOf220
 v36:=Tryz.zeroValue220
 t41:=Tryz.underlying225
 a41:=Tryz.isAgg225
 z41:=Tryz.sizeOf225
 v41:=Tryz.zeroValue225
 t44:=Tryz.underlying228
 a44:=Tryz.isAgg228
 z44:=Tryz.sizeOf228
 v44:=Tryz.zeroValue228
 t46:=Tryz.underlying230
 a46:=Tryz.isAgg230
 z46:=Tryz.sizeOf230
 v46:=Tryz.zeroValue230
 t53:=Tryz.underlying257
 a53:=Tryz.isAgg257
 z53:=Tryz.sizeOf257
 v53:=Tryz.zeroValue257
 t57:=Tryz.underlying162
 a57:=Tryz.isAgg162
 z57:=Tryz.sizeOf162
 v57:=Tryz.zeroValue162
 t63:=Tryz.underlying279
 a63:=Tryz.isAgg279
 z63:=Tryz.sizeOf279
 v63:=Tryz.zeroValue279
 t64:=Tryz.underlying280
 a64:=Tryz.isAgg280
 z64:=Tryz.sizeOf280
 v64:=Tryz.zeroValue280}
theorem Tryz.sortsC(m:Nat):AnyZI.SortsIn Tryz.prog Tryz.sortedC_ren Fence.wide m:=
 ⟨fun blk off cap ss W hH hblk hsz=>callsIn_wide.2 (AnyM.slices_Sort_int Tryz.sortC blk off cap ss W hH hblk hsz),
  fun p cap W=>callsIn_wide.2 (AnyM.slices_Sort_int_none Tryz.sortC p cap W)⟩
end Go.Proofs
namespace Go.Proofs.YtooooiidpaecmaaGreatDoor
open Go.ChangeShapes Go.WideShapes Go.ChangeAt Go.RowKit Go.Maps Go.Sort Go.Shelf
set_option maxHeartbeats 1000000 in
theorem f6T:Am.SortsKeys Tryz.prog 199 214 3 3:={
 key:=by kernel_rfl
 elem:=by kernel_rfl
 enters:=enters_of Tryz.func199 (by kernel_rfl) rfl
 keys:=by
  intro Bm b nn D0 W hBm hcell hown hsize
  refine(callsIn_wide (n:=5)).1 ?_
  have hmax:Maps.size D0≤maxLen:=Nat.le_trans hsize (by decide)
  have hbytes:Maps.size D0*8≤140737488355328:=by omega
  have hseq:SeqGives Fence.wide 2 Tryz.prog 214 #[.pointer (some ⟨Bm,0,none⟩)] encZ (fun ss=>ss.Perm (intKeys D0)) (Maps.size D0) W:=
   AnyZI.keys_gives (ρ:=Tryz.keysW_ren) {Tryz.keysW with} Fence.wide _ trivial rfl (by omega) Bm b nn D0 W hBm hcell hown
  have cS:=AnyZI.sorted_in Tryz.sortedC Fence.wide 5 trivial trivial trivial trivial rfl (by omega) (Tryz.sortsC _) (enters_of Tryz.func37 (by kernel_rfl) rfl) 214 #[.pointer (some ⟨Bm,0,none⟩)] trivial (enters_of Tryz.func214 (by kernel_rfl) rfl) _ _ hmax hbytes _ hseq
  exact cS.mono fun e w' ⟨v,ss,h1,h2,h3,h4,h5⟩=>⟨v,ss,h1,h2,h3,h4.2,h5⟩
 none:=by
  intro Bm W hBm hcell
  refine(callsIn_wide (n:=5)).1 ?_
  have hseq:SeqGives Fence.wide 2 Tryz.prog 214 #[.pointer (some ⟨Bm,0,none⟩)] encZ (fun ss:List Int=>ss= []) 0 W:=
   AnyZI.keys_gives_nil (ρ:=Tryz.keysW_ren) {Tryz.keysW with} Fence.wide _ trivial rfl Bm W hBm hcell
  have cS:=AnyZI.sorted_in Tryz.sortedC Fence.wide 5 trivial trivial trivial trivial rfl (by omega) (Tryz.sortsC _) (enters_of Tryz.func37 (by kernel_rfl) rfl) 214 #[.pointer (some ⟨Bm,0,none⟩)] trivial (enters_of Tryz.func214 (by kernel_rfl) rfl) _ 0 (Nat.zero_le _) (by omega) _ hseq
  refine cS.mono fun e w' ⟨v,ss,h1,h2,h3,h4,h5⟩=> ?_
  subst h2
  obtain rfl:v= .slice none 0 0:=h4.2 rfl
  exact⟨h1,h5⟩
 }
set_option maxHeartbeats 1000000 in
theorem f6H:Am.SortsKeys Tryz.prog 199 224 3 3:={
 key:=by kernel_rfl
 elem:=by kernel_rfl
 enters:=enters_of Tryz.func199 (by kernel_rfl) rfl
 keys:=by
  intro Bm b nn D0 W hBm hcell hown hsize
  refine(callsIn_wide (n:=5)).1 ?_
  have hmax:Maps.size D0≤maxLen:=Nat.le_trans hsize (by decide)
  have hbytes:Maps.size D0*8≤140737488355328:=by omega
  have hseq:SeqGives Fence.wide 2 Tryz.prog 224 #[.pointer (some ⟨Bm,0,none⟩)] encZ (fun ss=>ss.Perm (intKeys D0)) (Maps.size D0) W:=
   AnyZI.keys_gives (ρ:=Tryz.keysC_ren) {Tryz.keysC with} Fence.wide _ trivial rfl (by omega) Bm b nn D0 W hBm hcell hown
  have cS:=AnyZI.sorted_in Tryz.sortedC Fence.wide 5 trivial trivial trivial trivial rfl (by omega) (Tryz.sortsC _) (enters_of Tryz.func37 (by kernel_rfl) rfl) 224 #[.pointer (some ⟨Bm,0,none⟩)] trivial (enters_of Tryz.func224 (by kernel_rfl) rfl) _ _ hmax hbytes _ hseq
  exact cS.mono fun e w' ⟨v,ss,h1,h2,h3,h4,h5⟩=>⟨v,ss,h1,h2,h3,h4.2,h5⟩
 none:=by
  intro Bm W hBm hcell
  refine(callsIn_wide (n:=5)).1 ?_
  have hseq:SeqGives Fence.wide 2 Tryz.prog 224 #[.pointer (some ⟨Bm,0,none⟩)] encZ (fun ss:List Int=>ss= []) 0 W:=
   AnyZI.keys_gives_nil (ρ:=Tryz.keysC_ren) {Tryz.keysC with} Fence.wide _ trivial rfl Bm W hBm hcell
  have cS:=AnyZI.sorted_in Tryz.sortedC Fence.wide 5 trivial trivial trivial trivial rfl (by omega) (Tryz.sortsC _) (enters_of Tryz.func37 (by kernel_rfl) rfl) 224 #[.pointer (some ⟨Bm,0,none⟩)] trivial (enters_of Tryz.func224 (by kernel_rfl) rfl) _ 0 (Nat.zero_le _) (by omega) _ hseq
  refine cS.mono fun e w' ⟨v,ss,h1,h2,h3,h4,h5⟩=> ?_
  subst h2
  obtain rfl:v= .slice none 0 0:=h4.2 rfl
  exact⟨h1,h5⟩
 }
noncomputable def tbL:Am.Tb:=Am.libTb Tryz.prog 199 3 [214,224] []
theorem e06(w0:World):Am.TbOk Tryz.prog w0 tbL:=Am.libTb_ok (kt:=3) (fun kf h=>by
 simp only[List.mem_cons,List.not_mem_nil,or_false] at h
 rcases h with rfl|rfl
 ·exact f6T
 ·exact f6H) (fun c h=>by
 cases h)
theorem Tryz.own:ownKnob Tryz.prog.godebug=none:=by kernel_rfl
theorem Tryz.good:Am.goodB Tryz.prog=true:=by decide+kernel
end Go.Proofs.YtooooiidpaecmaaGreatDoor
/- What is known ahead holds. -/
namespace Go.Proofs.YtooooiidpaecmaaGreatDoor
open Go Go.Am Go.RowKit
theorem f8j:Am.isTrue (Am.arun Tryz.prog tbL 100000 6 [] Am.m0)=true:=by decide+kernel
theorem g3o:Am.TrueAt Tryz.prog 6:=⟨enters_of Tryz.func6 (by kernel_rfl) rfl,fun w=>Am.closed_calls (Am.good_of Tryz.good) e06 f8j Tryz.func6 rfl w⟩
theorem f7C:SortsRows Tryz.prog 37:={
 enters:=enters_of Tryz.func37 (by kernel_rfl) rfl
 sort:=fun blk off cap ss W hH hblk hsz=>Go.Proofs.AnyM.slices_Sort_int Tryz.sortC blk off cap ss W hH hblk hsz
 none:=fun p cap W=>Go.Proofs.AnyM.slices_Sort_int_none Tryz.sortC p cap W}
noncomputable def tb2:Tb:=a9z (a9E tbL [6]) 37
theorem d4g(w0:World):TbOk Tryz.prog w0 tb2:=f6d (Am.withTrue_ok (e06 w0) fun g h=>by
 simp only[List.mem_cons,List.not_mem_nil,or_false] at h
 subst h
 exact g3o) f7C
def e5r:Value:= .agg #[.int .i64 64,.int .i64 90,.int .i64 6,.int .i64 30,.int .i64 2,.int .i64 32,.int .i64 1,.int .i64 33,.int .i64 1,.int .i64 34,.int .i64 3,.int .i64 37]
theorem b9Q(ρ:Ren):d6 ρ Z3=some e5r:=rfl
theorem f7s:Am.isVal Z3 (Am.arun Tryz.prog tb2 100000 7 [] Am.m0)=true:=by decide+kernel
theorem g3F:Am.ValAt Tryz.prog 7 Z3 e5r:=⟨enters_of Tryz.func7 (by kernel_rfl) rfl,b9Q,fun w=>Am.closed_val (Am.good_of Tryz.good) d4g f7s b9Q Tryz.func7 rfl w⟩
theorem e66(w0:World):TbOk Tryz.prog w0 tb0:=f6C (d4g w0) g3F
theorem g2f:cls.all (fun c=>isVal c.x (arun Tryz.prog tb0 100000 c.g c.args m0))=true:=by decide+kernel
theorem g7j:∀c∈cls,ClOk Tryz.prog tb0 c:=fun c hc=>by
 have hr:=List.all_eq_true.1 g2f c hc
 unfold cls at hc
 simp only[List.mem_cons,List.not_mem_nil,or_false] at hc
 rcases hc with rfl|rfl|rfl|rfl
 ·exact⟨⟨fun args w=>enters_of Tryz.func53 (by kernel_rfl) rfl args w,_,_,Tryz.func53,rfl⟩,hr,⟨_,fun ρ=>rfl⟩,_,fun ρ=>rfl⟩
 ·exact⟨⟨fun args w=>enters_of Tryz.func74 (by kernel_rfl) rfl args w,_,_,Tryz.func74,rfl⟩,hr,⟨_,fun ρ=>rfl⟩,_,fun ρ=>rfl⟩
 ·exact⟨⟨fun args w=>enters_of Tryz.func56 (by kernel_rfl) rfl args w,_,_,Tryz.func56,rfl⟩,hr,⟨_,fun ρ=>rfl⟩,_,fun ρ=>rfl⟩
 ·exact⟨⟨fun args w=>enters_of Tryz.func56 (by kernel_rfl) rfl args w,_,_,Tryz.func56,rfl⟩,hr,⟨_,fun ρ=>rfl⟩,_,fun ρ=>rfl⟩
theorem g4P(w0:World):TbOk Tryz.prog w0 tbA:=f70 (Am.good_of Tryz.good) e66 g7j
theorem g6b(w0:World):TbOk Tryz.prog w0 tb:=f6M (Am.good_of Tryz.good) (g4P w0) fun g hg=>by
 simp only[List.mem_cons,List.not_mem_nil,or_false] at hg
 subst hg
 exact⟨fun args w=>enters_of Tryz.func8 (by kernel_rfl) rfl args w,_,_,Tryz.func8,rfl⟩
end Go.Proofs.YtooooiidpaecmaaGreatDoor
