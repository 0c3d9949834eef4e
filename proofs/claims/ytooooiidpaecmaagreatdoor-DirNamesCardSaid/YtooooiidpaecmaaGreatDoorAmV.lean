import Derived.Test.YtooooiidpaecmaaGreatDoorAmS
import Derived.Lib.SlMapMerge
import Derived.Maps.RangeWalk
/- The abstract machine: maps.Copy, whose result is known ahead (the kit's shelf). -/
namespace Go.Am
open Go Go.RowKit Go.MapKept Go.WideShapes
section
variable {P:Program} {w0:World} {ρ:Ren} {m:M} {w:World}
def B3(v:Value):Option (DataW Value×List MemPlace):=some (.held v,[])
structure CopyMaps(P:Program)(g:FuncId)(kt:TypeId):Prop where
 key:P.underlying kt=some (.int .i64)
 enters:∀(args:Array Value) (w:World),(callFunc g args).run P w= .ok (.enter g args) w
 copy:∀(bd nd:Nat) (bs ns:Nat) (Dd Ds:DataW Value) (W:World),W.ownsMap P kt B3 bd nd Dd→W.ownsMap P kt B3 bs ns Ds→bd≠bs→nd+Maps.size Ds≤maxLen→
  Calls P g #[.map (some bd),.map (some bs)] W fun e w'=>e= .returned (.tuple #[])∧w'.ownsMap P kt B3 bd (nd+Maps.size Ds) (Lib.mergeD Dd Ds)∧W.grownBy w' (some bd)
def W4(v:Value):Int:=match v with
 | .int _ i=>i
 |_=>0
def K0(ks:List Int)(q:Value×Value):Bool:=ks.all fun k=> !decide (k=W4 q.1)
noncomputable section
def W0(ks:List Int):List (AV×AV)→List (AV×AV)
 | [] => []
 |e::l=>match a2f e.1 with
  |some i=>bc (ks.all fun k=> !decide (k=i)) (e::W0 ks l) (W0 ks l)
  |none=>W0 ks l
def b25(ed es:List (AV×AV)):Option (List (AV×AV)):=ob (J9 es) fun ks=>ob (J9 ed) fun kd=>bc (ks.all V7&&(kd.all V7&&(Nat.ble ks.length 1000000&&Nat.ble kd.length 1000000))) (some (es++W0 ks ed)) none
def a58(args:List AV)(m:M):Option R:=match args with
 | [.map bd,.map bs] =>some (bc (Nat.beq bd bs) none (ob (m.mapF bd) fun q=>ob (m.mapF bs) fun s=>ob (b25 q.1 s.1) fun es=>some (.tuple [],m.put bd (.obj (.map es none)))))
 |_=>none
end
theorem f8q{x:AV}{i:Int}{v:Value}(h:a2f x=some i)(hv:d6 ρ x=some v):W4 v=i:=by rw[a9g h hv];rfl
theorem b9M{ks:List Int}:∀{ed:List (AV×AV)} {kd:List Int} {kvs:List (Value×Value)},J9 ed=some kd→i8 ρ (ed.map (·.1))=some (kvs.map (·.1))→i8 ρ (ed.map (·.2))=some (kvs.map (·.2))→
  i8 ρ ((W0 ks ed).map (·.1))=some ((kvs.filter (K0 ks)).map (·.1))∧i8 ρ ((W0 ks ed).map (·.2))=some ((kvs.filter (K0 ks)).map (·.2))
 | [],kd,kvs,_,h1,_=>by
  cases kvs with
  |nil=>exact⟨o0 ρ,o0 ρ⟩
  |cons a l=>simp[o0] at h1
 |e::ed,kd,[],_,h1,_=>by
  obtain⟨_,_,_,_,h⟩:=o9.1 h1
  simp at h
 |e::ed,kd,(d1,d2)::kvs,hk,h1,h2=>by
  obtain⟨u,us,p1,p2,p3⟩:=o9.1 h1
  obtain⟨x,xs,q1,q2,q3⟩:=o9.1 h2
  simp only[List.map_cons,List.cons.injEq] at p3 q3
  obtain⟨rfl,rfl⟩:=p3
  obtain⟨rfl,rfl⟩:=q3
  unfold J9 at hk
  split at hk
  ·rename_i i r hi hr
   obtain⟨ih1,ih2⟩:=b9M (ks:=ks) hr p2 q2
   have hiv:=f8q hi p1
   have hp:K0 ks (d1,d2)=ks.all fun k=> !decide (k=i):=by unfold K0;rw[hiv]
   unfold W0
   simp only[hi]
   rw[List.filter_cons,hp]
   cases ks.all fun k=> !decide (k=i) with
   |true=>exact⟨o9.2 ⟨_,_,p1,ih1,rfl⟩,o9.2 ⟨_,_,q1,ih2,rfl⟩⟩
   |false=>exact⟨ih1,ih2⟩
  ·cases hk
def kvE(e:MapEntry):Value×Value:=(e.key,e.val)
def inv(p:Lit×DataW Value):Value×Value:=(match p.1 with| .int q i=> .int q i|_=>undef,match p.2 with| .held v=>v|_=>undef)
theorem a2Y{kt:TypeId}(hk:P.underlying kt=some (.int .i64)){x:MapEntry}{y:Lit×DataW Value}(h:WideElems.rd P kt B3 x=some y):∃i,x.key= .int .i64 i∧WideElems.rg P kt B3 x=(.int .i64 i,.held x.val)∧inv (WideElems.rg P kt B3 x)=kvE x:=by
 obtain⟨i,h1,h2,_⟩:=Maps.keyOf_int_inv hk (WideElems.rd_key h)
 obtain⟨z,h3,h4⟩:=WideElems.rd_val h
 have h3:some (DataW.held x.val,([] :List MemPlace))=some z:=h3
 cases h3
 obtain⟨y1,y2⟩:=y
 simp only at h2 h4
 subst h2 h4
 refine⟨i,h1,by simp[WideElems.rg,h],?_⟩
 simp[WideElems.rg,h,inv,kvE,h1]
theorem b8d:∀(s l:List (Lit×DataW Value)),s.Pairwise (fun p q=>p.1≠q.1)→∃l',s.foldl (fun D p=>DataW.put D p.1 p.2) (.map l)= .map l'∧l'.Perm (s++l.filter fun p=>s.all fun q=> !p.1.sameKey q.1)
 | [],l,_=>⟨l,rfl,by
  have:(l.filter fun p=>([] :List (Lit×DataW Value)).all fun q=> !p.1.sameKey q.1)=l:=List.filter_eq_self.2 fun _ _=>rfl
  rw[this];exact .refl _⟩
 |a::s,l,hp=>by
  obtain⟨h1,h2⟩:=List.pairwise_cons.1 hp
  obtain⟨l',h3,h4⟩:=b8d s (DataW.insert (a.1,a.2) (l.filter fun p=> !p.1.sameKey a.1)) h2
  refine⟨l',h3,h4.trans ?_⟩
  have e1:=(insert_perm (a.1,a.2) (l.filter fun p=> !p.1.sameKey a.1)).filter (fun p=>s.all fun q=> !p.1.sameKey q.1)
  have e2:(s.all fun q=> !a.1.sameKey q.1)=true:=by
   rw[List.all_eq_true]
   intro q hq
   rw[Maps.sameKey_ne (h1 q hq)]
   rfl
  rw[List.filter_cons_of_pos (by exact e2),List.filter_filter] at e1
  have e3:(l.filter fun p=>(s.all fun q=> !p.1.sameKey q.1)&& !p.1.sameKey a.1)=l.filter fun p=>(a::s).all fun q=> !p.1.sameKey q.1:=by
   congr 1
   funext p
   rw[List.all_cons,Bool.and_comm]
  rw[e3] at e1
  refine(List.Perm.append_left s e1).trans ?_
  exact List.perm_middle
theorem f6g{ed es l:List (AV×AV)}(h:b25 ed es=some l):∃ks kd,J9 es=some ks∧J9 ed=some kd∧ks.all V7=true∧kd.all V7=true∧ks.length≤1000000∧kd.length≤1000000∧l=es++W0 ks ed:=by
 obtain⟨ks,h1,h⟩:=d9 h
 obtain⟨kd,h2,h⟩:=d9 h
 obtain⟨h3,h⟩:=l4 h
 cases h
 simp only[Bool.and_eq_true] at h3
 exact⟨ks,kd,h1,h2,h3.1,h3.2.1,Nat.le_of_ble_eq_true h3.2.2.1,Nat.le_of_ble_eq_true h3.2.2.2,rfl⟩
theorem c9d{kt:TypeId}(hkt:P.underlying kt=some (.int .i64)){es:List (AV×AV)}{st:St2}{ents:Array MapEntry}{clock b:Nat}{kvs:List (Value×Value)}{ks:List Int}(hm:MapOk ρ es st ents clock kvs)(hh:w.heap[b]? =some (.map ents clock))
  (hks:J9 es=some ks) (hwf:ks.all V7=true) (hlen:ks.length≤1000000):
  (∀x∈ents.toList,∃y,WideElems.rd P kt B3 x=some y)∧w.ownsMap P kt B3 b ents.size (.map ((ents.toList.map (WideElems.rg P kt B3)).foldr DataW.insert []))∧ents.size=ks.length∧kvs.map (fun q=>W4 q.1)=ks:=by
 have hkeys:=a9c hks hm.keys
 have hsz:ents.size=ks.length:=by
  have h1:=hm.perm.length_eq
  have h2:=congrArg List.length hkeys
  simp only[List.length_map,Array.length_toList] at h1 h2
  omega
 have hrd:∀x∈ents.toList,∃y,WideElems.rd P kt B3 x=some y:=by
  intro x hx
  have hmem:x.key∈kvs.map (·.1):=List.mem_map.2 ⟨_,hm.perm.mem_iff.2 (List.mem_map.2 ⟨x,hx,rfl⟩),rfl⟩
  rw[hkeys] at hmem
  obtain⟨i,hi,he⟩:=List.mem_map.1 hmem
  have hko:keyOf P kt x.key=some (.int .i64 i):=by rw[←he];exact Maps.keyOf_int_mk hkt (List.all_eq_true.1 hwf i hi)
  exact⟨(.int .i64 i,.held x.val),by simp[WideElems.rd,hko,B3]⟩
 refine⟨hrd,⟨ents,clock,hh,⟨by rw[hsz];exact Nat.le_trans hlen (by decide),hm.stamped,hrd⟩,Nat.le_refl _,rfl⟩,hsz,?_⟩
 have:=congrArg (List.map W4) hkeys
 simpa[Function.comp_def,encZ,W4] using this
theorem f8a{g kt:TypeId}(hC:CopyMaps P g kt){args:List AV}{v:AV}{m':M}{vs:List Value}{cs:List Frame}(hr:a58 args m=some (some (v,m')))(hv:i8 ρ args=some vs)(h:Sim P w0 ρ m w):
  X9 P w0 ρ w g vs cs v m':=by
 unfold a58 at hr
 split at hr
 ·rename_i bd bs
  have hr1:=Option.some.inj hr
  clear hr
  have hbb:bd≠bs∧(ob (m.mapF bd) fun q=>ob (m.mapF bs) fun s=>ob (b25 q.1 s.1) fun es=>some (AV.tuple [],m.put bd (.obj (.map es none))))=some (v,m'):=by
   cases hb:Nat.beq bd bs with
   |true=>rw[hb,l9] at hr1;cases hr1
   |false=>rw[hb,u7] at hr1;exact⟨(fun e=>by subst e;rw[Nat.beq_refl] at hb;cases hb),hr1⟩
  obtain⟨hne,hr2⟩:=hbb
  obtain⟨⟨ed,sd⟩,hd,hr3⟩:=d9 hr2
  obtain⟨⟨es,ss⟩,hs,hr4⟩:=d9 hr3
  obtain⟨l,hl,hr5⟩:=d9 hr4
  cases hr5
  obtain⟨ks,kd,k1,k2,k3,k4,k5,k6,rfl⟩:=f6g hl
  obtain⟨rd,entsD,clockD,kvD,d1,d2,d3,d4⟩:=h.map hd
  obtain⟨rs,entsS,clockS,kvS,s1,s2,s3,s4⟩:=h.map hs
  obtain⟨rdD,oD,nD,iD⟩:=c9d (w:=w) hC.key d4 d2 k2 k4 k6
  obtain⟨rdS,oS,nS,iS⟩:=c9d (w:=w) hC.key s4 s2 k1 k3 k5
  have hblk:rd.blk≠rs.blk:=fun e=>hne (h.mown bd _ bs _ rd rs (M.mapF_some.1 hd) (M.mapF_some.1 hs) d1 s1 e)
  have hvs:vs= [.map (some rd.blk),.map (some rs.blk)] :=by
   obtain⟨u1,us,h1,h2,rfl⟩:=o9.1 hv
   obtain⟨u2,us2,h3,h4,rfl⟩:=o9.1 h2
   rw[o0] at h4
   cases h4
   simp only[d6,d1,s1,Option.map_some,Option.some.injEq] at h1 h3
   rw[←h1,←h3]
  subst hvs
  have hsz:Maps.size (.map ((entsS.toList.map (WideElems.rg P kt B3)).foldr DataW.insert []):DataW Value)=ks.length:=by
   rw[Maps.size_eq,(sorted_perm _).length_eq,List.length_map,Array.length_toList,nS]
  obtain⟨e,w',fr,⟨rfl,ho,hg⟩,hsteps,hfn,hlv⟩:=hC.copy rd.blk entsD.size rs.blk entsS.size _ _ w oD oS hblk (by rw[hsz,nD];have:maxLen=9223372036854775807:=rfl;omega) cs
  --the map behind it
  obtain⟨ents',clock',hh',hfit',_,hD'⟩:=ho
  have hpair:((entsS.toList.map (WideElems.rg P kt B3)).foldr DataW.insert []).Pairwise (fun p q=>p.1≠q.1):=by
   have hp0:(entsS.toList.map (WideElems.rg P kt B3)).Pairwise (fun p q=>p.1≠q.1):=by
    rw[List.pairwise_map]
    have hst:=((stamped_iff entsS clockS).1 s4.stamped).2.2
    refine hst.imp_of_mem fun{x y} hx hy hxy=> ?_
    obtain⟨yx,ex⟩:=rdS x hx
    obtain⟨yy,ey⟩:=rdS y hy
    obtain⟨i,a1,a2,_⟩:=a2Y hC.key ex
    obtain⟨j,b1,b2,_⟩:=a2Y hC.key ey
    rw[a2,b2]
    intro e
    simp only[Lit.int.injEq,true_and] at e
    rw[a1,b1,e] at hxy
    exact hxy rfl
   exact(List.Perm.pairwise_iff (fun{a b} hab=>Ne.symm hab) (sorted_perm _)).2 hp0
  obtain⟨l',hf,hl'⟩:=b8d _ ((entsD.toList.map (WideElems.rg P kt B3)).foldr DataW.insert []) hpair
  have hl2:(ents'.toList.map (WideElems.rg P kt B3)).foldr DataW.insert [] =l':=by
   have:DataW.map ((ents'.toList.map (WideElems.rg P kt B3)).foldr DataW.insert [])=DataW.map l':=by rw[←hD',←hf];rfl
   exact DataW.map.inj this
  have hinv:∀(E:Array MapEntry),(∀x∈E.toList,∃y,WideElems.rd P kt B3 x=some y)→(E.toList.map (WideElems.rg P kt B3)).map inv=E.toList.map kvE:=by
   intro E hE
   rw[List.map_map]
   refine List.map_congr_left fun x hx=> ?_
   obtain⟨y,hy⟩:=hE x hx
   obtain⟨_,_,_,h3⟩:=a2Y hC.key hy
   exact h3
  have hperm:(ents'.toList.map kvE).Perm (kvS++kvD.filter (K0 ks)):=by
   rw[←hinv ents' hfit'.reads]
   refine((((sorted_perm _).symm.trans (List.Perm.of_eq hl2)).trans hl').map inv).trans ?_
   rw[List.map_append]
   refine List.Perm.append ?_ ?_
   ·refine((sorted_perm _).map inv).trans ?_
    rw[hinv entsS rdS]
    exact s4.perm.symm
   ·refine((((sorted_perm _).filter _).map inv)).trans ?_
    have hall:∀p:Lit×DataW Value,(((entsS.toList.map (WideElems.rg P kt B3)).foldr DataW.insert []).all fun q=> !p.1.sameKey q.1)=((entsS.toList.map (WideElems.rg P kt B3)).all fun q=> !p.1.sameKey q.1):=fun p=>(sorted_perm _).all_eq
    have hflt:((entsD.toList.map (WideElems.rg P kt B3)).filter fun p=>((entsS.toList.map (WideElems.rg P kt B3)).foldr DataW.insert []).all fun q=> !p.1.sameKey q.1).map inv=(entsD.toList.map kvE).filter (K0 ks):=by
     have key:∀(L:List MapEntry),(∀x∈L,∃y,WideElems.rd P kt B3 x=some y)→((L.map (WideElems.rg P kt B3)).filter fun p=>((entsS.toList.map (WideElems.rg P kt B3)).foldr DataW.insert []).all fun q=> !p.1.sameKey q.1).map inv=(L.map kvE).filter (K0 ks):=by
      intro L
      induction L with
      |nil=>intro _;rfl
      |cons x L ih=>
       intro hL
       obtain⟨y,hy⟩:=hL x (by simp)
       obtain⟨i,a1,a2,a3⟩:=a2Y hC.key hy
       have hq:(((entsS.toList.map (WideElems.rg P kt B3)).foldr DataW.insert []).all fun q=> !(WideElems.rg P kt B3 x).1.sameKey q.1)=K0 ks (kvE x):=by
        rw[hall,List.all_map]
        have e1:K0 ks (kvE x)=(kvS.map fun q=>W4 q.1).all fun k=> !decide (k=i):=by
         rw[iS];unfold K0 kvE W4;rw[a1]
        rw[e1,List.all_map,s4.perm.all_eq,List.all_map]
        have hc:∀(E:List MapEntry),(∀z∈E,∃y,WideElems.rd P kt B3 z=some y)→(E.all fun z=> !(WideElems.rg P kt B3 x).1.sameKey (WideElems.rg P kt B3 z).1)=E.all fun z=> !decide (W4 z.key=i):=by
         intro E
         induction E with
         |nil=>intro _;rfl
         |cons z E ih2=>
          intro hE
          obtain⟨y2,hy2⟩:=hE z (by simp)
          obtain⟨j,b1,b2,_⟩:=a2Y hC.key hy2
          rw[List.all_cons,List.all_cons,ih2 (fun u hu=>hE u (by simp[hu])),a2,b2,b1]
          congr 2
          simp only[Lit.sameKey,true_and,W4]
          by_cases hij:i=j
          ·subst hij;simp
          ·simp[hij,Ne.symm hij]
        exact hc entsS.toList rdS
       rw[List.map_cons,List.map_cons,List.filter_cons,List.filter_cons,hq]
       cases K0 ks (kvE x) with
       |true=>rw[if_pos rfl,if_pos rfl,List.map_cons,a3,ih (fun u hu=>hL u (by simp[hu]))]
       |false=>simp only[Bool.false_eq_true,if_false];exact ih (fun u hu=>hL u (by simp[hu]))
     exact key entsD.toList rdD
    rw[hflt]
    exact(d4.perm.filter (K0 ks)).symm
  --the machine's own memory
  have hpk:=b9M (ks:=ks) k2 d4.keys d4.vals
  have hmid:Below w.heap.size w {w' with heap:=w'.heap.setIfInBounds rd.blk (.map entsD clockD)}:=by
   refine⟨hg.os,hg.tape,hg.output,by simpa using hg.size,fun k hk=> ?_⟩
   by_cases hkb:k=rd.blk
   ·subst hkb
    have:rd.blk<w'.heap.size:=Below.lt_of_heap hh'
    simp[this,d2]
   ·simp only[Array.getElem?_setIfInBounds_ne (Ne.symm hkb)]
    exact hg.block k hk (fun e=>hkb (Option.some.inj e))
  have hs1:=h.below hmid
  have hlt':rd.blk<w'.heap.size:=Below.lt_of_heap hh'
  have hs2:=hs1.putMap (q':=(es++W0 ks ed,none)) (kvs':=kvS++kvD.filter (K0 ks)) (ents':=ents') (clock':=clock') hd d1 (by simp[hlt']) d4 d3
   ⟨hperm.symm,fun e=>(by cases e),by
    have:=M7 s4.keys hpk.1
    simpa using this,by
    have:=M7 s4.vals hpk.2
    simpa using this,hfit'.stamped,fun _ _ e=>(by cases e)⟩
  have hw:({({w' with heap:=w'.heap.setIfInBounds rd.blk (.map entsD clockD)}:World) with heap:=(w'.heap.setIfInBounds rd.blk (.map entsD clockD)).setIfInBounds rd.blk (.map ents' clock')}:World)=w':=by
   have:(w'.heap.setIfInBounds rd.blk (.map entsD clockD)).setIfInBounds rd.blk (.map ents' clock')=w'.heap:=by
    apply Array.ext_getElem?
    intro i
    by_cases hi:rd.blk=i
    ·subst hi
     rw[hh']
     simp[hlt']
    ·simp[Array.getElem?_setIfInBounds_ne hi]
   cases w'
   simp only at this⊢
   rw[this]
  rw[hw] at hs2
  exact⟨ρ,.tuple #[],w',by simp[d6,i8],ρ.le_refl,hs2,.inr ⟨hC.enters _ _,fr,hsteps,hfn,hlv⟩⟩
 ·cases hr
noncomputable def libTb(P:Program)(g et:Nat)(kfs cps:List Nat):Tb:=⟨Q7 P,fun g' args m=>bc (Nat.beq g' g) (X6 et args m kfs) (bc (cps.any (Nat.beq g')) (a58 args m) none)⟩
theorem libTb_ok{g et kt:Nat}{kfs cps:List Nat}(hS:∀kf∈kfs,SortsKeys P g kf et kt)(hC:∀c∈cps,CopyMaps P c kt):TbOk P w0 (libTb P g et kfs cps):={
 fs:=rfl
 it:=by
  intro ρ m w g' args v m' vs cs h hv hs
  have h0:bc (Nat.beq g' g) (X6 et args m kfs) (bc (cps.any (Nat.beq g')) (a58 args m) none)=some (some (v,m')):=h
  clear h
  cases hg:Nat.beq g' g with
  |true=>
   rw[hg,l9] at h0
   have hg:=Nat.eq_of_beq_eq_true hg
   subst hg
   obtain⟨kf,h3,h4⟩:=b7a h0
   exact f56 (hS kf h3) h4 hv hs
  |false=>
   rw[hg,u7] at h0
   obtain⟨h1,h2⟩:=l4 h0
   rw[List.any_eq_true] at h1
   obtain⟨c,h3,h4⟩:=h1
   have h4:=Nat.eq_of_beq_eq_true h4
   subst h4
   exact f8a (hC _ h3) h2 hv hs
 }
end
end Go.Am
