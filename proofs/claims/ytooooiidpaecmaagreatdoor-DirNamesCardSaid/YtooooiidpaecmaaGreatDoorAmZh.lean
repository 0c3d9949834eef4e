import Derived.Test.YtooooiidpaecmaaGreatDoorAmZg
import Derived.Sort.Grow
/- The abstract machine: slices.Sort over numbers, known ahead by its contract. -/
namespace Go.Am
open Go Go.RowKit Go.Maps Go.Sort
structure SortsRows(P:Program)(g:Nat):Prop where
 enters:∀args w,(callFunc g args).run P w= .ok (.enter g args) w
 sort:∀(blk off cap:Nat) (ss:List Int) (W:World),Sort.Holds encZ W blk off ss.toArray→blk<W.heap.size→ss.length<4611686018427387904→
  Calls P g #[.slice (some ⟨blk,off,none⟩) ss.length cap] W fun e w'=>e= .returned (.tuple #[])∧∃n os,w'=Sort.grow (Sort.putRow encZ (Sort.ahead W n) blk off (ss.mergeSort leI).toArray) os
 none:∀(p:Option Addr) (cap:Nat) (W:World),Calls P g #[.slice p 0 cap] W fun e w'=>e= .returned (.tuple #[])∧w'=W
section
variable {P:Program} {w0 w:World} {ρ:Ren} {m:M}
def a7f:List AV→Option (List Int)
 | [] =>some []
 |x::l=>match a2f x,a7f l with
  |some i,some r=>some (i::r)
  |_,_=>none
theorem b7T:∀{l:List AV} {ks:List Int} {us:List Value},a7f l=some ks→i8 ρ l=some us→us=ks.map encZ
 | [],ks,us,h,hc=>by
  cases h
  rw[o0] at hc
  cases hc
  rfl
 |x::l,ks,us,h,hc=>by
  unfold a7f at h
  obtain⟨u,us',c1,c2,rfl⟩:=o9.1 hc
  split at h
  ·rename_i i r h1 h2
   cases h
   rw[b7T h2 c2,a9g h1 c1]
   rfl
  ·cases h
noncomputable def a6w(args:List AV)(m:M):Option R:=match args with
 | [x] =>elSl (match x with| .p (.slice none 0 0)=>some (some (.tuple [],m))|_=>none) (fun b off len _ _=>bc (Nat.beq len 0) (some (some (.tuple [],m)))
   (some (ob (m.rdN b off len) fun l=>ob (a7f l) fun ks=>bc (Nat.ble len 4611686018427387903) (ob (m.wr b off ((C4 ks).map fun i=>ofI .i64 i)) fun m'=>some (AV.tuple [],m')) none))) x
 |_=>none
theorem f4D{ss:List Int}{blk off:Nat}{arr:Array Value}{e:TypeId}{fz:Nat×Nat}(hh:w.heap[blk]? =some (.cells arr e fz))(hl:off+ss.length≤arr.size):
  w.setRow blk (arr.toList.take off++ss.map encZ++arr.toList.drop (off+(ss.map encZ).length)).toArray=Sort.putRow encZ w blk off ss.toArray:=by
 unfold World.setRow Sort.putRow Sort.mapBlock
 congr 1
 apply Array.ext_getElem?
 intro k
 rw[Array.getElem?_modify,Array.getElem?_modify]
 by_cases hk:blk=k
 ·subst hk
  rw[if_pos rfl,if_pos rfl,hh]
  simp only[Option.map_some,Sort.onCells]
  congr 2
  apply Array.ext_getElem?
  intro j
  rw[List.getElem?_toArray,a1v _ _ _ _ (by simpa using hl)]
  unfold Sort.putCells
  rw[Array.getElem?_mapIdx]
  simp only[List.length_map,List.size_toArray,List.getElem?_map,Array.getElem?_toList]
  by_cases hj:off≤j∧j<off+ss.length
  ·rw[if_pos hj]
   have hja:j<arr.size:=by omega
   rw[Array.getElem?_eq_getElem hja,Option.map_some,if_pos hj,List.getElem?_eq_getElem (by omega)]
   simp[show j-off<ss.length by omega]
  ·rw[if_neg hj]
   cases arr[j]? with
   |none=>rfl
   |some v=>rw[Option.map_some,if_neg hj]
 ·rw[if_neg hk,if_neg hk]
theorem b8O(ρ:Ren):d6 ρ (.tuple [])=some (.tuple #[]):=by simp[d6,o0]
theorem f7F{g:Nat}(hS:SortsRows P g){args:List AV}{v:AV}{m':M}{vs:List Value}{cs:List Frame}(hr:a6w args m=some (some (v,m')))(hv:i8 ρ args=some vs)(h:Sim P w0 ρ m w):X9 P w0 ρ w g vs cs v m':=by
 unfold a6w at hr
 split at hr
 ·rename_i x
  obtain⟨u1,us1,h1,h2,rfl⟩:=o9.1 hv
  rw[o0] at h2
  cases h2
  have nothing:∀p cap,u1= .slice p 0 cap→v= .tuple []→m'=m→X9 P w0 ρ w g [u1] cs v m':=by
   intro p cap e1 e2 e3
   subst e1 e2 e3
   obtain⟨e,w',fr,⟨rfl,rfl⟩,hsteps,hfn,hlv⟩:=hS.none p cap w cs
   exact⟨ρ,.tuple #[],w',b8O ρ,ρ.le_refl,h,.inr ⟨hS.enters _ _,fr,hsteps,hfn,hlv⟩⟩
  cases x<;>simp only[elSl,reduceCtorEq] at hr
  case p q=>
   split at hr
   ·rename_i hp
    cases hp
    cases hr
    rw[l7 rfl] at h1
    cases h1
    exact nothing _ _ rfl rfl rfl
   ·cases hr
  case slice b off len cap lim=>
   obtain⟨r,hloc,hu⟩:=G2 h1
   by_cases h0:len=0
   ·subst h0
    rw[Nat.beq_refl,l9] at hr
    cases hr
    exact nothing _ _ hu rfl rfl
   rw[show Nat.beq len 0=false from by rw[←Bool.not_eq_true];exact fun e=>h0 (Nat.eq_of_beq_eq_true e),u7] at hr
   obtain⟨l,hrd,hr2⟩:=d9 (Option.some.inj hr)
   obtain⟨ks,hks,hr3⟩:=d9 hr2
   obtain⟨hlen,hr4⟩:=l4 hr3
   obtain⟨m2,hwr,hr5⟩:=d9 hr4
   cases hr5
   have hlen:=Nat.le_of_ble_eq_true hlen
   obtain⟨r',us,hloc2,q1,q2,q3,q4⟩:=h.rdN hrd
   rw[hloc] at hloc2;cases hloc2
   have hus:=b7T hks q1
   have hkl:ks.length=len:=by rw[←q2,hus,List.length_map]
   have hic:i8 ρ ((C4 ks).map fun i=>ofI .i64 i)=some ((C4 ks).map encZ):=by
    induction C4 ks with
    |nil=>exact o0 ρ
    |cons z t ih=>exact o9.2 ⟨_,_,G0 ρ .i64 z,ih,rfl⟩
   have hi1:((C4 ks).map encZ).all Value.oneCell'=true:=by
    rw[List.all_eq_true]
    intro u hu
    obtain⟨z,_,rfl⟩:=List.mem_map.1 hu
    rfl
   have hwr0:=hwr
   obtain⟨c,hc,e⟩:=d9 (show ob (m.cel b) _=some _ from hwr)
   obtain⟨hb,_⟩:=l4 e
   simp only[Bool.and_eq_true,Bool.not_eq_true',Option.isNone_iff_eq_none] at hb
   obtain⟨hle,hmv,hro⟩:=hb
   have hle:=Nat.le_of_ble_eq_true hle
   obtain⟨r2,arr,fz,hr2',k⟩:=h.cel hc
   rw[hloc] at hr2';cases hr2'
   obtain⟨_,hq⟩:=k.own hmv hro
   have hil:(C4 ks).length=ks.length:=(a4H ks).length_eq
   have hsize:r.sh+off+(C4 ks).length≤arr.size:=by
    have:=k.fit hmv
    have hle:off+((C4 ks).map fun i=>ofI .i64 i).length≤c.n:=hle
    rw[List.length_map] at hle
    omega
   obtain⟨r3,w1,hr3',hst,hsim⟩:=h.wr hwr0 hic hi1
   rw[hloc] at hr3';cases hr3'
   have hst2:=a4f P r.blk (r.sh+off) c.elem fz ((C4 ks).map encZ) 0 arr w k.heap hq (by rw[List.length_map];simpa using hsize) (by simpa using hi1)
   rw[hst] at hst2
   have hw1:w1=Sort.putRow encZ w r.blk (r.sh+off) (C4 ks).toArray:=by
    have:=(Result.ok.inj hst2).2
    rw[this,←f4D k.heap hsize]
    rfl
   have hH:Sort.Holds encZ w r.blk (r.sh+off) ks.toArray:=by
    intro j hj
    have hj:j<ks.length:=by simpa using hj
    refine⟨?_,?_⟩
    ·rw[q4 j (encZ ks[j]) (by rw[hus,List.getElem?_map,List.getElem?_eq_getElem hj];rfl)]
     simp[hj]
    ·simp only[World.frozen?,k.heap]
     obtain⟨lo,hi⟩:=fz
     simp only[Bool.and_eq_false_iff,decide_eq_false_iff_not]
     rcases hq with e|e
     ·cases e;right;omega
     ·left;simp only at e;omega
   obtain⟨e,w',fr,⟨rfl,n,os,rfl⟩,hsteps,hfn,hlv⟩:=hS.sort r.blk (r.sh+off) (if lim then cap else cap+r.ext) ks w hH (Below.lt_of_heap k.heap) (by omega) cs
   rw[b92 ks ks (List.Perm.refl _)] at hsteps hlv
   have hbel:Below w1.heap.size w1 (Sort.grow (Sort.putRow encZ (Sort.ahead w n) r.blk (r.sh+off) (C4 ks).toArray) os):=by
    rw[hw1]
    refine⟨rfl,rfl,rfl,?_,fun j hj=> ?_⟩
    ·show _≤((Sort.putRow encZ w r.blk (r.sh+off) (C4 ks).toArray).heap++os).size
     rw[Array.size_append];omega
    ·show((Sort.putRow encZ w r.blk (r.sh+off) (C4 ks).toArray).heap++os)[j]? =_
     rw[Array.getElem?_append_left hj]
   subst hu
   rw[hkl] at hsteps
   exact⟨ρ,.tuple #[],_,b8O ρ,ρ.le_refl,hsim.below hbel,.inr ⟨hS.enters _ _,fr,hsteps,hfn,hlv⟩⟩
 ·cases hr
noncomputable def a9z(T:Tb)(g:Nat):Tb:=⟨T.fs,fun g' args m=>bc (Nat.beq g' g) (a6w args m) (T.it g' args m)⟩
theorem f6d{T:Tb}{g:Nat}(hT:TbOk P w0 T)(hS:SortsRows P g):TbOk P w0 (a9z T g):={
 fs:=hT.fs
 it:=by
  intro ρ m w g' args v m' vs cs h hv hs
  have h:bc (Nat.beq g' g) (a6w args m) (T.it g' args m)=some (some (v,m')):=h
  by_cases hg:g'=g
  ·subst hg
   rw[Nat.beq_refl,l9] at h
   exact f7F hS h hv hs
  ·rw[show Nat.beq g' g=false from by rw[←Bool.not_eq_true];exact fun e=>hg (Nat.eq_of_beq_eq_true e),u7] at h
   exact hT.it ρ m w g' args v m' vs cs h hv hs
 }
end
end Go.Am
