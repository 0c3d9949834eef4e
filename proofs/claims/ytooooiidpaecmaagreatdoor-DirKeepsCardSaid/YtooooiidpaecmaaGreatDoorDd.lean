import Derived.Test.YtooooiidpaecmaaGreatDoorFk
import Derived.Test.YtooooiidpaecmaaGreatDoorFe
import Derived.Test.YtooooiidpaecmaaGreatDoorAmSt
import Derived.Test.YtooooiidpaecmaaGreatDoorWrd
import Derived.Test.YtooooiidpaecmaaGreatDoorGk
set_option linter.unusedVariables false
set_option linter.unusedSimpArgs false
/- alloc.Alloc.FreeBlock. -/
namespace Go.Proofs.YtooooiidpaecmaaGreatDoor
open Go Go.Am
section
variable {m:M} {A:Ad} {S:PS} {own:Nat→Prop} {aa:Nat}
end
theorem a0w(t:TypeId){a b:Int}(h1: -9223372036854775808≤a*b)(h2:a*b≤9223372036854775807):d8 Tryz.prog .mul t (iv a) (iv b)=some (iv (a*b)):=by
 rw[G6]
 show some (iv (IntKind.i64.wrap (a*b)))=_
 rw[IntWalk.i64_in _ ⟨h1,h2⟩]
section
variable {m m':M} {A:Ad} {S T:PS} {own:Nat→Prop} {tt aa:Nat} {X Y:Nat→Ino} {i:Nat} {q:Pa}
end
section
variable {m m':M} {A:Ad} {S:PS} {own:Nat→Prop} {tt aa:Nat} {X:Nat→Ino} {i:Nat}
end
section
variable {m m':M} {A:Ad} {S:PS} {own:Nat→Prop} {tt aa:Nat} {X:Nat→Ino} {i:Nat}
end
def t32:Bk:=3::List.replicate 63 0
def t33:Bk:=255::255::255::255::31::List.replicate 59 0
def n32(k:UInt8):Bk:=k::0::1::List.replicate 29 0
def t35:Bk:=n32 1++n32 2
def yl(k:Nat):List AV:= .y k:: .y 0:: .y 1::List.replicate 29 (.y 0)
def rd0:Nat→Option Bk:=fun b=>if b=32 then some t32 else if b=33 then some t33 else if b=35 then some t35 else none
def S0:PS:=⟨rd0,fun _=>false⟩
def x0(k:Nat):Ino:=⟨k,1,0,List.replicate 10 0⟩
def X0:Nat→Ino:=fun i=>if i=3 then x0 2 else x0 1
theorem ps0(i j:Nat):(X0 i).ps.getD j 0=0:=by
 have e:(X0 i).ps=List.replicate 10 0:=by unfold X0 x0;split<;>rfl
 rw[e,List.getD_eq_getElem?_getD,List.getElem?_replicate]
 split<;>rfl
theorem nd0(S:PS)(i:Nat):∀p:Pa,nd S (X0 i) p=0
 | .r j=>ps0 i j
 | .s j a=>by show ptz S _ a=0;rw[ps0,a0b]
 | .t a b=>by show ptz S (ptz S _ a) b=0;rw[ps0,a0b,a0b]
theorem e0s{k:Nat}(h:k=1∨k=2):(x0 k).Ok:=⟨by show 1≤k;omega,by show k≤2;omega,by show 1<65536;omega,by show 0<4294967296;omega,List.length_replicate,fun p hp=>by have:=List.eq_of_mem_replicate hp;omega⟩
theorem f4p:Inv S0 I2 X0:={
 ino:=fun i hi=>by
  have hi:i=2∨i=3:=by simpa[I2] using hi
  rcases hi with rfl|rfl
  ·exact⟨by omega,⟨t35,rfl,rfl,by decide+kernel⟩,e0s (.inl rfl)⟩
  ·exact⟨by omega,⟨t35,rfl,rfl,by decide+kernel⟩,e0s (.inr rfl)⟩
 bm:=⟨t33,rfl,by decide+kernel,fun i _ p _ h0=>absurd (nd0 _ i p) h0⟩
 inj:=fun i _ j _ p q _ _ h0=>absurd (nd0 _ i p) h0
 blk:=fun i _ p _ _ h0=>absurd (nd0 _ i p) h0
 }
theorem f4o(S:PS)(i n:Nat):u7 S (X0 i) n=z64:=if_pos (nd0 S i _)
theorem fs0:FS S0 I2 X0:=
 ⟨f4p,fun i _ n _ h0=>absurd (nd0 _ i _) h0,fun i _ o _ _=>by unfold fby;rw[f4o,c38],fun i _=>by unfold X0 x0;split<;>exact Nat.zero_le _⟩
theorem f46:o9 S0=0:=by decide+kernel
def a5O:Nat→Prop:=fun b=>b=196∨b=275∨b=415
noncomputable def A2:Ad:=⟨177,185,129,4,173,175,176,182,183,184,128⟩
theorem a9F{m:M}{b:Nat}{xt:Bool}{cells:List AV}{t:Bk}(h:At m b 5 xt cells)(ht:cells=g7 t)(hl:t.length=64):BtU m (.slice b 0 64 64 false) t b:=by
 subst ht
 have h2:(g7 t).length=64:=by simp[g7,hl]
 have:=BsAt.row (off:=0) (cap:=64) (lim:=false) (l:=t) h.r (by omega) (by rw[List.drop_zero,hl,List.take_of_length_le (by omega)])
 rw[hl] at this
 exact⟨this,h.kd⟩
theorem f2V{m:M}{gl a b c:Nat}{own:Nat→Prop}(h:MpAt m gl [(32,.slice a 0 64 64 false),(33,.slice b 0 64 64 false),(35,.slice c 0 64 64 false)])(ha:BtU m (.slice a 0 64 64 false) t32 a)(hb:BtU m (.slice b 0 64 64 false) t33 b)(hc:BtU m (.slice c 0 64 64 false) t35 c)
  (oa:own a) (ob:own b) (oc:own c):BmAt m gl rd0 own:=by
 refine⟨_,h,(by decide: [32,33,35].Nodup),fun k=>⟨fun hk=> ?_,fun t hk=> ?_⟩⟩
 ·unfold rd0 at hk
  by_cases h1:k=32
  ·rw[if_pos h1] at hk;cases hk
  ·rw[if_neg h1] at hk
   by_cases h2:k=33
   ·rw[if_pos h2] at hk;cases hk
   ·rw[if_neg h2] at hk
    by_cases h3:k=35
    ·rw[if_pos h3] at hk;cases hk
    ·exact(if_neg (Ne.symm h1)).trans ((if_neg (Ne.symm h2)).trans (if_neg (Ne.symm h3)))
 ·unfold rd0 at hk
  by_cases h1:k=32
  ·rw[if_pos h1] at hk;cases hk;subst h1
   exact⟨by decide+kernel,_,a,rfl,ha,oa⟩
  ·rw[if_neg h1] at hk
   by_cases h2:k=33
   ·rw[if_pos h2] at hk;cases hk;subst h2
    exact⟨by decide+kernel,_,b,rfl,hb,ob⟩
   ·rw[if_neg h2] at hk
    by_cases h3:k=35
    ·rw[if_pos h3] at hk;cases hk;subst h3
     exact⟨rfl,_,c,rfl,hc,oc⟩
    ·rw[if_neg h3] at hk;cases hk
theorem BmAt.none{m:M}{b:Nat}{own:Nat→Prop}(h:MpAt m b []):BmAt m b (fun _=>Option.none) own:=⟨[],h,List.nodup_nil,fun k=>⟨fun _=>rfl,fun t e=>by cases e⟩⟩
noncomputable abbrev z12:List AV:= [iv 0,iv 0,iv 0,iv 0,iv 0,iv 0,iv 0,iv 0,iv 0,iv 0,iv 0,iv 0]
noncomputable def mQ(o:Option Blk):Option M:=((mS o).addZ x9 12 z12).wr 1 0 j9
noncomputable def ckF(r:R):Bool×Option Blk×AV:=match r with
 |some (v,m)=>(bc (ltT m.tab m.next) (bc (K2 m 177 131 true [.ptr 4 0,.ptr 129 0,.ptr 173 0,.n 64,.n 90,.n 6,.n 30,.n 2,.n 32,.n 1,.n 33,.n 1,.n 34,.n 3,.n 37,.map 175,.map 176,.ptr 185 0])
   (bc (K2 m 129 120 true [.ptr 4 0,.n 64,.n 90,.n 6,.n 30,.n 2,.n 32,.n 1,.n 33,.n 1,.n 34,.n 3,.n 37,.n 1,.n 0,.n 0,.map 128,.b false])
   (bc (U3 m 128 []) (bc (U3 m 175 []) (bc (U3 m 176 []) (bc (U3 m 183 []) (bc (U3 m 184 []) (bc (U3 m 182 [(32,.slice 196 0 64 64 false),(33,.slice 275 0 64 64 false),(35,.slice 415 0 64 64 false)])
   (bc (K2 m 196 5 false (.y 3::List.replicate 63 (.y 0))) (bc (K2 m 275 5 false (.y 255:: .y 255:: .y 255:: .y 255:: .y 31::List.replicate 59 (.y 0))) (bc (K2 m 415 5 false (yl 1++yl 2))
   (bc (K2 m 179 135 true [.ptr 177 0,.n 64,.n 90,.n 6,.n 30,.n 2,.n 32,.n 1,.n 33,.n 1,.n 34,.n 3,.n 37,.n 33,.n 512,.n 32,.n 512])
   (bc (K2 m 181 137 true [.ptr 179 0,.n 64,.n 90,.n 6,.n 30,.n 2,.n 32,.n 1,.n 33,.n 1,.n 34,.n 3,.n 37,.n 32])
   (bc (K2 m 1 24 true j9) (K2 m 185 139 true [.ptr 177 0,.map 182,.map 183,.map 184]) false) false) false) false) false) false) false) false) false) false) false) false) false) false) false,m.get 0,v)
 |none=>(false,none,.undef)
noncomputable def ckL(o:Option M):Bool×Option Blk×AV:=match o with
 |some m=>ckF (arun Tryz.prog tbA 100000 8 [.agg j9] m)
 |none=>(false,none,.undef)
set_option maxRecDepth 100000 in
theorem fr3(o:Option Blk):ckL (mQ o)=(true,o,.tuple [.ptr 177 0,.ptr 181 0,.ptr 185 0]):=by kernel_rfl
set_option maxRecDepth 20000 in
theorem e7i{o:Option Blk}{m2:M}(hm:mQ o=some m2):∃m1,Wf m1∧Keep (mS o) m1 (fun _=>False)∧At m1 1 x9 true j9∧GAt m1 A2 S0 a5O∧TAt m1 181 179 A2.g∧Ran Tryz.prog tb a6W [.agg j9] m2 (.tuple [.ptr 177 0,.ptr 181 0,.ptr 185 0]) m1:=by
 have h:=fr3 o
 rw[hm] at h
 have h:ckF (arun Tryz.prog tbA 100000 8 [.agg j9] m2)=_:=h
 generalize hr:arun Tryz.prog tbA 100000 8 [.agg j9] m2=r at h
 unfold ckF at h
 split at h
 ·rename_i v m
  simp only[Prod.mk.injEq] at h
  obtain⟨h,h0,hv⟩:=h
  obtain⟨h1,h⟩:=B4 h
  obtain⟨h2,h⟩:=B4 h
  obtain⟨h3,h⟩:=B4 h
  obtain⟨h4,h⟩:=B4 h
  obtain⟨h5,h⟩:=B4 h
  obtain⟨h6,h⟩:=B4 h
  obtain⟨h7,h⟩:=B4 h
  obtain⟨h8,h⟩:=B4 h
  obtain⟨h9,h⟩:=B4 h
  obtain⟨h10,h⟩:=B4 h
  obtain⟨h11,h⟩:=B4 h
  obtain⟨h12,h⟩:=B4 h
  obtain⟨h13,h⟩:=B4 h
  obtain⟨h14,h⟩:=B4 h
  obtain⟨h15,h16⟩:=B4 h
  have b1:=a9F (t:=t32) (N9 h10) (by kernel_rfl) rfl
  have b2:=a9F (t:=t33) (N9 h11) (by kernel_rfl) rfl
  have b3:=a9F (t:=t35) (N9 h12) (by kernel_rfl) rfl
  have wf:Wf m:=f3h h1
  have hg:At m 177 131 true _:=N9 h2
  have hlt:=hg.lt wf
  refine⟨m,wf,⟨by show 1≤m.next;omega,wf,fun b hb _=> ?_⟩,N9 h15,?_,⟨N9 h14,N9 h13⟩,R0 Tryz.func8 ?_⟩
  ·have hb:b<1:=hb
   obtain rfl:b=0:=by omega
   rw[a9a,if_pos rfl,h0]
  ·exact{
    g:=hg
    o:=N9 h16
    l:=N9 h3
    lp:=a0p h4
    gf:=a0p h6
    nm:=by decide
    ow:=fun b hb=>by
     rcases hb with rfl|rfl|rfl
     ·exact b1.kd
     ·exact b2.kd
     ·exact b3.kd
    mp:=⟨rd0,fun _=>Option.none,fun _=>Option.none,f2V (a0p h9) b1 b2 b3 (.inl rfl) (.inr (.inl rfl)) (.inr (.inr rfl)),.none (a0p h7),.none (a0p h5),⟨[],a0p h8,List.nodup_nil,(fun k v e=>by cases e),fun k=>rfl⟩,fun b=>by show rd0 b=_;cases rd0 b<;>rfl,fun b hb=>rfl⟩
   }
  ·show D8 (arun Tryz.prog tbA 100000 8 [.agg j9] m2)=_
   rw[hr,hv];rfl
 ·cases h
end Go.Proofs.YtooooiidpaecmaaGreatDoor
/- Names: whether they are sound; a text is cut at its first byte 0. -/
namespace Go.Am
open Go Go.RowKit
theorem e6X(x:RO)(fr:Fr)(m:M):run (.rangeS x) fr m=a3w (.cst (ev x fr)) .leaf m:=rfl
theorem b9i(x:RO)(fr:Fr)(m:M):run (.nextS x) fr m=a1W (.cst (ev x fr)) .leaf m:=rfl
theorem b0J(x i:RO)(fr:Fr)(m:M):run (.ixS x i) fr m=Q5 (.cst (ev x fr)) (.cst (ev i fr)) .leaf m:=rfl
theorem e8a(l:List UInt8)(m:M):a3w (.cst (tv l)) .leaf m=some (.ptr m.next 0,m.new (.obj (.sit m.next ⟨l.toArray⟩ 0))):=rfl
theorem b0P{l:List UInt8}{i:Nat}{c:UInt8}(h:l[i]? =some c)(m:M):Q5 (.cst (tv l)) (.cst (iv (i:Nat))) .leaf m=some (.y c.toNat,m):=by
 show ob (a0Z (iv (i:Nat))) (fun i=>ob (toS (tv l)) fun s=>ob (s.data.toList[i]?) fun c=>some (AV.y c.toNat,m))=_
 show ob (l.toArray.toList[i]?) _=_
 rw[List.toList_toArray,h];rfl
theorem b8B{m:M}{b p:Nat}{s:ByteArray}(h:m.get b=some (.obj (.sit b s p))):m.sit b=some (b,s,p):=by
 unfold M.sit
 rw[h];rfl
theorem e9g{m:M}{b k:Nat}{l:List UInt8}{c:UInt8}(h:m.get b=some (.obj (.sit b ⟨l.toArray⟩ k)))(hk:l[k]? =some c)(hc:c.toNat≤127):
  a1W (.cst (.ptr b 0)) .leaf m=some (.tuple [.b true,iv (k:Nat),.p (.int .i32 (c.toNat:Int))],m.put b (.obj (.sit b ⟨l.toArray⟩ (k+1)))):=by
 show bc (Nat.beq 0 0) (ob (m.sit b) fun q=>bc (Nat.beq q.1 b) (match q.2.1.data.toList[q.2.2]? with
  |none=>some (AV.tuple [.b false],m)
  |some c=>bc (Nat.ble c.toNat 127) (some (.tuple [.b true,.n q.2.2,.p (.int .i32 (Int.ofNat c.toNat))],m.put b (.obj (.sit b q.2.1 (Nat.succ q.2.2))))) none) none) none=_
 rw[b8B h]
 show bc (Nat.beq b b) (match l.toArray.toList[k]? with
  |none=>some (AV.tuple [.b false],m)
  |some c=>bc (Nat.ble c.toNat 127) (some (.tuple [.b true,.n k,.p (.int .i32 (Int.ofNat c.toNat))],m.put b (.obj (.sit b ⟨l.toArray⟩ (Nat.succ k))))) none) none=_
 rw[Nat.beq_refl,l7,List.toList_toArray,hk]
 show bc (Nat.ble c.toNat 127) _ none=_
 rw[v8,decide_eq_true hc];rfl
theorem e4V{m:M}{b k:Nat}{l:List UInt8}(h:m.get b=some (.obj (.sit b ⟨l.toArray⟩ k)))(hk:l.length≤k):
  a1W (.cst (.ptr b 0)) .leaf m=some (.tuple [.b false],m):=by
 show bc (Nat.beq 0 0) (ob (m.sit b) fun q=>bc (Nat.beq q.1 b) (match q.2.1.data.toList[q.2.2]? with
  |none=>some (AV.tuple [.b false],m)
  |some c=>bc (Nat.ble c.toNat 127) (some (.tuple [.b true,.n q.2.2,.p (.int .i32 (Int.ofNat c.toNat))],m.put b (.obj (.sit b q.2.1 (Nat.succ q.2.2))))) none) none) none=_
 rw[b8B h]
 show bc (Nat.beq b b) (match l.toArray.toList[k]? with
  |none=>some (AV.tuple [.b false],m)
  |some c=>bc (Nat.ble c.toNat 127) (some (.tuple [.b true,.n k,.p (.int .i32 (Int.ofNat c.toNat))],m.put b (.obj (.sit b ⟨l.toArray⟩ (Nat.succ k))))) none) none=_
 rw[Nat.beq_refl,l7,List.toList_toArray,List.getElem?_eq_none hk]
end Go.Am
namespace Go.Proofs.YtooooiidpaecmaaGreatDoor
open Go Go.Am
def Low(s:Bs):Prop:=1≤s.length∧s.length≤13∧∀c∈s,97≤c.toNat∧c.toNat≤122
section
variable {m:M}
theorem f1j(t:TypeId)(a b:Int):d8 Tryz.prog .geq t (.p (.int .i32 a)) (.p (.int .i32 b))=some (.b (decide (b≤a))):=rfl
theorem f0Q(t:TypeId)(a b:Int):d8 Tryz.prog .leq t (.p (.int .i32 a)) (.p (.int .i32 b))=some (.b (decide (a≤b))):=rfl
theorem f4Z:d8 Tryz.prog .eql b9g (.b false) (.b true)=some (.b false):=by kernel_rfl
theorem e9v{c:Nat}(h1:97≤c)(h2:c≤122):Ran Tryz.prog tb V7 [.p (.int .i32 (c:Int))] m (.b false) m:=by
 refine WpF.go f3S ?_
 simp-implicitDefEqProofs only[f4q,d6g,d9r,f1j,f0Q,show((97:Int)≤(c:Int))=True from eq_true (by omega),show((c:Int)≤122)=True from eq_true (by omega),↓reduceIte,Nat.reduceEqDiff,wA,wB,wC,wD]
theorem e9f(hw:Wf m){s:Bs}(hs:∀c∈s,97≤c.toNat∧c.toNat≤122):∃m',Keep m m' (fun _=>False)∧Ran Tryz.prog tb a5c [tv s,.func V7 [],.b true] m (iv (-1)) m':=by
 have key:WpF Tryz.prog tb a5c [tv s,.func V7 [],.b true] m fun v m'=>v=iv (-1)∧Keep m m' fun _=>False:=by
  refine WpF.go f4f ?_
  simp-implicitDefEqProofs only[b1a,d8d,d3G,e6X,e8a,↓reduceIte,Nat.reduceEqDiff,Nat.reduceAdd,wA,wB,wC,wD]
  refine A5 (fun j fr mk=>∃k,k≤s.length∧j=s.length-k∧(ev (tm 1) fr= .func V7 []∧ev (tm 2) fr= .b true∧ev (tm 10) fr= .ptr m.next 0)∧mk.get m.next=some (.obj (.sit m.next ⟨s.toArray⟩ k))∧Keep m mk fun _=>False) (k:=s.length) ⟨0,Nat.zero_le _,rfl,by simp-implicitDefEqProofs only[d6,↓reduceIte,Nat.reduceEqDiff,and_self],by rw[M.get_new,if_pos rfl],Keep.new hw⟩ ?_
  rintro j fr mk ⟨k,hk,rfl,⟨f1,f2,f10⟩,hg,kk⟩
  by_cases hlt:k<s.length
  ·have hv:s[k]? =some s[k] :=List.getElem?_eq_getElem hlt
   have hin:=hs _ (List.getElem_mem hlt)
   generalize s[k] =c at hv hin
   simp-implicitDefEqProofs only[b1a,a9q,d4p,c75,b9i,f10,e9g hg hv (by omega),f1,f2,(e9v (m:=mk.put m.next (.obj (.sit m.next ⟨s.toArray⟩ (k+1)))) hin.1 hin.2).eq,f4Z,↓reduceIte,Nat.reduceEqDiff,List.getElem?_cons_succ,List.getElem?_cons_zero,wA,wB,wC,wD]
   have hlt2:m.next<mk.next:=by
    rcases Nat.lt_or_ge m.next mk.next with h|h
    ·exact h
    ·rw[kk.wf _ h] at hg;cases hg
   refine C6 (k':=s.length-(k+1)) (by omega) ⟨k+1,by omega,rfl,by simp-implicitDefEqProofs only[f1,f2,f10,d6,↓reduceIte,Nat.reduceEqDiff,and_self],by rw[M.get_put,if_pos rfl],kk.trans (Keep.put (F:=fun b=>b=m.next) kk.wf hlt2 rfl) fun b hb e=>by omega⟩
  ·have hke:k=s.length:=by omega
   subst hke
   simp-implicitDefEqProofs only[b1a,a9q,d6D,b9i,f10,e4V hg (Nat.le_refl _),↓reduceIte,List.getElem?_cons_zero,wA,wB,wC,wD]
   exact kk
 obtain⟨v,m',⟨rfl,k⟩,r⟩:=key.ran
 exact⟨m',k,r⟩
theorem a7w(hw:Wf m){s:Bs}(hs:Low s):∃m',Keep m m' (fun _=>False)∧Ran Tryz.prog tb a2t [tv s] m (iv 0) m':=by
 obtain⟨h1,h2,h3⟩:=hs
 obtain⟨m',k,r⟩:=e9f hw h3
 have r2:Ran Tryz.prog tb b0I [tv s,.func V7 []] m (iv (-1)) m':=by
  refine WpF.go f4d ?_
  simp-implicitDefEqProofs only[f5b,c9J,d4w,r.eq,↓reduceIte,Nat.reduceEqDiff,Nat.reduceAdd,wA,wB,wC,wD]
 have r3:Ran Tryz.prog tb b0X [tv s,.func V7 []] m (.b false) m':=by
  refine WpF.go f2T ?_
  simp-implicitDefEqProofs only[f4u,d9k,d2t,r2.eq,show((0:Int)≤-1)=False from eq_false (by omega),↓reduceIte,Nat.reduceEqDiff,Nat.reduceAdd,wA,wB,wC,wD]
 have e0:¬s= [] :=fun e=>by rw[e] at h1;exact absurd h1 (by decide)
 have e1:¬s= [46] :=fun e=>by subst e;exact absurd (h3 46 (by simp)).1 (by decide)
 have e2:¬s= [46,46] :=fun e=>by subst e;exact absurd (h3 46 (by simp)).1 (by decide)
 refine⟨m',k,?_⟩
 refine WpF.go f4c ?_
 simp-implicitDefEqProofs only[f4H,c7z,c6B,d5M,c8D,r3.eq,decide_eq_false e0,decide_eq_false e1,decide_eq_false e2,show((13:Int)<(s.length:Int))=False from eq_false (by omega),↓reduceIte,Nat.reduceEqDiff,wA,wB,wC,wD]
end
theorem b6n:∀{s:List UInt8} (k:Nat),(∀c∈s,c.toNat≠0)→C1 s 0 k=none
 | [],k,h=>rfl
 |c::s,k,h=>by
  unfold C1
  have h0:=h c (by simp)
  rw[y4,decide_eq_false h0]
  exact b6n _ fun c hc=>h c (List.mem_cons_of_mem _ hc)
theorem b61:∀{s:List UInt8} (k:Nat) (r:List UInt8),(∀c∈s,c.toNat≠0)→C1 (s++0::r) 0 k=some (k+s.length)
 | [],k,r,h=>rfl
 |c::s,k,r,h=>by
  show C1 (c::(s++0::r)) 0 k=_
  unfold C1
  have h0:=h c (by simp)
  rw[y4,decide_eq_false h0]
  show C1 (s++0::r) 0 (k+1)=_
  rw[b61 (k+1) r fun c hc=>h c (List.mem_cons_of_mem _ hc),List.length_cons]
  congr 1
  omega
section
variable {m:M}
theorem e9X(l:Bs):Ran Tryz.prog tb b1i [tv l,.y 0] m (Option.rec (motive:=fun _=>AV) (iv (-1)) (fun i=>iv (i:Nat)) (C1 l 0 0)) m:=by
 refine e8H (fn:=Tryz.f217) (by rw[i6];exact X7 Tryz.func217) rfl rfl ?_ ⟨rfl,rfl⟩
 have e:Tryz.f217.name=I3:=by kernel_rfl
 rw[e]
 show bc (decide (I3=I3)&&Nat.ble 0 255) (ob (toS (tv l)) fun s=>some (Option.rec (motive:=fun _=>AV) (.p (.int .i64 (-1))) (fun i=> .n i) (C1 s.data.toList 0 0),m)) (bc (decide (I3=a0m)&&Nat.ble 0 255) (ob (toS (tv l)) fun s=>some (AV.n (Y8 s.data.toList 0 0),m)) none)=_
 rw[decide_eq_true (rfl:I3=I3)]
 show some (Option.rec (motive:=fun _=>AV) (.p (.int .i64 (-1))) (fun i=> .n i) (C1 l.toArray.toList 0 0),m)=_
 rw[List.toList_toArray];rfl
theorem b5o{l:Bs}{r:Option Nat}(h:C1 l 0 0=r)(h1:l≠[0]):Ran Tryz.prog tb a2i [tv l,tv [0]] m (Option.rec (motive:=fun _=>AV) (iv (-1)) (fun i=>iv (i:Nat)) r) m:=by
 subst h
 have r1:Ran Tryz.prog tb a4Y [tv l,.y 0] m (Option.rec (motive:=fun _=>AV) (iv (-1)) (fun i=>iv (i:Nat)) (C1 l 0 0)) m:=by
  refine WpF.go f3J ?_
  simp-implicitDefEqProofs only[f4L,c79,d6o,(e9X l).eq,↓reduceIte,Nat.reduceEqDiff,Nat.reduceAdd,wA,wB,wC,wD]
 have hc:A8 (Option.rec (motive:=fun _=>AV) (iv (-1)) (fun i=>iv (i:Nat)) (C1 l 0 0))=some [Option.rec (motive:=fun _=>AV) (iv (-1)) (fun i=>iv (i:Nat)) (C1 l 0 0)] :=by
  generalize C1 l 0 0=r
  cases r<;>rfl
 generalize Option.rec (motive:=fun _=>AV) (iv (-1)) (fun i=>iv (i:Nat)) (C1 l 0 0)=v at r1 hc⊢
 have e0:¬([0] :Bs)=l:=fun e=>h1 e.symm
 have hx:=b0P (l:= [0]) (i:=0) (c:=0) rfl m
 have hx:Q5 (.cst (tv [0])) (.cst (iv 0)) .leaf m=some (.y 0,m):=hx
 refine WpF.go f3Q ?_
 simp-implicitDefEqProofs only[f47,c8j,c6v,c9i,d7D,c6V,b0J,hx,decide_eq_false e0,show((((0+1:Nat):Int)=0))=False from eq_false (by omega),show((((0+1:Nat):Int)=1))=True from eq_true (by omega),r1.eq,↓reduceIte,Nat.reduceEqDiff,Nat.reduceAdd,wA,wB,wC,wD]
theorem f3Y:d8 Tryz.prog .eql j6 (.y 0) (.y 0)=some (.b true):=by kernel_rfl
theorem f3C:d8 Tryz.prog .lss j6 (.y 0) (.y 128)=some (.b true):=by kernel_rfl
theorem trimL_ran:Ran Tryz.prog tb b0U [tv [],.y 0] m (tv []) m:=by
 refine WpF.go f3P ?_
 simp-implicitDefEqProofs only[e1q,d64,Nat.reduceAdd,wA,wB,wC,wD]
 refine A5 (fun j fr mk=>j=0∧ev (tm 0) fr=tv []∧mk=m) (k:=0) ⟨rfl,by simp-implicitDefEqProofs only[d6,↓reduceIte,Nat.reduceEqDiff],rfl⟩ ?_
 rintro j fr mk ⟨rfl,f0,rfl⟩
 simp-implicitDefEqProofs only[e1q,c7m,d1o,f0,show((0:Int)<0)=False from eq_false (by omega),↓reduceIte,Nat.reduceEqDiff,wA,wB,wC,wD]
theorem e6G(n:Nat)(hn:n≤1000):Ran Tryz.prog tb b0c [tv (List.replicate n 0),.y 0] m (tv []) m:=by
 refine WpF.go f3u ?_
 simp-implicitDefEqProofs only[b03,d7P,Nat.reduceAdd,wA,wB,wC,wD]
 refine A5 (fun j fr mk=>j≤n∧(ev (tm 0) fr=tv (List.replicate j 0)∧ev (tm 1) fr= .y 0)∧mk=m) (k:=n) ⟨Nat.le_refl _,by simp-implicitDefEqProofs only[d6,↓reduceIte,Nat.reduceEqDiff,and_self],rfl⟩ ?_
 rintro j fr mk ⟨hj,⟨f0,f1⟩,rfl⟩
 by_cases h0:j=0
 ·subst h0
  have e:(List.replicate 0 0:Bs)= [] :=rfl
  rw[e] at f0
  simp-implicitDefEqProofs only[b03,a93,d6K,f0,show((0:Int)<0)=False from eq_false (by omega),↓reduceIte,Nat.reduceEqDiff,wA,wB,wC,wD]
 ·obtain⟨i,rfl⟩:∃i,j=i+1:=⟨j-1,by omega⟩
  have hx:=b0P (l:=List.replicate (i+1) 0) (i:=i) (c:=0) (by rw[List.getElem?_replicate,if_pos (by omega)]) mk
  have hx:Q5 (.cst (tv (List.replicate (i+1) 0))) (.cst (iv (i:Nat))) .leaf mk=some (.y 0,mk):=hx
  have hs:=b6l (m:=mk) (List.replicate (i+1) (0:UInt8)) (b:=i) (by rw[List.length_replicate];omega)
  rw[List.take_replicate,show min i (i+1)=i by omega] at hs
  have hsub:((i+1:Nat):Int)-1=(i:Int):=by omega
  simp-implicitDefEqProofs only[b03,a93,d1A,f0,f1,List.length_replicate,show((0:Int)<((i+1:Nat):Int))=True from eq_true (by omega),sB ((i+1:Nat):Int) 1,hsub,b0J,hx,f3Y,hs,↓reduceIte,Nat.reduceEqDiff,wA,wB,wC,wD]
  exact C6 (k':=i) (by omega) ⟨by omega,by simp-implicitDefEqProofs only[f1,d6,↓reduceIte,Nat.reduceEqDiff,and_self],rfl⟩
theorem e65(n:Nat)(hn:n≤1000):Ran Tryz.prog tb b0j [tv (List.replicate n 0),tv [0]] m (tv []) m:=by
 have hx:Q5 (.cst (tv [0])) (.cst (iv 0)) .leaf m=some (.y 0,m):=b0P (l:= [0]) (i:=0) (c:=0) rfl m
 refine WpF.go f2W ?_
 by_cases h0:n=0
 ·subst h0
  have e:(List.replicate 0 0:Bs)= [] :=rfl
  rw[e]
  simp-implicitDefEqProofs only[e1L,a8F,a8u,d8H,↓reduceIte,Nat.reduceEqDiff,Nat.reduceAdd,wA,wB,wC,wD]
 ·have e:¬(List.replicate n 0:Bs)= [] :=fun e=>h0 (by have:=congrArg List.length e;simpa using this)
  have e1:¬([0] :Bs)= [] :=by decide
  simp-implicitDefEqProofs only[e1L,a8F,a8u,d6i,d6S,decide_eq_false e,decide_eq_false e1,show((((0+1:Nat):Int)=1))=True from eq_true (by omega),b0J,hx,f3C,(e6G n hn).eq,trimL_ran.eq,↓reduceIte,Nat.reduceEqDiff,Nat.reduceAdd,exists_eq_left',wA,wB,wC,wD]
theorem e7j{b off n cap:Nat}{lim:Bool}{l s:Bs}{z:Nat}(h:BsAt m (.slice b off n cap lim) l b)(hn:n=l.length)(hcap:n≤cap)(hl:15≤n)(hl2:n≤1000)(he:(l.drop 2).take 13=s++List.replicate z 0)(hs:∀c∈s,c.toNat≠0):
  Ran Tryz.prog tb b0x [.slice b off n cap lim,iv 2,iv 13] m (.tuple [tv s,iv 0]) m:=by
 have hsz:s.length+z=13:=by
  have:=congrArg List.length he
  rw[List.length_take,List.length_drop,List.length_append,List.length_replicate] at this
  omega
 have hp:Ran Tryz.prog tb a2r [.slice b off n cap lim,iv 2,iv 13] m (.tuple [.slice b (off+2) 13 (cap-2) lim,.b true]) m:=b6Y (at':=2) (n:=13) (by omega) (by omega) hcap (by omega)
 have hspan:Ran Tryz.prog tb b0e [.slice b off n cap lim,iv 2,iv 13] m (.tuple [.slice b (off+2) 13 (cap-2) lim,iv 0]) m:=by
  refine WpF.go f3k ?_
  simp-implicitDefEqProofs only[f4M,d6u,c9D,d1z,d2g,d10,show((13:Int)<0)=False from eq_false (by omega),hp.eq,↓reduceIte,Nat.reduceEqDiff,Nat.reduceAdd,List.getElem?_cons_succ,List.getElem?_cons_zero,wA,wB,wC,wD]
 have hb:=BsAt.sub (cap':=cap-2) (lim':=lim) h (at':=2) (w:=13) (by omega)
 rw[he] at hb
 have hb2:=hb.run_b2s
 have hcut:Ran Tryz.prog tb b0O [tv (s++List.replicate z 0),tv [0]] m (.tuple [tv s,tv (List.replicate (z-1) 0),.b (decide (0<z))]) m:=by
  have hne:s++List.replicate z 0≠[0] :=fun e=>by
   have:=congrArg List.length e
   rw[List.length_append,List.length_replicate,hsz] at this
   exact absurd this (by decide)
  by_cases h0:z=0
  ·subst h0
   have e:s++List.replicate 0 0=s:=List.append_nil s
   rw[e] at hne⊢
   have ri:Ran Tryz.prog tb a2i [tv s,tv [0]] m (iv (-1)) m:=b5o (b6n 0 hs) hne
   refine WpF.go d9K ?_
   simp-implicitDefEqProofs only[e09,a8B,a88,a8O,d0v,ri.eq,show((0:Int)≤-1)=False from eq_false (by omega),↓reduceIte,Nat.reduceEqDiff,Nat.reduceAdd,Nat.reduceSub,wA,wB,wC,wD]
   exact rfl
  ·obtain⟨y,rfl⟩:∃y,z=y+1:=⟨z-1,by omega⟩
   have ri:Ran Tryz.prog tb a2i [tv (s++List.replicate (y+1) 0),tv [0]] m (iv ((0+s.length:Nat))) m:=b5o (b61 0 (List.replicate y 0) hs) hne
   rw[Nat.zero_add] at ri
   have q1:=b6l (m:=m) (s++List.replicate (y+1) (0:UInt8)) (b:=s.length) (by rw[List.length_append];omega)
   rw[List.take_left] at q1
   have q2:=e68 (m:=m) (s++List.replicate (y+1) (0:UInt8)) (a:=s.length+1) (by rw[List.length_append,List.length_replicate];omega)
   have e2:(s++List.replicate (y+1) (0:UInt8)).drop (s.length+1)=List.replicate y 0:=by
    rw[List.drop_append,List.drop_eq_nil_of_le (by omega),List.nil_append,show s.length+1-s.length=1 by omega,List.drop_replicate];rfl
   rw[e2] at q2
   have hC:((s.length:Nat):Int)+((0+1:Nat):Int)=((s.length+1:Nat):Int):=rfl
   have e3:decide (0<y+1)=true:=decide_eq_true (by omega)
   rw[e3,show y+1-1=y by omega]
   refine WpF.go d9K ?_
   simp-implicitDefEqProofs only[e09,a8B,a88,a8O,c7g,ri.eq,show((0:Int)≤(s.length:Int))=True from eq_true (by omega),q1,show((1:Nat):Int)=(1:Int) from rfl,aD (s.length:Int) 1,show((s.length:Nat):Int)+1=((s.length+1:Nat):Int) from rfl,q2,↓reduceIte,Nat.reduceEqDiff,Nat.reduceAdd,exists_eq_left',wA,wB,wC,wD]
 have hcut2:Ran Tryz.prog tb b0f [tv (s++List.replicate z 0),tv [0]] m (.tuple [tv s,tv (List.replicate (z-1) 0),.b (decide (0<z))]) m:=by
  refine WpF.go f2U ?_
  simp-implicitDefEqProofs only[f4C,c9C,d0z,hcut.eq,↓reduceIte,Nat.reduceEqDiff,Nat.reduceAdd,List.getElem?_cons_succ,List.getElem?_cons_zero,wA,wB,wC,wD]
 refine WpF.go f38 ?_
 simp-implicitDefEqProofs only[f4U,d7n,c8g,d0i,c6s,d3m,d8a,hspan.eq,hb2,hcut2.eq,(e65 (m:=m) (z-1) (by omega)).eq,↓reduceIte,Nat.reduceEqDiff,Nat.reduceAdd,List.getElem?_cons_succ,List.getElem?_cons_zero,wA,wB,wC,wD]
end
def ent(e:Nat×Bs):Bs:=(le 2 e.1++e.2)++List.replicate (16-(le 2 e.1++e.2).length) 0
structure EOk(e:Nat×Bs):Prop where
 i1:1≤e.1
 i2:e.1≤65535
 nm:Low e.2
theorem a1L{e:Nat×Bs}(h:EOk e):(ent e).length=16:=by
 have:=h.nm.2.1
 unfold ent
 simp only[List.length_append,List.length_replicate,s8]
 omega
theorem e8Q{e:Nat×Bs}(h:EOk e):((ent e).drop 2).take 13=e.2++List.replicate (13-e.2.length) 0:=by
 have hl:=h.nm.2.1
 have h2:(le 2 e.1).length=2:=s8 2 e.1
 have e1:(ent e).drop 2=e.2++List.replicate (14-e.2.length) 0:=by
  unfold ent
  rw[List.append_assoc,List.drop_append,List.drop_of_length_le (by omega),List.nil_append,h2,List.length_append,h2]
  show List.drop 0 _=_
  rw[List.drop_zero,show 16-(2+e.2.length)=14-e.2.length by omega]
 rw[e1,List.take_append,List.take_of_length_le (by omega),List.take_replicate,show min (13-e.2.length) (14-e.2.length)=13-e.2.length by omega]
theorem f1a{v:Nat}(h:v≤65535):ge (le 2 v)=v:=by
 have e:le 2 v= [UInt8.ofNat (v/2^(8*0)),UInt8.ofNat (v/2^(8*1))] :=rfl
 rw[e]
 show(UInt8.ofNat (v/1)).toNat+256*((UInt8.ofNat (v/256)).toNat+256*0)=v
 rw[UInt8.toNat_ofNat',UInt8.toNat_ofNat']
 omega
theorem e8l{e:Nat×Bs}(h:EOk e):ge (((ent e).drop 0).take 2)=e.1:=by
 have h2:(le 2 e.1).length=2:=s8 2 e.1
 have e1:((ent e).drop 0).take 2=le 2 e.1:=by
  unfold ent
  rw[List.drop_zero,List.append_assoc,List.take_append_of_le_length (by omega),List.take_of_length_le (by omega)]
 rw[e1,f1a h.i2]
section
variable {m0 m:M}
theorem WrAt.app{c:Nat}{bs s:Bs}(h:WrAt m0 m c bs)(hr:bs.length+s.length≤100000):∃x s3 m3 m4,m.rd c 0=some x∧t8 40 x x=true∧a0g j6 1 1 [.y 0] (.cst x) (.cst (tv s)) .leaf m=some (s3,m3)∧A8 s3=some [s3]∧m3.wr c 0 [s3] =some m4∧WrAt m0 m4 c (bs++s)∧B6 m m4 [uB,wrK] :=by
 obtain⟨x,o,h1,h2,h3⟩:=h.ex
 have hw:=h.kp.wf
 obtain⟨s3,m3,o3,e3,hS3,k3,ho3⟩:=h2.append (bytes:=1) (z:= [.y 0]) hw (c9S m s) (a0v (by omega) (by omega))
 have hoc:¬o=some c:=fun e=>by
  rw[e] at h2
  exact absurd (h2.kd.inj h1.kd) (by decide)
 have hA3:=h1.keep hw k3 hoc
 obtain⟨m4,e4,hA4,k4,n4⟩:=hA3.st k3.wf 0 [s3]
 have hlt3:∀b,o3=some b→b≠c∧m0.next≤b:=fun b hb=>by
  refine⟨fun e=> ?_,?_⟩
  ·subst e
   rw[hb] at hS3
   exact absurd (hS3.kd.inj hA3.kd) (by decide)
  ·rcases ho3 with e|⟨b',e,h5,_⟩
   ·exact h3 b (e▸hb)
   ·rw[e] at hb
    cases hb
    have:=h.kp.next
    omega
 refine⟨x,s3,m3,m4,by rw[h1.rd];rfl,h2.aq,e3,hS3.cl,e4,⟨((h.kp.trans k3 fun b hb e=>absurd (h3 b e) (by omega)).trans k4 fun b hb e=>absurd h.lo (by omega)),h.lo,s3,o3,hA4,?_,fun b hb=>(hlt3 b hb).2⟩,?_⟩
 ·rw[Q7,List.length_append]
  exact hS3.keep k3.wf k4 fun b hb e=>(hlt3 b hb).1 e
 ·refine(k3.mono (G:=fun b=>o=some b∨b=c) fun _ _ h=> .inl h).trans k4 (fun b hb e=> .inr e)|>.mono fun b hb e=> ?_
  rcases e with e|e
  ·rw[e] at h2;exact .inl ⟨uB,by simp,h2.kd⟩
  ·subst e;exact .inl ⟨wrK,by simp,h1.kd⟩
set_option maxRecDepth 20000 in
theorem b5a(hw:Wf m){e:Nat×Bs}(he:EOk e):∃m' x b,RowB m' x (ent e) b∧Keep m m' (fun _=>False)∧m.next≤b∧Ran Tryz.prog tb a5l [.agg [ivn e.1,tv e.2]] m (.tuple [x,iv 0]) m':=by
 have h1:=he.i1
 have h2:=he.i2
 have h3:=he.nm.2.1
 obtain⟨m1,e1,a1,k1,n1⟩:=l8 hw o7 2 [ivn e.1,tv e.2]
 obtain⟨m2,k2,r2⟩:=a7w k1.wf he.nm
 have k02:=k1.tf k2
 obtain⟨m3,e3,a3,k3,n3⟩:=l8 k2.wf a0h 2 [i7,iv 0]
 have k03:=k02.tf k3
 have hn2:=k02.next
 have w3:WrAt m m3 m2.next [] :=⟨k03,hn2,i7,none,a3,.nil,fun b hb=>by cases hb⟩
 obtain⟨m4,w4,k4,r4⟩:=cwn w3 (by show 0≤100000;omega) (w:=2) (v:=e.1) (by omega) (by show e.1<65536;omega)
 have b1:=(a1.keep k1.wf k2 id)
 have b3:=b1.keep k2.wf k3 id
 have b4:=b3.kp k03.wf k4
 rw[List.nil_append] at w4
 obtain⟨x,s5,m5,m6,q5,x5,e5,c5,e6,w6,k6⟩:=w4.app (s:=e.2) (by rw[s8];omega)
 obtain⟨m7,s7,b7,R7,k7,hb7,r7⟩:=whole w6 (n:=16) (by omega) (by rw[List.length_append,s8];omega) (by omega)
 refine⟨m7,s7,b7,R7,k7,hb7,?_⟩
 have q2:((2:Nat):Int)=2:=rfl
 have q16:((16:Nat):Int)=16:=rfl
 rw[q2] at r4
 rw[q16] at r7
 have hne:¬(e.1:Int)=0:=by omega
 refine WpF.go f26 ?_
 simp-implicitDefEqProofs only[f5i,c50,d0G,d1X,d8h,d1Q,d4G,c8Y,e1,a1.rd,decide_eq_false hne,r2.eq,e3,b3.rd,r4.eq,q5,x5,b4.rd,e5,c5,e6,r7.eq,↓reduceIte,Nat.reduceEqDiff,Nat.reduceAdd,List.getElem?_cons_succ,List.getElem?_cons_zero,exists_eq_left',wA,wB,wC,wD]
theorem e5P{s1 s2:AV}{t:Bs}{b1 b2:Nat}{X:List AV}(hw:Wf m)(hX:X.length=2)(h1:BsAt m s1 t b1)(h2:BsAt m s2 t b2):
  ∃m',Keep m m' (fun _=>False)∧Ran Tryz.prog tb b0d [.agg X,s1,s2,iv 0] m (.tuple [.agg X,iv 0]) m':=by
 obtain⟨m1,e1,a1,k1,n1⟩:=l8 hw o7 2 X hX.symm
 obtain⟨m2,e2,a2,k2,n2⟩:=A4 k1.wf o7 2 [iv 0,tv []]
 have k02:=k1.tf k2
 have rb:=c3I (h1.keep hw k02 fun h=>h) (h2.keep hw k02 fun h=>h)
 rw[decide_eq_true rfl] at rb
 have a12:=a1.keep k1.wf k2 fun h=>h
 have q1:m2.rdN m.next 0 2=some X:=by rw[a12.rdN (by omega),List.drop_zero,List.take_of_length_le (by omega)]
 obtain⟨m3,e3,a3,k3,n3⟩:=a2.st k2.wf 0 X (l':=X) (by unfold u9;rw[List.take_zero,List.nil_append,List.drop_of_length_le (by simp[hX]),List.append_nil]) (by rw[hX];exact Nat.le_refl _)
 have q3:m3.rdN m1.next 0 2=some X:=by rw[a3.rdN (by omega),List.drop_zero,List.take_of_length_le (by omega)]
 refine⟨m3,k02.trans k3 fun b hb e=>by omega,?_⟩
 refine WpF.go f3q ?_
 simp-implicitDefEqProofs only[f4Q,c6o,c72,d8c,e1,e2,rb.eq,q1,hX,e3,↓reduceIte,Nat.reduceEqDiff,Nat.reduceAdd,wA,wB,wC,wD]
 rw[a1q (b:=m1.next) (off:=0) (n:=2) (l:=X) (by kernel_rfl) (by kernel_rfl) (by simp-implicitDefEqProofs only[d6,↓reduceIte,Nat.reduceEqDiff]) q3]
 simp-implicitDefEqProofs only[d6,↓reduceIte,and_self]
set_option maxRecDepth 20000 in
theorem e4G(hw:Wf m){e:Nat×Bs}(he:EOk e){b off cap:Nat}{lim:Bool}(h:BsAt m (.slice b off 16 cap lim) (ent e) b)(hcap:16≤cap):
  ∃m',Keep m m' (fun _=>False)∧Ran Tryz.prog tb b0u [.slice b off 16 cap lim] m (.tuple [.agg [ivn e.1,tv e.2],iv 0]) m':=by
 have hl:=a1L he
 have hb0:=h.lt hw
 obtain⟨m1,e1,a1,k1,n1⟩:=A4 hw o7 2 [iv 0,tv []]
 have r1:=e7j (h.keep hw k1 id) hl.symm hcap (by omega) (by omega) (e8Q he) fun c hc=>by have:=(he.nm.2.2 c hc).1;omega
 obtain⟨m2,e2,a2,k2,n2⟩:=l8 k1.wf H2 2 [.slice b off 16 cap lim,iv ((0:Nat):Int)]
 have k02:=k1.tf k2
 obtain⟨m3,a3,k3,r3⟩:=crn (at':=0) (w:=2) k2.wf a2 (h.keep hw k02 id) hl.symm hcap (by omega) (by omega) (by omega)
 rw[e8l he] at r3
 have k03:Keep m m3 fun _=>False:=k02.trans k3 fun b hb e=>by omega
 obtain⟨m4,e4,a4,k4,n4⟩:=A4 k03.wf o7 2 [iv 0,tv []]
 obtain⟨m5,e5,a5,k5,n5⟩:=a4.st k4.wf 0 [ivn e.1,tv e.2] (l':= [ivn e.1,tv e.2])
 have hn3:=k03.next
 have k05:Keep m m5 fun _=>False:=(k03.tf k4).trans k5 fun b hb e=>by omega
 obtain⟨m6,s6,b6,R6,k6,hb6,r6⟩:=b5a k05.wf he
 have k06:=k05.tf k6
 have a6:=a5.keep k05.wf k6 id
 obtain⟨m7,k7,r7⟩:=e5P (X:= [ivn e.1,tv e.2]) k06.wf rfl (h.keep hw k06 id) R6.bs
 have hq3:m1.next≤m3.next:=by have:=k2.next;have:=k3.next;omega
 have k17:Keep m1 m7 fun _=>False:=by
  have t1:Keep m1 m5 fun _=>False:=((k2.trans k3 fun b hb e=>by omega).tf k4).trans k5 fun b hb e=>by omega
  exact(t1.tf k6).tf k7
 obtain⟨m8,e8,a8,k8,n8⟩:=(a1.keep k1.wf k17 id).st k17.wf 0 [ivn e.1,tv e.2] (l':= [ivn e.1,tv e.2])
 have L5:m5.rdN m3.next 0 2=some [ivn e.1,tv e.2] :=a5.rdN (by show 0+2≤2;omega)
 have L6:m6.rdN m3.next 0 2=some [ivn e.1,tv e.2] :=a6.rdN (by show 0+2≤2;omega)
 have L8:m8.rdN m.next 0 2=some [ivn e.1,tv e.2] :=a8.rdN (by show 0+2≤2;omega)
 refine⟨m8,(k1.tf k17).trans k8 fun b hb e=>by omega,?_⟩
 have q2:((2:Nat):Int)=2:=rfl
 have q16:((16:Nat):Int)=16:=rfl
 rw[q2] at r3
 rw[nc0] at e2
 refine WpF.go f4e ?_
 simp-implicitDefEqProofs only[f5l,d0M,d7X,c7Y,c8c,d8n,c90,c8Q,c7C,e1,q16,r1.eq,e2,r3.eq,e4,e5,L5,r6.eq,L6,r7.eq,e8,↓reduceIte,Nat.reduceEqDiff,Nat.reduceAdd,Nat.reduceLeDiff,List.getElem?_cons_succ,List.getElem?_cons_zero,wA,wB,wC,wD]
 rw[a1q (b:=m.next) (off:=0) (n:=2) (l:= [ivn e.1,tv e.2]) (by kernel_rfl) (by kernel_rfl) (by simp-implicitDefEqProofs only[d6,↓reduceIte,Nat.reduceEqDiff]) L8]
 simp-implicitDefEqProofs only[d6,↓reduceIte,and_self]
end
end Go.Proofs.YtooooiidpaecmaaGreatDoor
