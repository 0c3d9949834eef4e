import Derived.Test.YtooooiidpaecmaaGreatDoorFe
import Derived.Test.YtooooiidpaecmaaGreatDoorPm
set_option linter.unusedVariables false
set_option linter.unusedSimpArgs false
/- file.Write, a piece. -/
namespace Go.Proofs.YtooooiidpaecmaaGreatDoor
open Go Go.Am
theorem Step.obj{m m' m'':M}{A:Ad}{S T:PS}{a7J own own':Nat→Prop}(hw:Wf m)(h:GAt m A S a7J)(st:Step m m' A T own own'){l:Nat}(hl:m.next≤l)(hk:kd m' l 0)(k:Keep m' m'' fun b=>b=l):Step m m'' A T own own':=by
 have hm:∀b∈[A.gl,A.gf,A.ol,A.od,A.of,A.lp],b<m.next:=fun b hb=>(h.kdm b hb).lt hw
 refine⟨st.at'.keep st.kp.wf k (st.at'.g.kd.ne hk) (st.at'.o.kd.ne hk) (st.at'.l.kd.ne hk) (fun b hb e=> ?_) (fun b hb e=> ?_),st.ow,st.kp.trans k fun b hb e=>by omega⟩
 ·have:=hm b hb;omega
 ·exact absurd ((e▸st.at'.ow b hb:kd m' l (l3+1)).inj hk) (by decide)
structure WBx(m:M)(A:Ad)(tt i at' B C c:Nat)(s:AV)(x:Ino):Prop where
 b6:At m B G4 true [.ptr A.o 0]
 b7:At m (B+1) G3 true [.ptr tt 0]
 b8:At m (B+2) v7 true i5
 b9:At m (B+3) d5 true [iv i]
 b10:At m (B+4) d5 true [iv at']
 b11:At m (B+5) C7 true [s]
 b12:At m (B+6) j8 true [iv 0]
 b15:At m C a2n true [.ptr c 0]
 co:At m c W9 true (coL A tt i i5 x)
section
variable {m m':M} {A:Ad} {tt i at' B C c:Nat} {s:AV} {x:Ino}
theorem WBx.keep(h:WBx m A tt i at' B C c s x)(hw:Wf m){F:Nat→Prop}(k:Keep m m' F)(hF:∀b,F b→∀j,kd m b j→j∉[G4+1,G3+1,v7+1,d5+1,C7+1,j8+1,a2n+1,W9+1]):WBx m' A tt i at' B C c s x:=by
 have g:∀{b e l},At m b e true l→e+1∈[G4+1,G3+1,v7+1,d5+1,C7+1,j8+1,a2n+1,W9+1]→At m' b e true l:=fun ha he=>ha.keep hw k fun hf=>hF _ hf _ ha.kd he
 exact⟨g h.b6 (by decide),g h.b7 (by decide),g h.b8 (by decide),g h.b9 (by decide),g h.b10 (by decide),g h.b11 (by decide),g h.b12 (by decide),g h.b15 (by decide),g h.co (by decide)⟩
theorem WBx.kp(h:WBx m A tt i at' B C c s x)(hw:Wf m){Z:List Nat}(k:y6 m m' [] Z):WBx m' A tt i at' B C c s x:=h.keep hw k fun b hb j hj hm=>by
 rcases hb with⟨_,h1,_⟩|⟨_,h0⟩
 ·cases h1
 ·rw[hj.inj h0] at hm
  exact absurd hm (by decide)
end
def Wj(m3:M)(A:Ad)(S:PS)(R:PS)(own3:Nat→Prop)(X:Nat→Ino)(i at' w:Nat)(d:Bk)(a:Nat)(mk:M):Prop:=
 ∃T own' Y,Wrs R I2 X T Y i at' d a∧t8 T≤t8 S+w*npc at' a∧Step m3 mk A T own3 own'
def Wst(m3:M)(S:PS)(i at' w B:Nat)(d:Bk)(mk:M):Prop:=53≤t8 S+w*npc at' d.length∧At mk (B+6) j8 true [iv 10]
theorem f9Q{at' a b:Nat}(h:a≤b):npc at' a≤npc at' b:=by
 unfold npc
 split<;>split<;>omega
theorem g0l{m m':M}{b off cap n b2 o2 n2 c2:Nat}{lim l2:Bool}{new:List AV}(hx:m.rdN b2 o2 n=some new)(h0:0<n)(hn:n≤n2)(hw:m.wr b off new=some m'):a3R 1 (.cst (.slice b off n cap lim)) (.cst (.slice b2 o2 n2 c2 l2)) .leaf m=some (iv n,m'):=by
 show(fc (bc (Nat.ble n2 n) n2 n) fun k=>bc (Nat.beq k 0) (some (AV.n 0,m)) (ob (bc (Nat.beq k 0) (some []) (m.rdN b2 o2 (Nat.mul k 1))) fun cs=>ob (m.wr b off cs) fun m=>some (AV.n k,m)))=_
 have e:bc (Nat.ble n2 n) n2 n=n:=by
  rw[A1]
  by_cases h:n2≤n
  ·rw[decide_eq_true h,l9];omega
  ·rw[decide_eq_false h,u7]
 rw[e,z7,A4,decide_eq_false (by omega),u7,u7,show Nat.mul n 1=n from Nat.mul_one n,hx,C5,hw];rfl
theorem _root_.Go.Am.BsAt.rdN{m:M}{b off n cap:Nat}{lim:Bool}{l:Bs}(h:BsAt m (.slice b off n cap lim) l b)(hn:n=l.length)(h0:0<n):m.rdN b off n=some (i9 l):=by
 obtain⟨_,h2,_⟩:=h.src
 have h2:bc (Nat.beq l.length 0) (some []) (m.rdN b off (Nat.mul l.length 1))=some (i9 l):=h2
 rw[A4,decide_eq_false (by omega),u7,show Nat.mul l.length 1=l.length from Nat.mul_one _,←hn] at h2
 exact h2
section
variable {m3:M} {A:Ad} {S R:PS} {own3:Nat→Prop} {X:Nat→Ino} {tt aa i at' w B C c bs off cap k0:Nat} {lim:Bool} {d:Bk}
theorem d0i{t:Bk}{f:Nat}{u:Bk}(h:t.length=64)(hf:f+u.length≤64):(spl t f u).length=64:=by rw[Y2 (by omega),h]
set_option maxHeartbeats 1000000 in
theorem f6p(hw3:Wf m3)(h3:GAt m3 A R own3)(ht3:TAt m3 tt aa A.g)(hi:i∈I2)(hB:WBx m3 A tt i at' B C c (.slice bs off d.length cap lim) (X i))(hs:BsAt m3 (.slice bs off d.length cap lim) d bs)(hcap:d.length≤cap)(hbk:kd m3 bs k0)(hk0:k0≠0)(hmx:at'+d.length≤68096)(hwl:∀k,at'/64≤k→64*k<at'+d.length→(i6 k).way.length≤w)
  {fr:Go.Am.Fr} (f6:ev (tm 6) fr= .ptr B 0) (f7:ev (tm 7) fr= .ptr (B+1) 0) (f8:ev (tm 8) fr= .ptr (B+2) 0) (f9:ev (tm 9) fr= .ptr (B+3) 0) (f11:ev (tm 11) fr= .ptr (B+5) 0) (f12:ev (tm 12) fr= .ptr (B+6) 0) (f15:ev (tm 15) fr= .ptr C 0)
  {a:Nat} {mk:M} {r:Nat} {Q:Am.X→Go.Am.Fr→M→Prop} (ha:a<d.length) (hb:a=0∨(at'+a) % 64=0) (hJ:Wj m3 A S R own3 X i at' w d a mk) (hr:m3.next+2≤r) (hp:At mk r M6 true (pcA at' d.length a))
  (hQ1:∀fr' m2 F,Keep mk m2 F→¬F m3.next→¬F (m3.next+1)→Wj m3 A S R own3 X i at' w d (a+pcl at' d.length a) m2→Q .normal fr' m2) (hQ2:∀fr' m2 F,Keep mk m2 F→¬F m3.next→¬F (m3.next+1)→Wst m3 S i at' w B d m2→Q .ret fr' m2):
  GX Tryz.prog tb a78 Q (D5 18 (.ptr r 0) (D5 83 (.agg (pcA at' d.length a)) fr)) mk:=by
 obtain⟨T,own',Y,hW,hcn,st⟩:=hJ
 have hwk:=st.kp.wf
 have hBk:=hB.kp hw3 st.kp
 have hms:∀x,x∈A.ms→x<m3.next:=fun x hx=>(h3.kdm x (by
  simp only[List.mem_cons,List.not_mem_nil,or_false] at hx⊢
  rcases hx with rfl|rfl|rfl<;>simp)).lt hw3
 have hnF:∀{mm:M} {l:Nat},m3.next≤l→¬Kinds mm [] A.ms l:=fun hl hF=>by
  rcases hF with⟨_,h1,_⟩|⟨h1,_⟩
  ·cases h1
  ·have:=hms _ h1;omega
 have hn3:=st.kp.next
 have hpl:pcl at' d.length a≤d.length-a∧0<pcl at' d.length a∧(at'+a) % 64+pcl at' d.length a≤64:=by unfold pcl;omega
 have hk:(at'+a)/64≤1063:=by omega
 have hnpc:=f8M hpl.2.1 hpl.2.2 hb
 have hnx:=fun{V Z}=>hW.next (V:=V) (Z:=Z) (c:=pcl at' d.length a) hi rfl hk hpl.2.1 hpl.2.2 (by omega)
 have hp:At mk r M6 true [ivn ((at'+a)/64),ivn ((at'+a) % 64),ivn ((at'+a) % 64+pcl at' d.length a),ivn a] :=hp
 generalize hkk:(at'+a)/64=k at*
 generalize hff:(at'+a) % 64=f at*
 generalize hcc:pcl at' d.length a=cl at*
 have hway:=hwl k (by omega) (by omega)
 have hrd0:mk.rd r 0=some (ivn k):=by rw[hp.rd];rfl
 have hlen:((d.drop a).take cl).length=cl:=by rw[List.length_take,List.length_drop];omega
 simp-implicitDefEqProofs only[a2m,a71,f6,f7,f9,hBk.b6.rd,hBk.b7.rd,hBk.b9.rd,hrd0,↓reduceIte,Nat.reduceEqDiff,List.getElem?_cons_zero,wA,wB,wC,wD]
 refine f88 hwk st.at' (ht3.kp hw3 st.kp) hW.inv hi hk (fun m1 own1 T1 Y1 b hc1 hM hnb hb0 st1=> ?_) (fun m1 own1 T1 Y1 hfl hc1 hM hn0 hn1 st1=> ?_)
 ·have hw1:=st1.kp.wf
  have hB1:=hBk.kp hwk st1.kp
  have hp1:=hp.kp hwk st1.kp
  have st31:=st.trans st1
  have hn31:=st31.kp.next
  have hrg:=hM.inv.rng hi (F0 hk).1 (by rw[hnb];exact hb0)
  rw[hnb] at hrg
  obtain⟨mZ,eZ,aZ,kZ,nZ⟩:∃m',m1.addZ l3 64 [.y 0] =m'∧At m' m1.next l3 true (i9 z64)∧Keep m1 m' (fun _=>False)∧m'.next=m1.next+1:=⟨_,rfl,by rw[←c6K];exact At.addZr 64 rfl,Keep.addZ hw1,M.next_addZ ..⟩
  have hmk:a0X l3 1 1 [.y 0] (.cst (iv 64)) (.cst (iv 64)) .leaf m1=some (.slice m1.next 0 64 64 false,mZ):=by rw[←eZ];exact e5M l3 1 1 [.y 0] (n:=64) (by omega) (by omega)
  have hrdp:m1.rd (B+2) 0=some (iv 64):=by rw[hB1.b8.rd];rfl
  have hbl:=hW.dat.blk hi hk
  have rest:∀(mq:M) (x:AV) (q:Nat) (fr':Go.Am.Fr),Keep m1 mq (fun _=>False)→m1.next≤q→RowB mq x (z8 T (Y i) k) q→ev (tm 11) fr'= .ptr (B+5) 0→ev (tm 12) fr'= .ptr (B+6) 0→ev (tm 15) fr'= .ptr C 0→ev (tm 18) fr'= .ptr r 0→ev (tm 19) fr'=iv b→ev (tm 22) fr'=x→
    GX Tryz.prog tb a7T (BK 1 Q) fr' mq:=by
   intro mq x q fr' kq hq hrow g11 g12 g15 g18 g19 g22
   have hwq:=kq.wf
   have hBq:=hB1.keep hw1 kq fun _ h=>h.elim
   have hpq:=hp1.keep hw1 kq id
   obtain⟨qcap,hse,hqc⟩:=hrow.shape
   rw[hbl] at hse hqc
   subst hse
   obtain⟨m5,e5,row5,k5,n5⟩:=a2M (u:=(d.drop a).take cl) (i:=f) hwq hrow hbl (by omega)
   have hnq:=kq.next
   have k15:Keep m1 m5 fun _=>False:=kq.trans k5 fun b hb e=>by omega
   have hB5:=hB1.keep hw1 k15 fun _ h=>h.elim
   have hp5:=hp1.keep hw1 k15 id
   have st35:=st31.tf k15
   obtain⟨m6,own6,st6,r6⟩:=b9c k15.wf st35.at' hB5.co (b:=b) (⟨row5.bs,row5.sl.kd⟩:BtU m5 _ (spl (z8 T (Y i) k) f ((d.drop a).take cl)) q) (d0i hbl (by omega)) hrg.1 hrg.2
   have hsub:=a1X (m:=mq) 1 q 0 64 qcap false (lo:=f) (hi:=f+cl) (by omega) (by omega)
   rw[Nat.mul_one,Nat.zero_add,show f+cl-f=cl by omega] at hsub
   have hsub5:=a1X (m:=m5) 1 q 0 64 qcap false (lo:=f) (hi:=f+cl) (by omega) (by omega)
   rw[Nat.mul_one,Nat.zero_add,show f+cl-f=cl by omega] at hsub5
   have hsq:BsAt mq (.slice bs off d.length cap lim) d bs:=(hs.keep hw3 st31.kp (Kinds.not hbk (by simp) hk0)).keep hw1 kq id
   have hcells:=(hsq.sub (at':=a) (w:=cl) (cap':=cap) (lim':=lim) (by omega)).rdN hlen.symm (by omega)
   have hfrm:=a1O (m:=mq) 1 bs off d.length cap lim (lo:=a) ha hcap
   rw[Nat.mul_one] at hfrm
   have hfrm5:=a1O (m:=m5) 1 bs off d.length cap lim (lo:=a) ha hcap
   rw[Nat.mul_one] at hfrm5
   have hcp:=g0l (m:=mq) (b:=q) (off:=f) (cap:=qcap-f) (lim:=false) (c2:=cap-a) (l2:=lim) (n2:=d.length-a) hcells (by omega) (by omega) e5
   have p1:mq.rd r 1=some (ivn f):=by rw[hpq.rd];rfl
   have p2:mq.rd r 2=some (ivn (f+cl)):=by rw[hpq.rd];rfl
   have p3:mq.rd r 3=some (ivn a):=by rw[hpq.rd];rfl
   have p51:m5.rd r 1=some (ivn f):=by rw[hp5.rd];rfl
   have p52:m5.rd r 2=some (ivn (f+cl)):=by rw[hp5.rd];rfl
   have p53:m5.rd r 3=some (ivn a):=by rw[hp5.rd];rfl
   simp-implicitDefEqProofs only[a2m,a4i,a7V,a70,f39,g11,g15,g18,g19,g22,p1,p2,p3,hBq.b11.rd,hB5.b15.rd,a69,a60,hsub,hfrm,b2O,hcp,r6.eq,↓reduceIte,Nat.reduceEqDiff,List.getElem?_cons_succ,List.getElem?_cons_zero,exists_eq_left',wA,wB,wC,wD]
   have st36:=st35.trans st6
   refine hQ1 _ m6 _ (((st1.kp.tf k15).tk st6.kp)) (hnF (Nat.le_refl _)) (hnF (by omega)) ⟨_,own6,Y1,hnx ?_ hb,?_,st36⟩
   ·have:=Wrd.of hW.inv hW.dat hM hi hk hnb hb0 (d0i hbl (by omega:f+((d.drop a).take cl).length≤64))
    exact this
   ·rw[hnpc]
    have:=a3l (S:=T1) (b:=b) (by omega) (spl (z8 T (Y i) k) f ((d.drop a).take cl))
    rw[Nat.mul_add,Nat.mul_one]
    omega
  by_cases hz:nd T (Y i) (i6 k)=0
  ·have hbz:z8 T (Y i) k=z64:=if_pos hz
   simp-implicitDefEqProofs only[f8,hrdp,hmk,decide_eq_true hz,a2m,a2o,a4h,a4j,↓reduceIte,Nat.reduceEqDiff,List.getElem?_cons_succ,List.getElem?_cons_zero,wA,wB,wC,wD]
   refine rest mZ (.slice m1.next 0 64 64 false) m1.next _ kZ (Nat.le_refl _) ?_ (by simp-implicitDefEqProofs only[f11,d7,↓reduceIte,Nat.reduceEqDiff]) (by simp-implicitDefEqProofs only[f12,d7,↓reduceIte,Nat.reduceEqDiff]) (by simp-implicitDefEqProofs only[f15,d7,↓reduceIte,Nat.reduceEqDiff]) (by simp-implicitDefEqProofs only[d7,↓reduceIte,Nat.reduceEqDiff]) (by simp-implicitDefEqProofs only[d7,↓reduceIte,Nat.reduceEqDiff]) (by simp-implicitDefEqProofs only[d7,↓reduceIte,Nat.reduceEqDiff])
   rw[hbz]
   exact⟨.row (junk:= []) (by rw[List.append_nil];exact aZ) (by simp[i9,z64]) (by simp) (by simp) (by omega)⟩
  ·have hrdb:=hW.dat.rd hi hk hz
   have hnbz:nd T (Y i) (i6 k)=b:=by rw[←hnb];exact(hM.old i hi _ (F0 hk).1 hz).symm
   rw[hnbz] at hrdb
   have hrT:T1.rd b=some (z8 T (Y i) k):=by
    rw[hM.dat b hrg.1 fun j hj q hq hin e=> ?_]
    ·exact hrdb
    ·exact(F0 hk).2 ((hM.inv.inj j hj i hi q _ hq (F0 hk).1 (by omega) (by rw[e,hnb])).2▸hin)
   have gZ:=st1.at'.k0 hw1 kZ
   obtain⟨m2,x2,q2,hb2,hs2,h64,k2,n2,r2⟩:=T8 kZ.wf gZ (b:=b) (by omega) hrT
   have hBZ:=hB1.keep hw1 kZ fun _ h=>h.elim
   simp-implicitDefEqProofs only[f6,f8,hrdp,hmk,decide_eq_false hz,hBZ.b6.rd,r2.eq,a2m,a2o,a4h,a4j,a72,a75,↓reduceIte,Nat.reduceEqDiff,List.getElem?_cons_succ,List.getElem?_cons_zero,wA,wB,wC,wD]
   exact rest m2 x2 q2 _ (kZ.tf k2) (by omega) ⟨hs2⟩ (by simp-implicitDefEqProofs only[f11,d7,↓reduceIte,Nat.reduceEqDiff]) (by simp-implicitDefEqProofs only[f12,d7,↓reduceIte,Nat.reduceEqDiff]) (by simp-implicitDefEqProofs only[f15,d7,↓reduceIte,Nat.reduceEqDiff]) (by simp-implicitDefEqProofs only[d7,↓reduceIte,Nat.reduceEqDiff]) (by simp-implicitDefEqProofs only[d7,↓reduceIte,Nat.reduceEqDiff]) (by simp-implicitDefEqProofs only[d7,↓reduceIte,Nat.reduceEqDiff])
 ·have hB1:=hBk.kp hwk st1.kp
  obtain⟨m2,e2,a2,k2,n2⟩:=hB1.b12.st st1.kp.wf 0 [iv 10]
  simp-implicitDefEqProofs only[f12,show((10:Int)=0)=False from eq_false (by omega),e2,a2m,a2o,a73,↓reduceIte,Nat.reduceEqDiff,List.getElem?_cons_succ,List.getElem?_cons_zero,wA,wB,wC,wD]
  have hn31:=st1.kp.next
  have hB12:=hB.b12.lt hw3
  refine hQ2 _ m2 (fun b=>Kinds mk [] A.ms b∨b=B+6) ((st1.kp.mono fun _ _ h=> .inl h).trans k2 fun b _ e=> .inr e) (fun e=>by rcases e with e|e;exact hnF (Nat.le_refl _) e;omega) (fun e=>by rcases e with e|e;exact hnF (by omega) e;omega) ⟨?_,a2⟩
  have h53:=f9c hfl
  have:=f9Q (at':=at') (show a+cl≤d.length by omega)
  have h5:w*npc at' (a+cl)≤w*npc at' d.length:=Nat.mul_le_mul_left _ this
  rw[hnpc,Nat.mul_add,Nat.mul_one] at h5
  omega
end
theorem a9k{P:Program}{m:M}{fr:Go.Am.Fr}{a t b off:Nat}{v:AV}(h1:A8 P t=some false)(h2:tsize P t=some 1)(hp:ev (tm a) fr= .ptr b off)(hr:m.rd b off=some v):E3 P ⟨fr,m,[],none⟩ [.cell a t] =some [v] :=by
 show(ob (match A8 P t,tsize P t with|some true,some n=>Y8 n (.tmp (pth a)) fr m|some false,some _=>a0a (.tmp (pth a)) fr m|_,_=>none) fun q=>some (q.1:: []))=_
 rw[h1,h2]
 show(ob (elPtr none (fun b off=>ob (m.rd b off) fun v=>some (v,m)) (ev (tm a) fr)) fun q=>some (q.1:: []))=_
 rw[hp,a0G,hr];rfl
section
variable {m:M} {A:Ad} {S:PS} {own:Nat→Prop} {X:Nat→Ino} {tt aa i at' w bs off cap k0:Nat} {lim:Bool} {d:Bk}
theorem f6s{mk:M}{b8 b10 b11 n y:Nat}{s:AV}(h8:At mk b8 v7 true i5)(h10:At mk b10 d5 true [iv at'])(h11:At mk b11 C7 true [s])(hs:E4 false s=some n){Q:M→Prop}(h:WpF Tryz.prog tb a09 [iv 64,iv at',iv n,.yield y] mk fun _ m'=>Q m'):WpF Tryz.prog tb a6M [.yield y,.ptr b8 0,.ptr b10 0,.ptr b11 0] mk fun _ m'=>Q m':=by
 have e8:mk.rd b8 0=some (iv 64):=by rw[h8.rd];rfl
 refine WpF.go g6E ?_
 simp-implicitDefEqProofs only[g7c,d69,e8,h10.rd,h11.rd,hs,↓reduceIte,Nat.reduceEqDiff,Nat.reduceAdd,List.getElem?_cons_zero,wA,wB,wC,wD]
 refine h.mono fun v m' hq=> ?_
 simp-implicitDefEqProofs only[a2r,a6u,a5R,a5K,a2O]
 exact hq
set_option maxHeartbeats 2000000 in
set_option maxRecDepth 20000 in
theorem f7V(hw:Wf m)(h:GAt m A S own)(ht:TAt m tt aa A.g)(hF:FS S I2 X)(hi:i∈I2)(hs:BsAt m (.slice bs off d.length cap lim) d bs)(hcap:d.length≤cap)(hbk:kd m bs k0)(hk0:k0≠0)(h0:d≠[])(hl:d.length≤4096)(hmx:at'+d.length≤68096)(hwl:∀k,at'/64≤k→64*k<at'+d.length→(i6 k).way.length≤w){Q:AV→M→Prop}
  (hQ1:∀m' own' T Y,Wrt S I2 X T Y i at' d→t8 T≤t8 S+w*npc at' d.length→Step m m' A T own own'→Q (iv 0) m') (hQ2:53≤t8 S+w*npc at' d.length→∀m',Q (iv 10) m'):
  WpF Tryz.prog tb a4t [.ptr A.o 0,.ptr tt 0,.agg i5,iv i,iv at',.slice bs off d.length cap lim] m Q:=by
 have hd:0<d.length:=List.length_pos_iff.2 h0
 obtain⟨m1,e1,a1,k1,n1⟩:=l6 hw G4 1 [.ptr A.o 0]
 obtain⟨m2,e2,a2,k2,n2⟩:=l6 k1.wf G3 1 [.ptr tt 0]
 obtain⟨m3,e3,a3,k3,n3⟩:=l6 k2.wf v7 12 i5
 obtain⟨m4,e4,a4,k4,n4⟩:=l6 k3.wf d5 1 [iv i]
 obtain⟨m5,e5,a5,k5,n5⟩:=l6 k4.wf d5 1 [iv at']
 obtain⟨m6,e6,a6,k6,n6⟩:=l6 k5.wf C7 1 [.slice bs off d.length cap lim]
 obtain⟨m7,e7,a7,k7,n7⟩:=B0 k6.wf j8 1 [iv 0]
 have k67:=k7
 have k57:=k6.tf k67
 have k47:=k5.tf k57
 have k37:=k4.tf k47
 have k27:=k3.tf k37
 have k17:=k2.tf k27
 have k07:=k1.tf k17
 have rM:Ran Tryz.prog tb W8 [.agg i5] m7 (.tuple [iv 68096,iv 0]) m7:=P3 Tryz.func74 rfl
 obtain⟨m8,c,a8,k8,n8,r8⟩:=a9B k07.wf (h.k0 hw k07) (ht.k0 hw k07) hF.inv hi (iv 64) (iv 90) (iv 6) (iv 30) (iv 2) (iv 32) (iv 1) (iv 33) (iv 1) (iv 34) (iv 3) (iv 37)
 obtain⟨m9,e9,a9,k9,n9⟩:=B0 k8.wf a2n 1 [s9]
 obtain⟨m10,e10,a10,k10,n10⟩:=a9.st k9.wf 0 [.ptr c 0]
 have hn8:=k8.next
 have k80:Keep m8 m10 fun _=>False:=k9.trans k10 fun b hb e=>by omega
 have k70:=k8.tf k80
 have k00:=k07.tf k70
 have hc8:=a8.lt k8.wf
 have hB:WBx m10 A tt i at' m.next m8.next c (.slice bs off d.length cap lim) (X i):=by
  have b7:At m7 (m.next+1) G3 true [.ptr tt 0] :=by rw[←n1];exact a2.keep k2.wf k27 id
  have b8:At m7 (m.next+2) v7 true i5:=by rw[show m.next+2=m2.next by omega];exact a3.keep k3.wf k37 id
  have b9:At m7 (m.next+3) d5 true [iv i] :=by rw[show m.next+3=m3.next by omega];exact a4.keep k4.wf k47 id
  have b10:At m7 (m.next+4) d5 true [iv at'] :=by rw[show m.next+4=m4.next by omega];exact a5.keep k5.wf k57 id
  have b11:At m7 (m.next+5) C7 true [.slice bs off d.length cap lim] :=by rw[show m.next+5=m5.next by omega];exact a6.keep k6.wf k67 id
  have b12:At m7 (m.next+6) j8 true [iv 0] :=by rw[show m.next+6=m6.next by omega];exact a7
  exact⟨(a1.keep k1.wf k17 id).keep k07.wf k70 id,b7.keep k07.wf k70 id,b8.keep k07.wf k70 id,b9.keep k07.wf k70 id,b10.keep k07.wf k70 id,b11.keep k07.wf k70 id,b12.keep k07.wf k70 id,a10,a8.keep k8.wf k80 id⟩
 have h10:=h.k0 hw k00
 have ht10:=ht.k0 hw k00
 have hs10:=hs.keep hw k00 id
 have hbk10:kd m10 bs k0:=hbk.of_get (k00.get _ (hbk.lt hw) id)
 have hsz:m10.rd c 17=some (ivn (X i).size):=by rw[hB.co.rd];rfl
 have q1:m1.next=m.next+1:=n1
 have q2:m2.next=m.next+2:=by omega
 have q3:m3.next=m.next+3:=by omega
 have q4:m4.next=m.next+4:=by omega
 have q5:m5.next=m.next+5:=by omega
 have q6:m6.next=m.next+6:=by omega
 have c6:m7.rd m.next 0=some (.ptr A.o 0):=by rw[(a1.keep k1.wf k17 id).rd];rfl
 have c7:m7.rd (m.next+1) 0=some (.ptr tt 0):=by rw[←q1,(a2.keep k2.wf k27 id).rd];rfl
 have c8:m7.rdN (m.next+2) 0 12=some i5:=by rw[←q2];exact(a3.keep k3.wf k37 id).rdN (by show 0+12≤12;omega)
 have c9:m7.rd (m.next+3) 0=some (iv i):=by rw[←q3,(a4.keep k4.wf k47 id).rd];rfl
 have c10:m7.rd (m.next+4) 0=some (iv at'):=by rw[←q4,(a5.keep k5.wf k57 id).rd];rfl
 have c11:m7.rd (m.next+5) 0=some (.slice bs off d.length cap lim):=by rw[←q5,(a6.keep k6.wf k67 id).rd];rfl
 have hm3:∀{mk},y6 m10 mk [] A.ms→WBx mk A tt i at' m.next m8.next c (.slice bs off d.length cap lim) (X i):=fun k=>hB.kp k00.wf k
 have hd1:((d.length:Nat):Int)≠0:=by omega
 --the pieces,and the size
 have loop:∀(mt:M) (R:PS) (ownt:Nat→Prop) (fr:Go.Am.Fr),(at'+d.length≤(X i).size∧R=S∨(X i).size<at'+d.length∧Tld S I2 X R i (X i).size)→Step m10 mt A R own ownt→
   ev (tm 6) fr= .ptr m.next 0→ev (tm 7) fr= .ptr (m.next+1) 0→ev (tm 8) fr= .ptr (m.next+2) 0→ev (tm 9) fr= .ptr (m.next+3) 0→ev (tm 10) fr= .ptr (m.next+4) 0→ev (tm 11) fr= .ptr (m.next+5) 0→ev (tm 12) fr= .ptr (m.next+6) 0→ev (tm 15) fr= .ptr m8.next 0→
   WpS Tryz.prog tb (.seq (.seq (sL (sL (sR (sR (sR (sR (sR (sR B6)))))))) (.block 0 (.rangeFunc (rF (bB (sR (sL (sR (sR (sR (sR (sR (sR B6)))))))))) (rPs (bB (sR (sL (sR (sR (sR (sR (sR (sR B6)))))))))) (rAs (bB (sR (sL (sR (sR (sR (sR (sR (sR B6)))))))))) (rBd (bB (sR (sL (sR (sR (sR (sR (sR (sR B6))))))))))))) (sR (sR (sR (sR (sR (sR (sR B6)))))))) [] none fr mt
    (fun x f m' dd=>(x= .normal∨x= .ret)∧∃m2,I7 dd m'=some m2∧∃l,E3 Tryz.prog ⟨f,m2,[],none⟩ [.cell 12 j8] =some l∧Q (Go.Am.one l) m2):=by
  intro mt R ownt fr hR st f6 f7 f8 f9 f10 f11 f12 f15
  have hwt:=st.kp.wf
  have hnt:=st.kp.next
  have hn7:m7.next=m.next+7:=by omega
  have hn78:m7.next≤m8.next:=k8.next
  have hBt:=hm3 st.kp
  have htt:=ht10.kp k00.wf st.kp
  have hst:=hs10.keep k00.wf st.kp (Kinds.not hbk10 (by simp) hk0)
  have hbt:kd mt bs k0:=hbk10.kp k00.wf st.kp (by simp) hk0
  have hIR:Inv R I2 X∧Dat R I2 X∧t8 R≤t8 S:=by
   rcases hR with⟨_,rfl⟩|⟨_,hR⟩
   ·exact⟨hF.inv,hF.dat,Nat.le_refl _⟩
   ·exact⟨hR.inv,hR.dat,hR.cnt⟩
  refine WpS.seq (WpS.seq (WpS.code f4V ?_))
  simp-implicitDefEqProofs only[f4e,a7W,f8,f10,f11,wA,wB,wC,wD]
  refine WpS.block ((b7y (t:=82) (q:=83) (X:=18) (h:=a6M) (caps:= [.ptr (m.next+2) 0,.ptr (m.next+4) 0,.ptr (m.next+5) 0]) (at':=at') (n:=d.length) hwt f4x (by simp-implicitDefEqProofs only[d7,↓reduceIte]) f4q f47 (by decide) f42 (by omega) (by omega)
   (fun a mk=>Wj mt A S R ownt X i at' w d a mk) (fun mk=>Wst mt S i at' w m.next d mk∧Wf mk)
   (fun y mk Q' kk hq=>f6s (hBt.b8.keep hwt kk id) (hBt.b10.keep hwt kk id) (hBt.b11.keep hwt kk id) (b2w ..) hq)
   (fun mk kk=>⟨R,ownt,X,Wrs.zero hIR.1 hIR.2.1 i at' d,Nat.le_trans hIR.2.2 (Nat.le_add_right _ _),(Step.rf hwt st.at').tf kk⟩)
   (fun a mk mk' ⟨T,own',Y,g1,g2,g3⟩ hk kk=>⟨T,own',Y,g1,g2,g3.obj hwt st.at' (by omega) hk kk⟩)
   (fun mk mk' ⟨⟨g1,g2⟩,g3⟩ hk kk=>⟨⟨g1,g2.keep g3 kk (g2.kd.ne hk)⟩,kk.wf⟩)
   (fun a mk r Q' ha hb hJ hwk hr hp p1 p2=>f6p hwt st.at' htt hi hBt hst hcap hbt hk0 hmx hwl (by simp-implicitDefEqProofs only[f6,d7,↓reduceIte,Nat.reduceEqDiff]) (by simp-implicitDefEqProofs only[f7,d7,↓reduceIte,Nat.reduceEqDiff]) (by simp-implicitDefEqProofs only[f8,d7,↓reduceIte,Nat.reduceEqDiff]) (by simp-implicitDefEqProofs only[f9,d7,↓reduceIte,Nat.reduceEqDiff]) (by simp-implicitDefEqProofs only[f11,d7,↓reduceIte,Nat.reduceEqDiff]) (by simp-implicitDefEqProofs only[f12,d7,↓reduceIte,Nat.reduceEqDiff]) (by simp-implicitDefEqProofs only[f15,d7,↓reduceIte,Nat.reduceEqDiff]) ha hb hJ hr hp p1 (fun fr' m2 F kF a1 a2 hs'=>p2 fr' m2 F kF a1 a2 ⟨hs',kF.wf⟩))).mono ?_)
  rintro x f mm dd ⟨rfl,rfl,hdf,hwm,hnx,hx⟩
  rcases hx with⟨rfl,T,own',Y,hW,hcn,stm⟩|⟨rfl,⟨hcn,hres⟩,_⟩
  ·have stm':=st.trans stm
   have hBm:=hm3 stm'.kp
   have htm:=ht10.kp k00.wf stm'.kp
   have hsum:((at':Int)+(d.length:Int))=((at'+d.length:Nat):Int):=rfl
   have hsy:(Y i).size=(X i).size:=(hW.same i hi).2.2
   have hd0:0<mt.next:=by omega
   refine WpS.code f4Z ?_
   --behind the size
   have fin:∀(m11:M) (own11:Nat→Prop) (U:PS) (Z:Nat→Ino),Wrt S I2 X U Z i at' d→t8 U≤t8 S+w*npc at' d.length→Step m10 m11 A U own own11→m11.get mt.next=some (.obj (.dfr true))→mt.next<m11.next→∃m12,m11.wr (m.next+6) 0 [iv 0] =some m12∧∃m2,I7 [mt.next] m12=some m2∧∀f,ev (tm 12) f= .ptr (m.next+6) 0→∃l,E3 Tryz.prog ⟨f,m2,[],none⟩ [.cell 12 j8] =some l∧Q (Go.Am.one l) m2:=by
    intro m11 own11 U Z hWr hcU st11 hdf' hnx'
    have hB11:=hm3 st11.kp
    obtain⟨m12,e12,a12,k12,n12⟩:=hB11.b12.st st11.kp.wf 0 [iv 0]
    have hd12:m12.get mt.next=some (.obj (.dfr true)):=(k12.get _ hnx' (by omega)).trans hdf'
    have kz:Keep m12 (m12.put mt.next (.obj (.dfr false))) (fun b=>b=mt.next):=Keep.put k12.wf (by omega) rfl
    have a13:=a12.keep k12.wf kz (by omega)
    refine⟨m12,e12,m12.put mt.next (.obj (.dfr false)),?_,fun f hf12=>⟨[iv 0],a9k (by kernel_rfl) (by kernel_rfl) hf12 (by rw[a13.rd];rfl),?_⟩⟩
    ·show(ob (m12.dfr mt.next) fun op=>bc op (I7 [] (m12.put mt.next (.obj (.dfr false)))) none)=_
     rw[a2Q hd12];rfl
    ·have s1:=(Step.ft k00 st11).row k12 (by omega) hB11.b12.kd (by decide)
     have hk12:kd m12 mt.next 0:=by unfold kd;rw[hd12]
     exact hQ1 _ own11 U Z hWr hcU (s1.obj hw h (by omega) hk12 kz)
   simp-implicitDefEqProofs only[f4h,a76,f6,f7,f9,f10,f11,hBm.b6.rd,hBm.b7.rd,hBm.b9.rd,hBm.b10.rd,hBm.b11.rd,aD (at':Int) (d.length:Int),hsum,↓reduceIte,Nat.reduceEqDiff,List.getElem?_cons_zero,wA,wB,wC,wD]
   have hms:∀x,x∈A.ms→x<m10.next:=fun x hx=>(h10.kdm x (by
    simp only[List.mem_cons,List.not_mem_nil,or_false] at hx⊢
    rcases hx with rfl|rfl|rfl<;>simp)).lt k00.wf
   refine f9l hwm stm'.at' htm hW.inv hi (s:=at'+d.length) (by omega) (fun hle m11 k11=> ?_) (fun hlt m11 own11 T2 hP st11=> ?_)
   ·have hd11:=(k11.get _ hnx id).trans hdf
    have hn11:=k11.next
    obtain⟨m12,e12,m2,hcl,hfin⟩:=fin m11 own' T Y (Wrt.of hF hi hR hW h0 hmx (.inl ⟨by omega,rfl,rfl⟩)) hcn (stm'.tf k11) hd11 (by omega)
    simp-implicitDefEqProofs only[f12,e12,↓reduceIte,Nat.reduceEqDiff,wA,wB,wC,wD]
    exact⟨.inr trivial,m2,hcl,hfin _ (by simp-implicitDefEqProofs only[f12,d7,↓reduceIte,Nat.reduceEqDiff])⟩
   ·have hnm:¬Kinds mm [] A.ms mt.next:=fun e=>by
     rcases e with⟨_,e,_⟩|⟨e,_⟩
     ·cases e
     ·have:=hms _ e;have:=st.kp.next;omega
    have hd11:=(st11.kp.get _ hnx hnm).trans hdf
    have hn11:=st11.kp.next
    have hcT:=hP.cnt
    obtain⟨m12,e12,m2,hcl,hfin⟩:=fin m11 own11 T2 _ (Wrt.of hF hi hR hW h0 hmx (.inr ⟨by omega,hP,rfl⟩)) (by omega) (stm'.trans st11) hd11 (by omega)
    simp-implicitDefEqProofs only[f12,e12,↓reduceIte,Nat.reduceEqDiff,wA,wB,wC,wD]
    exact⟨.inr trivial,m2,hcl,hfin _ (by simp-implicitDefEqProofs only[f12,d7,↓reduceIte,Nat.reduceEqDiff])⟩
  ·refine⟨.inr rfl,mm.put mt.next (.obj (.dfr false)),?_,[iv 10],a9k (b:=m.next+6) (off:=0) (by kernel_rfl) (by kernel_rfl) (by simp-implicitDefEqProofs only[f12,d7,↓reduceIte,Nat.reduceEqDiff]) ?_,hQ2 hcn _⟩
   ·show(ob (mm.dfr mt.next) fun op=>bc op (I7 [] (mm.put mt.next (.obj (.dfr false)))) none)=_
    rw[a2Q hdf];rfl
   ·have kz:Keep mm (mm.put mt.next (.obj (.dfr false))) (fun b=>b=mt.next):=Keep.put hwm hnx rfl
    rw[(hres.keep hwm kz (by have:=hBt.b12.lt hwt;omega)).rd];rfl
 refine WpF.body f4B f4c f4b rfl f4i rfl ?_
 refine WpS.seq (WpS.code f48 ?_)
 simp-implicitDefEqProofs only[f4l,a8j,e1,e2,e3,e4,e5,e6,e7,q1,q2,q3,q4,q5,q6,↓reduceIte,Nat.reduceEqDiff,Nat.reduceAdd,wA,wB,wC,wD]
 refine WpS.seq (WpS.code f43 ?_)
 simp-implicitDefEqProofs only[f4f,a8k,c10,show((at':Int)<0)=False from eq_false (by omega),↓reduceIte,Nat.reduceEqDiff,wA,wB,wC,wD]
 refine WpS.seq (WpS.code f4U ?_)
 simp-implicitDefEqProofs only[f4k,a8e,a8d,c8,rM.eq,c10,c11,show((4096:Int)<(d.length:Int))=False from eq_false (by omega),sB (68096:Int) (d.length:Int),show((68096:Int)-(d.length:Int)<(at':Int))=False from eq_false (by omega),↓reduceIte,Nat.reduceEqDiff,List.getElem?_cons_succ,List.getElem?_cons_zero,wA,wB,wC,wD]
 refine WpS.seq (WpS.code f46 ?_)
 simp-implicitDefEqProofs only[f4m,a8g,c6,c7,c8,c9,r8.eq,e9,e10,↓reduceIte,Nat.reduceEqDiff,List.getElem?_cons_succ,List.getElem?_cons_zero,wA,wB,wC,wD]
 refine WpS.seq (WpS.code f4Y ?_)
 simp-implicitDefEqProofs only[f4n,a8i,hB.b11.rd,eq_false hd1,↓reduceIte,Nat.reduceEqDiff,List.getElem?_cons_zero,wA,wB,wC,wD]
 refine WpS.seq (WpS.code f4W ?_)
 by_cases hgr:(X i).size<at'+d.length
 ·obtain⟨m11,own11,R,hT,_,st,r11⟩:=b9k k00.wf h10 ht10 hF.inv hF.dat hi hB.co (s:=(X i).size) (hF.sz i hi)
  have hlt:((X i).size:Int)<(at':Int)+(d.length:Int):=by omega
  simp-implicitDefEqProofs only[b59,a4n,a8a,a74,hB.b10.rd,hB.b11.rd,hB.b15.rd,hsz,aD (at':Int) (d.length:Int),eq_true hlt,r11.eq,↓reduceIte,Nat.reduceEqDiff,Nat.reduceAdd,List.getElem?_cons_succ,List.getElem?_cons_zero,exists_eq_left',wA,wB,wC,wD]
  exact loop m11 R own11 _ (.inr ⟨hgr,hT⟩) st (by simp-implicitDefEqProofs only[d7,↓reduceIte,Nat.reduceEqDiff]) (by simp-implicitDefEqProofs only[d7,↓reduceIte,Nat.reduceEqDiff]) (by simp-implicitDefEqProofs only[d7,↓reduceIte,Nat.reduceEqDiff]) (by simp-implicitDefEqProofs only[d7,↓reduceIte,Nat.reduceEqDiff]) (by simp-implicitDefEqProofs only[d7,↓reduceIte,Nat.reduceEqDiff]) (by simp-implicitDefEqProofs only[d7,↓reduceIte,Nat.reduceEqDiff]) (by simp-implicitDefEqProofs only[d7,↓reduceIte,Nat.reduceEqDiff]) (by simp-implicitDefEqProofs only[d7,↓reduceIte,Nat.reduceEqDiff])
 ·have hlt:¬((X i).size:Int)<(at':Int)+(d.length:Int):=by omega
  simp-implicitDefEqProofs only[b59,a4n,hB.b10.rd,hB.b11.rd,hB.b15.rd,hsz,aD (at':Int) (d.length:Int),eq_false hlt,↓reduceIte,Nat.reduceEqDiff,Nat.reduceAdd,List.getElem?_cons_succ,List.getElem?_cons_zero,exists_eq_left',wA,wB,wC,wD]
  exact loop m10 S own _ (.inl ⟨by omega,rfl⟩) (.rf k00.wf h10) (by simp-implicitDefEqProofs only[d7,↓reduceIte,Nat.reduceEqDiff]) (by simp-implicitDefEqProofs only[d7,↓reduceIte,Nat.reduceEqDiff]) (by simp-implicitDefEqProofs only[d7,↓reduceIte,Nat.reduceEqDiff]) (by simp-implicitDefEqProofs only[d7,↓reduceIte,Nat.reduceEqDiff]) (by simp-implicitDefEqProofs only[d7,↓reduceIte,Nat.reduceEqDiff]) (by simp-implicitDefEqProofs only[d7,↓reduceIte,Nat.reduceEqDiff]) (by simp-implicitDefEqProofs only[d7,↓reduceIte,Nat.reduceEqDiff]) (by simp-implicitDefEqProofs only[d7,↓reduceIte,Nat.reduceEqDiff])
end
theorem b8i{P:Program}{m:M}{fr:Go.Am.Fr}{a t b off a2 t2 b2 off2:Nat}{v v2:AV}(h1:A8 P t=some false)(h2:tsize P t=some 1)(hp:ev (tm a) fr= .ptr b off)(hr:m.rd b off=some v)(h3:A8 P t2=some false)(h4:tsize P t2=some 1)(hp2:ev (tm a2) fr= .ptr b2 off2)(hr2:m.rd b2 off2=some v2):E3 P ⟨fr,m,[],none⟩ [.cell a t,.cell a2 t2] =some [v,v2] :=by
 show(ob (match A8 P t,tsize P t with|some true,some n=>Y8 n (.tmp (pth a)) fr m|some false,some _=>a0a (.tmp (pth a)) fr m|_,_=>none) fun q=>ob (E3 P ⟨fr,m,[],none⟩ [.cell a2 t2]) fun l=>some (q.1::l))=_
 rw[h1,h2]
 show(ob (elPtr none (fun b off=>ob (m.rd b off) fun v=>some (v,m)) (ev (tm a) fr)) fun q=>ob (E3 P ⟨fr,m,[],none⟩ [.cell a2 t2]) fun l=>some (q.1::l))=_
 rw[hp,a0G,hr,a9k h3 h4 hp2 hr2];rfl
structure RBx(m:M)(A:Ad)(tt i at' n B:Nat)(ov:AV):Prop where
 b6:At m B G4 true [.ptr A.o 0]
 b7:At m (B+1) G3 true [.ptr tt 0]
 b8:At m (B+2) v7 true i5
 b9:At m (B+3) d5 true [iv i]
 b10:At m (B+4) d5 true [iv at']
 b11:At m (B+5) d5 true [iv n]
 b12:At m (B+6) C7 true [ov]
 b13:At m (B+7) j8 true [iv 0]
section
variable {m m':M} {A:Ad} {tt i at' n B:Nat} {ov:AV}
theorem RBx.keep(h:RBx m A tt i at' n B ov)(hw:Wf m){F:Nat→Prop}(k:Keep m m' F)(hF:∀b,B≤b→b<B+8→¬F b):RBx m' A tt i at' n B ov:=
 ⟨h.b6.keep hw k (hF _ (by omega) (by omega)),h.b7.keep hw k (hF _ (by omega) (by omega)),h.b8.keep hw k (hF _ (by omega) (by omega)),h.b9.keep hw k (hF _ (by omega) (by omega)),h.b10.keep hw k (hF _ (by omega) (by omega)),h.b11.keep hw k (hF _ (by omega) (by omega)),h.b12.keep hw k (hF _ (by omega) (by omega)),h.b13.keep hw k (hF _ (by omega) (by omega))⟩
end
def Rj(m3:M)(S:PS)(x:Ino)(at' n ob a:Nat)(mk:M):Prop:=Keep m3 mk (fun b=>b=ob)∧At mk ob l3 true (i9 (rdF S x at' a++List.replicate (n-a) 0))
section
variable {m3:M} {A:Ad} {S:PS} {own:Nat→Prop} {X:Nat→Ino} {tt aa i at' n B ob:Nat}
theorem f7W{mk:M}{b8 b10 b11 y:Nat}(h8:At mk b8 v7 true i5)(h10:At mk b10 d5 true [iv at'])(h11:At mk b11 d5 true [iv n]){Q:M→Prop}(h:WpF Tryz.prog tb a09 [iv 64,iv at',iv n,.yield y] mk fun _ m'=>Q m'):WpF Tryz.prog tb a7q [.yield y,.ptr b8 0,.ptr b10 0,.ptr b11 0] mk fun _ m'=>Q m':=by
 have e8:mk.rd b8 0=some (iv 64):=by rw[h8.rd];rfl
 refine WpF.go g6G ?_
 simp-implicitDefEqProofs only[g6J,e6R,e8,h10.rd,h11.rd,↓reduceIte,Nat.reduceEqDiff,Nat.reduceAdd,List.getElem?_cons_zero,wA,wB,wC,wD]
 refine h.mono fun v m' hq=> ?_
 simp-implicitDefEqProofs only[a2r,a6u,a5R,a5K,a2O]
 exact hq
theorem f7i{L P:Bk}{n a c:Nat}(hL:L.length=a)(hP:P.length=c)(hc:a+c≤n):z6 (i9 (L++List.replicate (n-a) 0)) a (i9 P)=i9 (L++P++List.replicate (n-(a+c)) 0):=by
 have hyl:∀l:Bk,(i9 l).length=l.length:=fun l=>by simp[i9]
 unfold z6
 rw[hyl P,hP,X1,X1,X1,List.take_append_of_le_length (by rw[hyl];omega),List.take_of_length_le (by rw[hyl];omega),List.drop_append,List.drop_of_length_le (l:=i9 L) (by rw[hyl];omega),List.nil_append,hyl L,hL,show a+c-a=c by omega,a0w,a0w,List.drop_replicate,List.append_assoc,show n-a-c=n-(a+c) by omega]
set_option maxHeartbeats 1000000 in
theorem f8h(hw3:Wf m3)(h3:GAt m3 A S own)(ht3:TAt m3 tt aa A.g)(hI:Inv S I2 X)(hD:Dat S I2 X)(hi:i∈I2)(hB:RBx m3 A tt i at' n B (.slice ob 0 n n false))(hob:B+8≤ob)(hlt:ob<m3.next)(hkd:kd m3 ob (l3+1))(hno:∀b,own b→b<B)(hmx:at'+n≤68096)
  {fr:Go.Am.Fr} (f6:ev (tm 6) fr= .ptr B 0) (f7:ev (tm 7) fr= .ptr (B+1) 0) (f9:ev (tm 9) fr= .ptr (B+3) 0) (f12:ev (tm 12) fr= .ptr (B+6) 0) (f13:ev (tm 13) fr= .ptr (B+7) 0)
  {a:Nat} {mk:M} {r:Nat} {Q:Am.X→Go.Am.Fr→M→Prop} (ha:a<n) (hb:a=0∨(at'+a) % 64=0) (hJ:Rj m3 S (X i) at' n ob a mk) (hr:m3.next+2≤r) (hp:At mk r M6 true (pcA at' n a))
  (hQ1:∀fr' m2 F,Keep mk m2 F→¬F m3.next→¬F (m3.next+1)→Rj m3 S (X i) at' n ob (a+pcl at' n a) m2→Q .normal fr' m2):
  GX Tryz.prog tb a8f Q (D5 15 (.ptr r 0) (D5 53 (.agg (pcA at' n a)) fr)) mk:=by
 obtain⟨hk0,hout⟩:=hJ
 have hwk:=hk0.wf
 have hn3:=hk0.next
 have hlo:(rdF S (X i) at' a++List.replicate (n-a) 0).length=n:=by rw[List.length_append,U0,List.length_replicate];omega
 have gk:∀{mk},Keep m3 mk (fun b=>b=ob)→kd m3 ob (l3+1)→GAt mk A S own:=fun k hk=>h3.kb hw3 k hk fun ho=>by have:=hno ob ho;omega
 have hpl:pcl at' n a≤n-a∧0<pcl at' n a∧(at'+a) % 64+pcl at' n a≤64:=by unfold pcl;omega
 have hk:(at'+a)/64≤1063:=by omega
 have hbl:=hD.blk hi hk
 have hrn:=f8p (S:=S) (x:=X i) (at':=at') (a:=a) (c:=pcl at' n a) rfl rfl hpl.2.2 hbl
 have hrd:=hD.rd hi hk
 have hrg:=fun h0=>hI.rng hi (F0 hk).1 h0
 have hp:At mk r M6 true [ivn ((at'+a)/64),ivn ((at'+a) % 64),ivn ((at'+a) % 64+pcl at' n a),ivn a] :=hp
 have hz:nd S (X i) (i6 ((at'+a)/64))=0→z8 S (X i) ((at'+a)/64)=z64:=fun h=>if_pos h
 generalize hkk:(at'+a)/64=k at*
 generalize hff:(at'+a) % 64=f at*
 generalize hcc:pcl at' n a=cl at*
 have hkB:RBx mk A tt i at' n B (.slice ob 0 n n false):=hB.keep hw3 hk0 fun b _ _ e=>by omega
 have r0:mk.rd r 0=some (ivn k):=by rw[hp.rd];rfl
 have hgk:=gk hk0 hkd
 have htk:=ht3.keep hw3 hk0 fun b hb e=>by
  subst e
  rcases hb with hb|hb<;>exact absurd (hb.inj hkd) (by decide)
 obtain⟨m1,k1,r1⟩:=b9n hwk hgk htk hI hi hk
 have k01:=hk0.tf k1
 have hB1:RBx m1 A tt i at' n B (.slice ob 0 n n false):=hB.keep hw3 k01 fun b _ _ e=>by omega
 have hp1:=hp.keep hwk k1 id
 have ho1:=hout.keep hwk k1 id
 have hn1:=k1.next
 by_cases h0:nd S (X i) (i6 k)=0
 ·rw[h0,nc0] at r1
  simp-implicitDefEqProofs only[b6v,a4r,a4m,a4o,f6,f7,f9,hkB.b6.rd,hkB.b7.rd,hkB.b9.rd,r0,r1.eq,↓reduceIte,Nat.reduceEqDiff,List.getElem?_cons_succ,List.getElem?_cons_zero,wA,wB,wC,wD]
  refine hQ1 _ m1 (fun _=>False) k1 id id ⟨k01,?_⟩
  have e:rdF S (X i) at' (a+cl)++List.replicate (n-(a+cl)) 0=rdF S (X i) at' a++List.replicate (n-a) 0:=by
   rw[hrn,hz h0,f9G hpl.2.2,List.append_assoc,List.replicate_append_replicate,show cl+(n-(a+cl))=n-a by omega]
  rw[e]
  exact ho1
 ·obtain⟨m2,x2,q2,hb2,hs2,h64,k2,n2,r2⟩:=T8 k1.wf (hgk.k0 hwk k1) (b:=nd S (X i) (i6 k)) (hrg h0).2 (hrd h0)
  have k02:=k01.tf k2
  have hrow:RowB m2 x2 (z8 S (X i) k) q2:=⟨hs2⟩
  obtain⟨qcap,hse,hqc⟩:=hrow.shape
  rw[h64] at hse hqc
  subst hse
  have hB2:RBx m2 A tt i at' n B (.slice ob 0 n n false):=hB.keep hw3 k02 fun b _ _ e=>by omega
  have hp2:=hp1.keep k1.wf k2 id
  have ho2:=ho1.keep k1.wf k2 id
  have hn2:=k2.next
  have hsub:=a1X (m:=m2) 1 q2 0 64 qcap false (lo:=f) (hi:=f+cl) (by omega) (by omega)
  rw[Nat.mul_one,Nat.zero_add,show f+cl-f=cl by omega] at hsub
  have hplen:(((z8 S (X i) k).drop f).take cl).length=cl:=by rw[List.length_take,List.length_drop];omega
  have hsrc:=(hrow.bs.sub (n:=64) (at':=f) (w:=cl) (cap':=qcap-f) (lim':=false) (by omega)).src
  rw[Nat.zero_add] at hsrc
  have hsrc:Rds m2 (.slice q2 f cl (qcap-f) false) 1 cl (i9 (((z8 S (X i) k).drop f).take cl)):=by
   have e:((z8 S (X i) k).drop f|>.take cl).length=cl:=hplen
   rwa [e] at hsrc
  have hyl:∀l:Bk,(i9 l).length=l.length:=fun l=>by simp[i9]
  obtain⟨m3',e3,a3,k3,n3⟩:=ho2.st k2.wf a (i9 (((z8 S (X i) k).drop f).take cl)) (l':=i9 (rdF S (X i) at' (a+cl)++List.replicate (n-(a+cl)) 0)) (by rw[hrn];exact f7i (U0 ..) hplen (by omega)) (by rw[hyl,hyl,hplen,hlo];omega)
  have hto:=a1O (m:=m2) 1 ob 0 n n false (lo:=a) ha (Nat.le_refl _)
  rw[Nat.mul_one,Nat.zero_add] at hto
  have hto3:=a1O (m:=m3') 1 ob 0 n n false (lo:=a) ha (Nat.le_refl _)
  rw[Nat.mul_one,Nat.zero_add] at hto3
  have hsub3:=a1X (m:=m3') 1 q2 0 64 qcap false (lo:=f) (hi:=f+cl) (by omega) (by omega)
  rw[Nat.mul_one,Nat.zero_add,show f+cl-f=cl by omega] at hsub3
  have hcp:=e3J (m:=m2) (b:=ob) (off:=a) (dl:=n-a) (cap:=n-a) (lim:=false) hsrc (by omega) (by omega) e3
  have k03:Keep m3 m3' (fun b=>b=ob):=k02.trans k3 fun b hb e=>e
  have hB3:RBx m3' A tt i at' n B (.slice ob 0 n n false):=hB.keep hw3 k03 fun b _ _ e=>by omega
  have hp3:=hp2.keep k2.wf k3 (by omega)
  have p1:m2.rd r 1=some (ivn f):=by rw[hp2.rd];rfl
  have p2:m2.rd r 2=some (ivn (f+cl)):=by rw[hp2.rd];rfl
  have p3:m2.rd r 3=some (ivn a):=by rw[hp2.rd];rfl
  have p31:m3'.rd r 1=some (ivn f):=by rw[hp3.rd];rfl
  have p32:m3'.rd r 2=some (ivn (f+cl)):=by rw[hp3.rd];rfl
  have p33:m3'.rd r 3=some (ivn a):=by rw[hp3.rd];rfl
  have hz0:((nd S (X i) (i6 k):Nat):Int)≠0:=by omega
  simp-implicitDefEqProofs only[b6v,a4r,a4m,a4o,a8n,a8m,a8l,f6,f7,f9,f12,hkB.b6.rd,hkB.b7.rd,hkB.b9.rd,r0,r1.eq,eq_false hz0,hB1.b6.rd,r2.eq,hB2.b12.rd,p1,p2,p3,a69,a60,hsub,hto,b2O,hcp,↓reduceIte,Nat.reduceEqDiff,List.getElem?_cons_succ,List.getElem?_cons_zero,exists_eq_left',wA,wB,wC,wD]
  exact hQ1 _ m3' (fun b=>b=ob) ((k1.tf k2).ft k3) (by omega) (by omega) ⟨k03,a3⟩
end
section
variable {m:M} {A:Ad} {S:PS} {own:Nat→Prop} {X:Nat→Ino} {tt aa i at' n:Nat}
set_option maxHeartbeats 2000000 in
set_option maxRecDepth 20000 in
theorem f89(hw:Wf m)(h:GAt m A S own)(ht:TAt m tt aa A.g)(hI:Inv S I2 X)(hD:Dat S I2 X)(hi:i∈I2)(hn:n≤4096)(hat:at'≤100000)(hsz:(X i).size≤68096){l:Nat}(hl:min n ((X i).size-at')=l):
  ∃m' ob,At m' ob l3 true (i9 (rdF S (X i) at' l))∧m.next≤ob∧Keep m m' (fun _=>False)∧Ran Tryz.prog tb a8K [.ptr A.o 0,.ptr tt 0,.agg i5,iv i,iv at',iv n] m (.tuple [.slice ob 0 l l false,iv 0]) m':=by
 obtain⟨m1,e1,a1,k1,n1⟩:=l6 hw G4 1 [.ptr A.o 0]
 obtain⟨m2,e2,a2,k2,n2⟩:=l6 k1.wf G3 1 [.ptr tt 0]
 obtain⟨m3,e3,a3,k3,n3⟩:=l6 k2.wf v7 12 i5
 obtain⟨m4,e4,a4,k4,n4⟩:=l6 k3.wf d5 1 [iv i]
 obtain⟨m5,e5,a5,k5,n5⟩:=l6 k4.wf d5 1 [iv at']
 obtain⟨m6,e6,a6,k6,n6⟩:=l6 k5.wf d5 1 [iv n]
 obtain⟨m7,e7,a7,k7,n7⟩:=B0 k6.wf C7 1 [j7]
 obtain⟨m8,e8,a8,k8,n8⟩:=B0 k7.wf j8 1 [iv 0]
 have k78:=k8
 have k68:=k7.tf k78
 have k58:=k6.tf k68
 have k48:=k5.tf k58
 have k38:=k4.tf k48
 have k28:=k3.tf k38
 have k18:=k2.tf k28
 have k08:=k1.tf k18
 have q1:m1.next=m.next+1:=n1
 have q2:m2.next=m.next+2:=by omega
 have q3:m3.next=m.next+3:=by omega
 have q4:m4.next=m.next+4:=by omega
 have q5:m5.next=m.next+5:=by omega
 have q6:m6.next=m.next+6:=by omega
 have q7:m7.next=m.next+7:=by omega
 have hB:RBx m8 A tt i at' n m.next j7:=by
  refine⟨a1.keep k1.wf k18 id,?_,?_,?_,?_,?_,?_,?_⟩
  ·rw[←q1];exact a2.keep k2.wf k28 id
  ·rw[←q2];exact a3.keep k3.wf k38 id
  ·rw[←q3];exact a4.keep k4.wf k48 id
  ·rw[←q4];exact a5.keep k5.wf k58 id
  ·rw[←q5];exact a6.keep k6.wf k68 id
  ·rw[←q6];exact a7.keep k7.wf k78 id
  ·rw[←q7];exact a8
 obtain⟨m9,c,a9,k9,n9,r9⟩:=a9B k08.wf (h.k0 hw k08) (ht.k0 hw k08) hI hi (iv 64) (iv 90) (iv 6) (iv 30) (iv 2) (iv 32) (iv 1) (iv 33) (iv 1) (iv 34) (iv 3) (iv 37)
 have hn9:=k9.next
 have hB9:=hB.keep k08.wf k9 fun _ _ _=>id
 obtain⟨m10,e10,a10,k10,n10⟩:=hB9.b13.st k9.wf 0 [iv 0]
 have hB10:=hB9.keep k9.wf k10
 have b6:=hB9.b6.keep k9.wf k10 (by omega)
 have b7:=hB9.b7.keep k9.wf k10 (by omega)
 have b8:=hB9.b8.keep k9.wf k10 (by omega)
 have b9:=hB9.b9.keep k9.wf k10 (by omega)
 have b10:=hB9.b10.keep k9.wf k10 (by omega)
 have b11:=hB9.b11.keep k9.wf k10 (by omega)
 have b12:=hB9.b12.keep k9.wf k10 (by omega)
 have hc10:=a9.keep k9.wf k10 (by omega)
 have hsz10:m10.rd c 17=some (ivn (X i).size):=by rw[hc10.rd];rfl
 have hmin:min (n:Int) (max 0 (((X i).size:Int)-(at':Int)))=(l:Int):=by omega
 obtain⟨m11,e11,a11,k11,n11⟩:=b11.st k10.wf 0 [iv l]
 have hll:l≤n:=by omega
 obtain⟨m12,e12,a12,k12,n12⟩:∃m',m11.addZ l3 (l*1) [.y 0] =m'∧At m' m11.next l3 true (i9 (List.replicate l 0))∧Keep m11 m' (fun _=>False)∧m'.next=m11.next+1:=⟨_,rfl,by rw[a0w,←a9v];exact At.addZr l rfl,Keep.addZ k11.wf,M.next_addZ ..⟩
 have hmk:a0X l3 1 1 [.y 0] (.cst (iv l)) (.cst (iv l)) .leaf m11=some (.slice m11.next 0 l l false,m12):=by rw[←e12];exact e5M l3 1 1 [.y 0] (n:=l) (by omega) (by omega)
 have k1112:Keep m10 m12 (fun b=>b=m.next+5):=k11.tf k12
 obtain⟨m13,e13,a13,k13,n13⟩:=(b12.keep k10.wf k1112 (by omega)).st k12.wf 0 [.slice m11.next 0 l l false]
 have hB13:RBx m13 A tt i at' l m.next (.slice m11.next 0 l l false):=⟨(b6.keep k10.wf k1112 (by omega)).keep k12.wf k13 (by omega),(b7.keep k10.wf k1112 (by omega)).keep k12.wf k13 (by omega),(b8.keep k10.wf k1112 (by omega)).keep k12.wf k13 (by omega),(b9.keep k10.wf k1112 (by omega)).keep k12.wf k13 (by omega),(b10.keep k10.wf k1112 (by omega)).keep k12.wf k13 (by omega),(a11.keep k11.wf k12 id).keep k12.wf k13 (by omega),a13,(a10.keep k10.wf k1112 (by omega)).keep k12.wf k13 (by omega)⟩
 have k013:Keep m m13 fun _=>False:=(((k08.tf k9).trans k10 fun b _ e=>by omega).trans k1112 fun b _ e=>by omega).trans k13 fun b _ e=>by omega
 have hout:=a12.keep k12.wf k13 (by omega)
 have hh13:=h.k0 hw k013
 have ht13:=ht.k0 hw k013
 have key:WpF Tryz.prog tb a8K [.ptr A.o 0,.ptr tt 0,.agg i5,iv i,iv at',iv n] m fun v m'=>v= .tuple [.slice m11.next 0 l l false,iv 0]∧At m' m11.next l3 true (i9 (rdF S (X i) at' l))∧Keep m m' fun _=>False:=by
  refine WpF.body f4P f4j f4d rfl f4C rfl ?_
  refine WpS.seq (WpS.code f5a ?_)
  simp-implicitDefEqProofs only[f4o,a8z,e1,e2,e3,e4,e5,e6,e7,e8,q1,q2,q3,q4,q5,q6,q7,↓reduceIte,Nat.reduceEqDiff,Nat.reduceAdd,wA,wB,wC,wD]
  refine WpS.seq (WpS.code f5f ?_)
  simp-implicitDefEqProofs only[f4r,a8G,a8y,hB.b10.rd,hB.b11.rd,show((at':Int)<0)=False from eq_false (by omega),show((n:Int)<0)=False from eq_false (by omega),show((4096:Int)<(n:Int))=False from eq_false (by omega),↓reduceIte,Nat.reduceEqDiff,List.getElem?_cons_zero,wA,wB,wC,wD]
  refine WpS.seq (WpS.code f5u ?_)
  have hpl:m8.rdN (m.next+2) 0 12=some i5:=hB.b8.rdN (by show 0+12≤12;omega)
  simp-implicitDefEqProofs only[f4z,a8r,hB.b6.rd,hB.b7.rd,hB.b9.rd,hpl,r9.eq,e10,↓reduceIte,Nat.reduceEqDiff,List.getElem?_cons_succ,List.getElem?_cons_zero,wA,wB,wC,wD]
  refine WpS.seq (WpS.code f5s ?_)
  simp-implicitDefEqProofs only[f4y,a8E,a10.rd,↓reduceIte,Nat.reduceEqDiff,List.getElem?_cons_zero,z6,wA,wB,wC,wD]
  refine WpS.seq (WpS.code f5e ?_)
  simp-implicitDefEqProofs only[f4E,a8B,b10.rd,b11.rd,hsz10,sB ((X i).size:Int) (at':Int),hmin,e11,↓reduceIte,Nat.reduceEqDiff,Nat.reduceAdd,List.getElem?_cons_succ,List.getElem?_cons_zero,exists_eq_left',wA,wB,wC,wD]
  refine WpS.seq (WpS.code f5d ?_)
  simp-implicitDefEqProofs only[f4A,a8s,a11.rd,hmk,e13,↓reduceIte,Nat.reduceEqDiff,List.getElem?_cons_zero,z6,wA,wB,wC,wD]
  refine WpS.seq (WpS.seq (WpS.code f5p ?_))
  simp-implicitDefEqProofs only[f4F,a8c,↓reduceIte,Nat.reduceEqDiff,wA,wB,wC,wD]
  refine WpS.block ((b7y (t:=52) (q:=53) (X:=15) (h:=a7q) (caps:= [.ptr (m.next+2) 0,.ptr (m.next+4) 0,.ptr (m.next+5) 0]) (at':=at') (n:=l) k13.wf f45 (by simp-implicitDefEqProofs only[d7,↓reduceIte]) f4R f5c (by decide) f5t (by omega) (by omega)
   (fun a mk=>Rj m13 S (X i) at' l m11.next a mk) (fun _=>False)
   (fun y mk Q' kk hq=>f7W (hB13.b8.keep k13.wf kk id) (hB13.b10.keep k13.wf kk id) (hB13.b11.keep k13.wf kk id) hq)
   (fun mk kk=>⟨kk.mono fun _ _ e=>e.elim,by rw[f8Z,List.nil_append,Nat.sub_zero];exact hout.keep k13.wf kk id⟩)
   (fun a mk mk' ⟨g1,g2⟩ hk kk=>⟨g1.trans kk fun b _ e=>by omega,g2.keep g1.wf kk (g2.kd.ne hk)⟩)
   (fun _ _ e=>e.elim)
   (fun a mk r Q' ha hb hJ hwk hr hp p1 p2=>f8h k13.wf hh13 ht13 hI hD hi hB13 (by omega) (by omega) hout.kd (fun b hb=>h.lt hw hb) (by omega) (by simp-implicitDefEqProofs only[d7,↓reduceIte,Nat.reduceEqDiff]) (by simp-implicitDefEqProofs only[d7,↓reduceIte,Nat.reduceEqDiff]) (by simp-implicitDefEqProofs only[d7,↓reduceIte,Nat.reduceEqDiff]) (by simp-implicitDefEqProofs only[d7,↓reduceIte,Nat.reduceEqDiff]) (by simp-implicitDefEqProofs only[d7,↓reduceIte,Nat.reduceEqDiff]) ha hb hJ hr hp p1)).mono ?_)
  rintro x f mm dd ⟨rfl,rfl,hdf,hwm,hnx,hx⟩
  rcases hx with⟨rfl,g1,g2⟩|⟨_,e⟩
  ·refine WpS.code f5i ?_
   have hBm:=hB13.keep k13.wf g1 fun b _ _ e=>by omega
   rw[Nat.sub_self,List.replicate_zero,List.append_nil] at g2
   obtain⟨m14,e14,a14,k14,n14⟩:=hBm.b12.st hwm 0 [.slice m11.next 0 l l false]
   obtain⟨m15,e15,a15,k15,n15⟩:=(hBm.b13.keep hwm k14 (by omega)).st k14.wf 0 [iv 0]
   have a14':=a14.keep k14.wf k15 (by omega)
   have hd15:m15.get m13.next=some (.obj (.dfr true)):=(k15.get _ (by omega) (by omega)).trans ((k14.get _ hnx (by omega)).trans hdf)
   have kz:Keep m15 (m15.put m13.next (.obj (.dfr false))) (fun b=>b=m13.next):=Keep.put k15.wf (by omega) rfl
   simp-implicitDefEqProofs only[f4p,a8o,hBm.b12.rd,e14,e15,↓reduceIte,Nat.reduceEqDiff,List.getElem?_cons_zero,wA,wB,wC,wD]
   refine⟨.inr trivial,m15.put m13.next (.obj (.dfr false)),?_,[.slice m11.next 0 l l false,iv 0],b8i (b:=m.next+6) (off:=0) (b2:=m.next+7) (off2:=0) (by kernel_rfl) (by kernel_rfl) (by simp-implicitDefEqProofs only[d7,↓reduceIte,Nat.reduceEqDiff]) ?_ (by kernel_rfl) (by kernel_rfl) (by simp-implicitDefEqProofs only[d7,↓reduceIte,Nat.reduceEqDiff]) ?_,rfl,?_,?_⟩
   ·show(ob (m15.dfr m13.next) fun op=>bc op (I7 [] (m15.put m13.next (.obj (.dfr false)))) none)=_
    rw[a2Q hd15];rfl
   ·rw[(a14'.keep k15.wf kz (by omega)).rd];rfl
   ·rw[(a15.keep k15.wf kz (by omega)).rd];rfl
   ·exact((g2.keep hwm k14 (by omega)).keep k14.wf k15 (by omega)).keep k15.wf kz (by omega)
   ·exact(((k013.trans g1 fun b _ e=>by omega).trans k14 fun b _ e=>by omega).trans k15 fun b _ e=>by omega).trans kz fun b _ e=>by omega
  ·exact e.elim
 obtain⟨v,m',⟨rfl,g2,g3⟩,r⟩:=key.ran
 exact⟨m',m11.next,g2,by omega,g3,r⟩
end
section
variable {m:M}
end
section
variable {m:M} {A:Ad} {S:PS} {own:Nat→Prop} {X:Nat→Ino} {tt aa i:Nat}
end
end Go.Proofs.YtooooiidpaecmaaGreatDoor
