import Derived.Test.YtooooiidpaecmaaGreatDoorDd
import Derived.Test.YtooooiidpaecmaaGreatDoorFe
import Derived.Test.YtooooiidpaecmaaGreatDoorAmRl
import Derived.Test.YtooooiidpaecmaaGreatDoorFk
set_option linter.unusedVariables false
set_option linter.unusedSimpArgs false
/- slices.Chunk of bytes, by sixteen; a range over it. -/
namespace Go.Am
open Go Go.RowKit
theorem g41{m:M}(sz b off len cap:Nat)(lim:Bool){lo hi:Nat}(h1:lo<hi)(h2:hi≤cap):
  rSl sz true (.cst (.slice b off len cap lim)) (some (.cst (iv (lo:Int)))) (some (.cst (iv (hi:Int)))) (some (.cst (iv (hi:Int)))) .leaf m=some (.slice b (off+lo*sz) (hi-lo) (hi-lo) true,m):=by
 show(ob (bnd (evo (some (.cst (iv (hi:Int)))) .leaf) cap cap) fun c=>ob (bnd (evo (some (.cst (iv (hi:Int)))) .leaf) (bc true 0 len) c) fun h=>ob (bnd (evo (some (.cst (iv (lo:Int)))) .leaf) 0 h) fun l=>bc (Nat.ble h c) (
   bc (Nat.beq c l&& !Nat.beq l 0) (fc (Nat.mul l sz) fun adv=>slEnd m b off adv (lim||true))
   (fc (Nat.add off (Nat.mul l sz)) fun o=>fc (Nat.sub h l) fun n=>fc (Nat.sub c l) fun k=>some (AV.slice b o n k (lim||true),m))) none)=_
 rw[P4,P4,Q0,Q0,O4 h2,J4,O4 (Nat.le_refl _),J4,O4 (show lo≤hi by omega),J4,A1,decide_eq_true (Nat.le_refl hi)]
 simp only[l9,z7,A4]
 rw[decide_eq_false (show ¬hi=lo by omega)]
 show some (AV.slice b (off+lo*sz) (hi-lo) (hi-lo) (lim||true),m)=_
 rw[Bool.or_true]
theorem g5D{m:M}(sz b off len cap:Nat)(lim:Bool){lo:Nat}(h1:lo<len)(h2:len≤cap):
  rSl sz false (.cst (.slice b off len cap lim)) (some (.cst (iv (lo:Int)))) none none .leaf m=some (.slice b (off+lo*sz) (len-lo) (cap-lo) lim,m):=by
 rw[a3m,a1l,P4,Q0,a2A,J4,O4 (show lo≤len by omega),J4,A1,decide_eq_true h2]
 simp only[l9,z7,A4]
 rw[decide_eq_false (show ¬cap=lo by omega)]
 show some (AV.slice b (off+lo*sz) (len-lo) (cap-lo) (lim||false),m)=_
 rw[Bool.or_false]
theorem g54(sz:Nat)(x l h k:RO)(fr:Fr)(m:M):run (.sl sz true x (some l) (some h) (some k)) fr m=rSl sz true (.cst (ev x fr)) (some (.cst (ev l fr))) (some (.cst (ev h fr))) (some (.cst (ev k fr))) .leaf m:=rfl
theorem b7U:∀{ds:List Nat} {m:M},Wf m→ds.Nodup→(∀d∈ds,m.get d=some (.obj (.dfr true)))→∃m',I7 ds m=some m'∧Keep m m' fun b=>b∈ds
 | [],m,hw,_,_=>⟨m,rfl,Keep.refl hw _⟩
 |d::ds,m,hw,hn,h=>by
  have hd:=h d (by simp)
  rw[List.nodup_cons] at hn
  have hlt:d<m.next:=by
   rcases Nat.lt_or_ge d m.next with q|q
   ·exact q
   ·rw[hw d q] at hd;cases hd
  have k1:Keep m (m.put d (.obj (.dfr false))) (fun b=>b∈d::ds):=Keep.put hw hlt (by simp)
  obtain⟨m',e,k⟩:=b7U (ds:=ds) (m:=m.put d (.obj (.dfr false))) k1.wf hn.2 fun x hx=>by
   rw[M.get_put,if_neg (fun e:x=d=>hn.1 (e▸hx))]
   exact h x (by simp[hx])
  refine⟨m',?_,k1.trans k fun b _ hb=>by simp[hb]⟩
  show(ob (m.dfr d) fun op=>bc op (I7 ds (m.put d (.obj (.dfr false)))) none)=_
  rw[a2Q hd]
  exact e
end Go.Am
namespace Go.Proofs.YtooooiidpaecmaaGreatDoor
open Go Go.Am
section
variable {m:M}
theorem f61(hw:Wf m)(s:AV)(hs:C1 s=some [s]):∃m',At m' m.next C7 true [s]∧At m' (m.next+1) d5 true [iv 16]∧Keep m m' (fun _=>False)∧m'.next=m.next+2∧Ran Tryz.prog tb b3F [s,iv 16] m (.func a17 [.ptr m.next 0,.ptr (m.next+1) 0]) m':=by
 obtain⟨m1,e1,a1,k1,n1⟩:=l6 hw C7 1 [s]
 obtain⟨m2,e2,a2,k2,n2⟩:=l6 k1.wf d5 1 [iv 16]
 rw[n1] at a2
 refine⟨m2,a1.keep k1.wf k2 id,a2,k1.tf k2,by omega,?_⟩
 refine WpF.go g6i ?_
 simp-implicitDefEqProofs only[g7D,e7t,e1M,e4Q,hs,e1,e2,n1,a2.rd,show((16:Int)<1)=False from eq_false (by omega),↓reduceIte,Nat.reduceEqDiff,Nat.reduceAdd,List.getElem?_cons_zero,wA,wB,wC,wD]
theorem f6u{y bs bn b off len cap N:Nat}{lim:Bool}(hl:len=16*N)(hcap:len≤cap)(hN:N≤1000){J:Nat→M→Prop}
  (hJa:∀k mk,J k mk→mk.rd bs 0=some (.slice b off len cap lim)∧mk.rd bn 0=some (iv 16))
  (hst:∀k mk,k<N→J k mk→WpY Tryz.prog tb y [.slice b (off+16*k) 16 16 true] mk fun v m'=>v= .b true∧J (k+1) m')
  (h0:J 0 m):WpF Tryz.prog tb a17 [.yield y,.ptr bs 0,.ptr bn 0] m fun _ m'=>J N m':=by
 refine WpF.go g5O ?_
 simp-implicitDefEqProofs only[a7z,d3x,Nat.reduceAdd,wA,wB,wC,wD]
 refine y7 (fun j fr mk=>∃k,k≤N∧j=N-k∧(ev (tm 0) fr= .yield y∧ev (tm 1) fr= .ptr bs 0∧ev (tm 2) fr= .ptr bn 0∧ev (tm 4) fr=iv (16*k:Nat))∧J k mk) (k:=N) ⟨0,Nat.zero_le _,rfl,by simp-implicitDefEqProofs only[nc0,Nat.mul_zero,d7,↓reduceIte,Nat.reduceEqDiff,nc0,and_self],h0⟩ ?_
 rintro j fr mk ⟨k,hk,rfl,⟨f0,f1,f2,f4⟩,hJ⟩
 obtain⟨h1,h2⟩:=hJa k mk hJ
 by_cases hlt:k<N
 ·have q1:=g5D (m:=mk) 1 b off len cap lim (lo:=16*k) (by omega) hcap
  have q3:=g41 (m:=mk) 1 b off len cap lim (lo:=16*k) (hi:=16*k+16) (by omega) (by omega)
  rw[Nat.mul_one,show 16*k+16-16*k=16 by omega] at q3
  rw[Nat.mul_one] at q1
  have hmin:min (16:Int) ((len-16*k:Nat):Int)=16:=by omega
  have hC:((16*k:Nat):Int)+16=((16*k+16:Nat):Int):=rfl
  simp-implicitDefEqProofs only[a7z,b2G,d6f,e4l,f0,f1,f2,f4,h1,h2,show(((16*k:Nat):Int)<(len:Int))=True from eq_true (by omega),q1,hmin,aD ((16*k:Nat):Int) 16,hC,g54,q3,↓reduceIte,Nat.reduceEqDiff,List.getElem?_cons_succ,List.getElem?_cons_zero,exists_eq_left',wA,wB,wC,wD]
  refine(hst k mk hlt hJ).mono ?_
  rintro v m' ⟨rfl,hJ'⟩
  obtain⟨g1,g2⟩:=hJa (k+1) m' hJ'
  simp-implicitDefEqProofs only[a7z,e3z,f2,f4,g2,aD ((16*k:Nat):Int) 16,hC,↓reduceIte,Nat.reduceEqDiff,wA,wB,wC,wD]
  exact y8 (k':=N-(k+1)) (by omega) ⟨k+1,by omega,rfl,by simp-implicitDefEqProofs only[f0,f1,f2,show 16*k+16=16*(k+1) by omega,d7,↓reduceIte,Nat.reduceEqDiff,and_self],hJ'⟩
 ·obtain rfl:k=N:=by omega
  simp-implicitDefEqProofs only[a7z,b2G,f1,f4,h1,show(((16*k:Nat):Int)<(len:Int))=False from eq_false (by omega),↓reduceIte,Nat.reduceEqDiff,wA,wB,wC,wD]
  exact hJ
end
section
variable {m3:M}
theorem f5R{f:Operand}{ps:Array Tmp}{ca bd:Code}{ds:List Nat}{t q X bs bn b off len cap N:Nat}{lim:Bool}{fr:Go.Am.Fr}{cb:CC}(hw:Wf m3)
  (hf:cO f=tm t) (hev:ev (tm t) fr= .func a17 [.ptr bs 0,.ptr bn 0]) (hps:ps.toList= [q]) (has:j9 Tryz.prog ca= .reg [.op (some (pth X)) none (.mv (tm q))]) (hbd:j9 Tryz.prog bd=cb)
  (hl:len=16*N) (hcap:len≤cap) (hN:N≤1000) (J:Nat→M→Prop)
  (hJa:∀k mk,J k mk→mk.rd bs 0=some (.slice b off len cap lim)∧mk.rd bn 0=some (iv 16))
  (h0:∀mk,Keep m3 mk (fun _=>False)→J 0 mk)
  (hJ:∀a mk mk',J a mk→kd mk (m3.next+1) 0→Keep mk mk' (fun b=>b=m3.next+1)→J a mk')
  (body:∀k mk (Q:Go.Am.X→Go.Am.Fr→M→Prop),k<N→J k mk→Wf mk→kd mk m3.next 0→kd mk (m3.next+1) 0→
   (∀fr' m2 F,Keep mk m2 F→¬F m3.next→¬F (m3.next+1)→J (k+1) m2→Q .normal fr' m2)→
   GX Tryz.prog tb cb Q (D5 X (.slice b (off+16*k) 16 16 true) (D5 q (.slice b (off+16*k) 16 16 true) fr)) mk):
  WpS Tryz.prog tb (.rangeFunc f ps ca bd) ds none fr m3 fun x f mm d=>f=fr∧d=m3.next::ds∧mm.get m3.next=some (.obj (.dfr true))∧Wf mm∧m3.next<mm.next∧x= .normal∧J N mm:=by
 refine WpS.range (h:=a17) (caps:= [.ptr bs 0,.ptr bn 0]) (by rw[hf];exact hev) ?_
 have k1:Keep m3 (m3.new (.obj (.dfr true))) (fun _=>False):=Keep.new hw
 have n1:(m3.new (.obj (.dfr true))).next=m3.next+1:=M.next_new _ _
 have g1:(m3.new (.obj (.dfr true))).get m3.next=some (.obj (.dfr true)):=by rw[M.get_new,if_pos rfl]
 generalize m3.new (.obj (.dfr true))=m4 at k1 n1 g1⊢
 obtain⟨L0,hL0⟩:∃L0:ALoop,L0=⟨0,none,fr,ps.toList,ca,bd,m3.next⟩:=⟨_,rfl⟩
 rw[←hL0]
 have hst:L0.st=0:=by rw[hL0]
 have hpd:L0.pend=none:=by rw[hL0]
 have hfr:L0.fr=fr:=by rw[hL0]
 have hpr:L0.params= [q] :=by rw[hL0];exact hps
 have hasg:j9 Tryz.prog L0.assign= .reg [.op (some (pth X)) none (.mv (tm q))] :=by rw[hL0];exact has
 have hbod:j9 Tryz.prog L0.body=cb:=by rw[hL0];exact hbd
 clear hL0
 have k2:Keep m4 (m4.new (.obj (.loop L0))) (fun _=>False):=Keep.new k1.wf
 have n2:(m4.new (.obj (.loop L0))).next=m4.next+1:=M.next_new _ _
 have g2:(m4.new (.obj (.loop L0))).get m4.next=some (.obj (.loop L0)):=by rw[M.get_new,if_pos rfl]
 generalize m4.new (.obj (.loop L0))=m5 at k2 n2 g2⊢
 have g15:m5.get m3.next=some (.obj (.dfr true)):=(k2.get _ (by omega) fun h=>h).trans g1
 rw[n1] at g2
 have k35:=k1.tf k2
 have kdl:∀{mk:M} {L:ALoop},mk.get (m3.next+1)=some (.obj (.loop L))→kd mk (m3.next+1) 0:=fun h=>by unfold kd;rw[h]
 have key:=f6u (m:=m5) (y:=m3.next+1) (bs:=bs) (bn:=bn) (b:=b) (off:=off) (len:=len) (cap:=cap) (N:=N) (lim:=lim) hl hcap hN (J:=fun a mk=>J a mk∧Wf mk∧mk.get m3.next=some (.obj (.dfr true))∧mk.get (m3.next+1)=some (.obj (.loop L0))∧m3.next+1<mk.next)
   (fun k mk h=>hJa k mk h.1)
   (fun a mk ha ⟨hj,hwk,hd,hl,hnx⟩=>by
    refine WpY.code (I3 hl) (by rw[hpr];rfl) hasg hbod ?_
    rw[hpr,hfr]
    show GX Tryz.prog tb (.reg [.op (some (pth X)) none (.mv (tm q))]) _ (D5 q (.slice b (off+16*a) 16 16 true) fr) mk
    simp-implicitDefEqProofs only[↓reduceIte,wA,wB,wC,wD]
    refine⟨L0,I3 hl,hst,?_⟩
    have kp:Keep mk (mk.put (m3.next+1) (.obj (.loop {L0 with st:=1}))) (fun b=>b=m3.next+1):=Keep.put hwk hnx rfl
    have np:(mk.put (m3.next+1) (.obj (.loop {L0 with st:=1}))).next=mk.next:=M.next_put ..
    have gp:(mk.put (m3.next+1) (.obj (.loop {L0 with st:=1}))).get (m3.next+1)=some (.obj (.loop {L0 with st:=1})):=by rw[M.get_put,if_pos rfl]
    have hjp:=hJ a mk _ hj (kdl hl) kp
    have gdp:=(kp.get m3.next (by omega) (by omega)).trans hd
    generalize mk.put (m3.next+1) (.obj (.loop {L0 with st:=1}))=mp at kp np gp hjp gdp⊢
    refine body a mp _ ha hjp kp.wf (by unfold kd;rw[gdp]) (kdl gp) (fun f2 m2 F kF hF1 hF2 hj2=> ?_)
    have gl2:=(kF.get (m3.next+1) (by omega) hF2).trans gp
    have gd2:=(kF.get m3.next (by omega) hF1).trans gdp
    have hn2:=kF.next
    refine⟨{L0 with st:=1},I3 gl2,?_⟩
    have hfin:({({L0 with st:=1}:ALoop) with st:=bc (B8 .normal).isNone 0 2,pend:=B8 .normal}:ALoop)=L0:=by
     show({L0 with st:=0,pend:=none}:ALoop)=L0
     rw[←hst,←hpd]
    rw[hfin]
    have kz:Keep m2 (m2.put (m3.next+1) (.obj (.loop L0))) (fun b=>b=m3.next+1):=Keep.put kF.wf (by omega) rfl
    have nz:=M.next_put m2 (m3.next+1) (.obj (.loop L0))
    exact⟨rfl,hJ _ _ _ hj2 (kdl gl2) kz,kz.wf,(kz.get _ (by omega) (by omega)).trans gd2,by rw[M.get_put,if_pos rfl],by omega⟩)
   ⟨h0 m5 k35,k2.wf,g15,g2,by omega⟩
 rw[n1]
 refine key.mono ?_
 rintro v m6 ⟨hj,hw6,hd,hl,hnx⟩
 have kz:Keep m6 (m6.put (m3.next+1) (.obj (.loop {L0 with st:=3}))) (fun b=>b=m3.next+1):=Keep.put hw6 hnx rfl
 have nz:=M.next_put m6 (m3.next+1) (.obj (.loop {L0 with st:=3}))
 exact⟨L0,.normal,I3 hl,by rw[hst];decide,by rw[hpd];rfl,rfl,rfl,(kz.get _ (by omega) (by omega)).trans hd,kz.wf,by omega,rfl,hJ _ _ _ hj (kdl hl) kz⟩
end
structure DirAt(S:PS)(X:Nat→Ino)(D:List (Nat×Bs)):Prop where
 kd:(X 3).kind=2
 lk:(X 3).links=1
 sz:(X 3).size=16*D.length
 ok:∀e∈D,EOk e
 by':∀(k:Nat) (e:Nat×Bs),D[k]? =some e→rdF S (X 3) (16*k) 16=ent e
noncomputable def B1(D:List (Nat×Bs)):List AV:=(D.map fun e=> [ivn e.1,tv e.2]).flatten
theorem f5Z(D:List (Nat×Bs))(e:Nat×Bs):B1 (D++ [e])=B1 D++ [ivn e.1,tv e.2] :=by simp[B1]
theorem a4G:∀D,(B1 D).length=2*D.length
 | [] =>rfl
 |e::D=>by
  show([ivn e.1,tv e.2] ++B1 D).length=_
  rw[List.length_append,a4G D]
  show 2+2*D.length=2*(D.length+1)
  omega
theorem K8(i:Int)(s:Bs):v6 40 (.agg [iv i,tv s]) (.agg [iv i,tv s])=true:=by
 show(v6 39 (iv i) (iv i)&&(v6 39 (tv s) (tv s)&&true))=true
 rw[g6O,g7m];rfl
noncomputable abbrev nmL(o tt:Nat)(x:AV):List AV:= [.ptr o 0,.ptr tt 0,iv 64,iv 90,iv 6,iv 30,iv 2,iv 32,iv 1,iv 33,iv 1,iv 34,iv 3,iv 37,iv 3,x]
section
variable {mk:M} {n o tt pv b off:Nat} {x:AV} {ob:Option Nat} {D:List (Nat×Bs)} {e:Nat×Bs} {fr:Go.Am.Fr}
set_option maxRecDepth 20000 in
theorem f8k{Q:Go.Am.X→Go.Am.Fr→M→Prop}(hw:Wf mk)(hn:At mk n P1 true (nmL o tt x))(hs:SlAt mk x7 2 x D.length (B1 D) ob)(hp:At mk pv a0v true [.ptr n 0])(he:EOk e)(hb:BsAt mk (.slice b off 16 16 true) (ent e) b)
  (f16:ev (tm 16) fr= .slice b off 16 16 true) (f12:ev (tm 12) fr= .ptr pv 0) (hl:D.length≤10000)
  (hQ:∀fr' m2 x' ob',Keep mk m2 (fun b=>b=n∨ob=some b)→At m2 n P1 true (nmL o tt x')→SlAt m2 x7 2 x' (D++ [e]).length (B1 (D++ [e])) ob'→(ob'=ob∨∃b,ob'=some b∧mk.next≤b)→Q .normal fr' m2):
  GX Tryz.prog tb a8h Q fr mk:=by
 obtain⟨m1,k1,r1⟩:=f5V hw he hb (Nat.le_refl _)
 obtain⟨m2,e2,a2,k2,n2⟩:=B0 k1.wf x7 2 [iv 0,tv []]
 obtain⟨m3,e3,a3,k3,n3⟩:=a2.st k2.wf 0 [ivn e.1,tv e.2] (l':= [ivn e.1,tv e.2])
 have hn1:=k1.next
 have k03:Keep mk m3 fun _=>False:=(k1.tf k2).trans k3 fun b hb e=>by omega
 obtain⟨m4,e4,a4,k4,n4⟩:=l6 k03.wf x7 2 [ivn e.1,tv e.2]
 have k04:=k03.tf k4
 have hp3:=hp.keep hw k03 id
 have hn3:=hn.keep hw k03 id
 have src:SlAt m4 x7 2 (.slice m3.next 0 1 1 false) 1 [ivn e.1,tv e.2] (some m3.next):= .row (junk:= []) a4 rfl rfl (Nat.le_refl _) (by decide)
 obtain⟨s5,m5,o5,e5,S5,k5,ho5⟩:=(hs.keep hw k04 fun _ _=>id).append (bytes:=24) (z:= [iv 0,tv []]) k04.wf src.src (U1 (by omega) (by omega))
 have hnob:¬ob=some n:=fun e=>by
  rw[e] at hs
  exact absurd (hs.kd.inj hn.kd) (by decide)
 have hn5:=(hn3.keep k03.wf k4 id).keep k04.wf k5 hnob
 obtain⟨m6,e6,a6,k6,n6⟩:=hn5.st k5.wf 15 [s5] (l':=nmL o tt s5)
 have hno5:¬o5=some n:=fun e=>by
  rw[e] at S5
  exact absurd (S5.kd.inj hn5.kd) (by decide)
 have L3:m3.rdN m1.next 0 2=some [ivn e.1,tv e.2] :=a3.rdN (by show 0+2≤2;omega)
 have h1:=he.i1
 have hx:m3.rd n 15=some x:=by rw[hn3.rd];rfl
 have hne:¬(e.1:Int)=0:=by omega
 have hp4:=hp3.keep k03.wf k4 id
 have hx4:m4.rd n 15=some x:=by rw[(hn3.keep k03.wf k4 id).rd];rfl
 have hp5:=hp4.keep k04.wf k5 fun e=>by
  rw[e] at hs
  exact absurd (hs.kd.inj hp.kd) (by decide)
 simp-implicitDefEqProofs only[f4w,a8t,a8C,a8x,f16,f12,r1.eq,e2,e3,a3.rd,decide_eq_false hne,hp3.rd,hx,hp4.rd,hx4,hp5.rd,hs.aq,K8,L3,e4,e5,S5.cl,e6,↓reduceIte,Nat.reduceEqDiff,Nat.reduceAdd,Nat.reduceLeDiff,List.getElem?_cons_succ,List.getElem?_cons_zero,exists_eq_left',wA,wB,wC,wD]
 refine hQ _ m6 s5 o5 ((k04.mono (G:=fun b=>b=n∨ob=some b) fun _ _ e=>e.elim).trans k5 (fun b _ e=> .inr e)|>.trans k6 fun b _ e=> .inl e) a6 ?_ ?_
 ·rw[f5Z,List.length_append]
  exact S5.keep k5.wf k6 fun b hb e=>hno5 (by rw[hb,e])
 ·rcases ho5 with e|⟨b,e,h5,_⟩
  ·exact .inl e
  ·have:=k04.next
   exact .inr ⟨b,e,by omega⟩
end
theorem g0f{S:PS}{x:Ino}{at' l k w:Nat}(h:k+w≤l):((rdF S x at' l).drop k).take w=rdF S x (at'+k) w:=by
 apply List.ext_getElem?
 intro j
 rw[List.getElem?_take,List.getElem?_drop]
 by_cases hj:j<w
 ·rw[if_pos hj,a1t _ _ _ _ (by omega),a1t _ _ _ _ hj,Nat.add_assoc]
 ·rw[if_neg hj,List.getElem?_eq_none (by rw[U0];omega)]
section
variable {m:M} {A:Ad} {S:PS} {own:Nat→Prop} {X:Nat→Ino} {tt aa:Nat} {D:List (Nat×Bs)}
structure NAt(m0 m:M)(n o tt:Nat)(D:List (Nat×Bs)):Prop where
 ex:∃x ob,At m n P1 true (nmL o tt x)∧SlAt m x7 2 x D.length (B1 D) ob∧∀b,ob=some b→m0.next≤b
structure Rk(m9 mk:M)(n o tt bs bn ob l:Nat)(R:Bs)(ds:List Nat)(D:List (Nat×Bs)):Prop where
 kp:Keep m9 mk fun b=>b=n
 na:NAt m9 mk n o tt D
 s:At mk bs C7 true [.slice ob 0 l l false]
 n:At mk bn d5 true [iv 16]
 r:At mk ob l3 true (i9 R)
 d:∀x∈ds,mk.get x=some (.obj (.dfr true))
theorem f7f{j:Nat}{e:Nat×Bs}(h:D[j]? =some e):D.take (j+1)=D.take j++ [e] :=by
 rw[List.take_add_one,h];rfl
set_option maxRecDepth 20000 in
set_option maxHeartbeats 4000000 in
theorem b8P(hw:Wf m)(h:GAt m A S own)(ht:TAt m tt aa A.g)(hF:FS S I2 X)(hD:DirAt S X D)(hl:D.length≤1000):
  ∃m' n x ob,Keep m m' (fun _=>False)∧m.next≤n∧At m' n P1 true (nmL A.o tt x)∧SlAt m' x7 2 x D.length (B1 D) ob∧(∀b,ob=some b→m.next≤b)∧
   Ran Tryz.prog tb a4B [.ptr A.o 0,.ptr tt 0,.agg i5,iv 3] m (.tuple [.ptr n 0,iv 0]) m':=by
 have hi3:(3:Nat)∈I2:=by simp
 obtain⟨_,hx3,ho3⟩:=hF.inv.ino 3 hi3
 obtain⟨m1,e1,a1,k1,n1⟩:=l6 hw v7 12 i5
 obtain⟨m2,e2,a2,k2,n2⟩:=B0 k1.wf a0v 1 [s9]
 obtain⟨m3,e3,a3,k3,n3⟩:=B0 k2.wf j8 1 [iv 0]
 have k13:=k2.tf k3
 have k03:=k1.tf k13
 obtain⟨m4,k4,r4⟩:=a0I k03.wf (h.k0 hw k03) (ht.k0 hw k03) (.inr rfl) hx3 ho3
 rw[show((3:Nat):Int)=3 from rfl] at r4
 have k04:=k03.tf k4
 have hX13:(s8 (X 3).kind (X 3).links (X 3).size (X 3).ps).length=13:=by rw[X5,ho3.len]
 obtain⟨m5,e5,a5,k5,n5⟩:=B0 k04.wf A3 13 z13
 obtain⟨m6,e6,a6,k6,n6⟩:=a5.st k5.wf 0 (s8 (X 3).kind (X 3).links (X 3).size (X 3).ps) (l':=s8 (X 3).kind (X 3).links (X 3).size (X 3).ps) (by unfold z6;rw[List.take_zero,List.nil_append,List.drop_of_length_le (by rw[hX13];exact Nat.le_refl _),List.append_nil]) (by rw[hX13];exact Nat.le_refl _)
 have hq4:=k4.next
 have k46:Keep m4 m6 fun _=>False:=k5.trans k6 fun b hb e=>by omega
 have k06:Keep m m6 fun _=>False:=k04.tf k46
 obtain⟨m7,e7,a7,k7,n7⟩:=l6 k06.wf P1 16 (nmL A.o tt j7)
 obtain⟨m8,e8,a8,k8,n8⟩:=B0 k7.wf a0v 1 [s9]
 obtain⟨m9,e9,a9,k9,n9⟩:=a8.st k8.wf 0 [.ptr m6.next 0]
 have k79:Keep m7 m9 fun _=>False:=k8.trans k9 fun b hb e=>by omega
 have k69:Keep m6 m9 fun _=>False:=k7.tf k79
 have k49:=k46.tf k69
 have k19:Keep m1 m9 fun _=>False:=(k13.tf k4).tf k49
 have k09:Keep m m9 fun _=>False:=k1.tf k19
 have hqn1:m1.next=m.next+1:=n1
 have hqn2:m2.next=m.next+2:=by omega
 have hqn3:m3.next=m.next+3:=by omega
 have b6:=a1.keep k1.wf k19 id
 have b8:At m9 (m.next+1) a0v true [s9] :=by rw[←hqn1];exact((a2.keep k2.wf k3 id).keep k03.wf k4 id).keep k04.wf k49 id
 have b9:At m9 (m.next+2) j8 true [iv 0] :=by rw[←hqn2];exact(a3.keep k03.wf k4 id).keep k04.wf k49 id
 have b10:=a6.keep k06.wf k69 id
 have bn:=a7.keep k7.wf k79 id
 have hnx6:m6.next=m4.next+1:=by omega
 generalize hn:m6.next=n at*
 have hpv:m7.next=n+1:=by omega
 rw[hpv] at a9 e9
 have hP6:m6.rdN m.next 0 12=some i5:=((a1.keep k1.wf ((k13.tf k4).tf k46) id)).rdN (by show 0+12≤12;omega)
 have hk:=hD.kd
 have hs:=hD.sz
 have L10:∀{mk:M},At mk m4.next A3 true (s8 (X 3).kind (X 3).links (X 3).size (X 3).ps)→mk.rd m4.next 0=some (iv 2)∧mk.rd m4.next 2=some (ivn (16*D.length)):=fun h=>⟨by rw[h.rd,hk];rfl,by rw[h.rd,hs];rfl⟩
 obtain⟨i0,i2⟩:=L10 a6
 have hrem:=Y9 (P:=Tryz.prog) (a:=16*D.length) (b:=16) d5 (by omega) (by omega)
 rw[show 16*D.length % 16=0 by omega,show((16:Nat):Int)=16 from rfl] at hrem
 have hsz:=hF.sz 3 hi3
 have key:WpF Tryz.prog tb a4B [.ptr A.o 0,.ptr tt 0,.agg i5,iv 3] m fun v m'=>v= .tuple [.ptr n 0,iv 0]∧Keep m m' (fun _=>False)∧∃x ob,At m' n P1 true (nmL A.o tt x)∧SlAt m' x7 2 x D.length (B1 D) ob∧∀b,ob=some b→m.next≤b:=by
  refine WpF.body f5r f4t f4g rfl f4J rfl ?_
  refine WpS.seq (WpS.code f5H ?_)
  simp-implicitDefEqProofs only[f4N,a8N,e1,e2,e3,hqn1,hqn2,↓reduceIte,Nat.reduceEqDiff,Nat.reduceAdd,wA,wB,wC,wD]
  refine WpS.seq (WpS.code f5G ?_)
  simp-implicitDefEqProofs only[f4T,a8L,r4.eq,e5,hX13,e6,↓reduceIte,Nat.reduceEqDiff,List.getElem?_cons_succ,List.getElem?_cons_zero,wA,wB,wC,wD]
  refine WpS.seq (WpS.code f5J ?_)
  simp-implicitDefEqProofs only[f4G,a8R,a8P,a8M,a8I,i0,i2,hrem,show((2:Int)=0)=False from eq_false (by omega),↓reduceIte,Nat.reduceEqDiff,wA,wB,wC,wD]
  refine WpS.seq (WpS.code f5L ?_)
  simp-implicitDefEqProofs only[f4K,a8p,hP6,e7,e8,hn,hpv,e9,↓reduceIte,Nat.reduceEqDiff,Nat.reduceAdd,Nat.reduceLeDiff,wA,wB,wC,wD]
  refine WpS.seq (WpS.seq (WpS.code f5I ?_))
  simp-implicitDefEqProofs only[f44,a8D,wA,wB,wC,wD]
  refine WpS.block (WpS.loop (fun k ds fr mk=>∃j,4*j≤D.length+3∧k=(D.length+3)/4-j∧(ev (tm 0) fr= .ptr A.o 0∧ev (tm 1) fr= .ptr tt 0∧ev (tm 3) fr=iv 3∧ev (tm 6) fr= .ptr m.next 0∧ev (tm 8) fr= .ptr (m.next+1) 0∧ev (tm 9) fr= .ptr (m.next+2) 0∧ev (tm 10) fr= .ptr m4.next 0∧ev (tm 12) fr= .ptr (n+1) 0∧ev (tm 13) fr=iv (64*j:Nat))∧
   Keep m9 mk (fun b=>b=n)∧NAt m9 mk n A.o tt (D.take (4*j))∧ds.Nodup∧∀d∈ds,m9.next≤d∧mk.get d=some (.obj (.dfr true))) (k:=(D.length+3)/4) ⟨0,by omega,rfl,by simp-implicitDefEqProofs only[Nat.mul_zero,nc0,d7,↓reduceIte,Nat.reduceEqDiff,nc0,and_self],Keep.refl k09.wf _,⟨j7,none,bn,.nil,nofun⟩,List.nodup_nil,nofun⟩ ?_)
  rintro k ds fr mk ⟨j,hj,rfl,⟨f0,f1,f3,f6,f8,f9,f10,f12,f13⟩,kk,hna,hnd,hds⟩
  have k0k:Keep m mk fun _=>False:=k09.trans kk fun b hb e=>by omega
  have hnk:=kk.next
  have b10k:=b10.keep k09.wf kk (by omega)
  have b6k:=b6.keep k09.wf kk (by omega)
  have b12k:=a9.keep k09.wf kk (by omega)
  have hP6k:mk.rdN m.next 0 12=some i5:=b6k.rdN (by show 0+12≤12;omega)
  have hB6k:mk.rd m.next 0=some (iv 64):=by rw[b6k.rd];rfl
  obtain⟨j0,j2⟩:=L10 b10k
  refine WpS.seq (WpS.code f5y ?_)
  by_cases hlt:4*j<D.length
  ·simp-implicitDefEqProofs only[b6C,a4v,f13,f10,j2,show(((64*j:Nat):Int)<((16*D.length:Nat):Int))=True from eq_true (by omega),↓reduceIte,Nat.reduceEqDiff,wA,wB,wC,wD]
   obtain⟨N,hN⟩:∃N,N=min 4 (D.length-4*j):=⟨_,rfl⟩
   obtain⟨p1,o1,c1,ho1,q1,s1⟩:=f89 k0k.wf (h.k0 hw k0k) (ht.k0 hw k0k) hF.inv hF.dat hi3 (n:=64) (at':=64*j) (by omega) (by omega) hsz (l:=16*N) (by omega)
   rw[show((3:Nat):Int)=3 from rfl,show((64:Nat):Int)=64 from rfl] at s1
   obtain⟨p2,c2,c3,q2,n2',s2⟩:=f61 q1.wf (.slice o1 0 (16*N) (16*N) false) rfl
   have q12:=q1.tf q2
   have hq1:=q1.next
   refine WpS.seq (WpS.block (WpS.seq (WpS.code f5B ?_)))
   simp-implicitDefEqProofs only[f4I,a8w,f0,f1,f3,f6,f13,hP6k,hB6k,s1.eq,↓reduceIte,Nat.reduceEqDiff,List.getElem?_cons_succ,List.getElem?_cons_zero,wA,wB,wC,wD]
   refine WpS.seq (WpS.code f5A ?_)
   simp-implicitDefEqProofs only[f41,a8A,↓reduceIte,wA,wB,wC,wD]
   refine WpS.seq (WpS.code f5M ?_)
   simp-implicitDefEqProofs only[f4S,a8v,s2.eq,↓reduceIte,Nat.reduceEqDiff,wA,wB,wC,wD]
   have k9p:Keep m9 p2 fun b=>b=n:=kk.tf q12
   have hdp:∀x∈ds,x<mk.next:=fun x hx=>by
    rcases Nat.lt_or_ge x mk.next with q|q
    ·exact q
    ·have:=(hds x hx).2;rw[k0k.wf x q] at this;cases this
   refine WpS.block ((f5R (t:=72) (q:=73) (X:=16) (bs:=p1.next) (bn:=p1.next+1) (b:=o1) (off:=0) (len:=16*N) (cap:=16*N) (N:=N) (lim:=false) q2.wf f5n (by simp-implicitDefEqProofs only[d7,↓reduceIte]) f5j f5C f5k rfl (Nat.le_refl _) (by omega)
    (fun a mk'=>Rk m9 mk' n A.o tt p1.next (p1.next+1) o1 (16*N) (rdF S (X 3) (64*j) (16*N)) ds (D.take (4*j+a)))
    (fun a mk' hr=>⟨by rw[hr.s.rd];rfl,by rw[hr.n.rd];rfl⟩)
    (fun mk' kq=> ?_) (fun a mk' mk'' hr hkd kq=> ?_) (fun a mk' Q ha hr hwk hd0 hd1 hQ=> ?_)).mono ?_)
   ·obtain⟨x,ob,gn,gs,go⟩:=hna
    have q0:=q12.tf kq
    refine⟨k9p.tf kq,⟨x,ob,gn.keep k0k.wf q0 id,gs.keep k0k.wf q0 fun _ _=>id,go⟩,c2.keep q2.wf kq id,c3.keep q2.wf kq id,(c1.keep q1.wf q2 id).keep q2.wf kq id,fun x hx=>(q0.get x (hdp x hx) id).trans (hds x hx).2⟩
   ·obtain⟨x,ob,gn,gs,go⟩:=hr.na
    have hw':=hr.kp.wf
    refine⟨hr.kp.trans kq fun b hb e=>by omega,⟨x,ob,gn.keep hw' kq (gn.kd.ne hkd),gs.keep hw' kq fun b hb=>(hb▸gs:SlAt _ _ _ _ _ _ (some b)).kd.ne hkd,go⟩,hr.s.keep hw' kq (hr.s.kd.ne hkd),hr.n.keep hw' kq (hr.n.kd.ne hkd),hr.r.keep hw' kq (hr.r.kd.ne hkd),fun x hx=> ?_⟩
    have hx2:=hdp x hx
    have hx3:=q12.next
    have hx4:=hr.kp.next
    refine(kq.get x ?_ (by omega)).trans (hr.d x hx)
    rcases Nat.lt_or_ge x mk'.next with q|q
    ·exact q
    ·have:=hr.d x hx;rw[hw' x q] at this;cases this
   ·obtain⟨x,ob,gn,gs,go⟩:=hr.na
    have hlt2:4*j+a<D.length:=by omega
    have hv:D[4*j+a]? =some D[4*j+a] :=List.getElem?_eq_getElem hlt2
    have he:=hD.ok _ (List.getElem_mem hlt2)
    generalize D[4*j+a] =e at hv he
    have hbs:BsAt mk' (.slice o1 (0+16*a) 16 16 true) (ent e) o1:=by
     have hb0:BsAt mk' (.slice o1 0 (rdF S (X 3) (64*j) (16*N)).length (16*N) false) (rdF S (X 3) (64*j) (16*N)) o1:= .row hr.r.r (by simp[i9]) (by rw[List.drop_zero];exact List.take_of_length_le (by simp[i9]))
     have:=BsAt.sub (cap':=16) (lim':=true) hb0 (at':=16*a) (w:=16) (by rw[U0];omega)
     rw[g0f (by omega),show 64*j+16*a=16*(4*j+a) by omega,hD.by' _ e hv] at this
     exact this
    rw[Nat.zero_add] at hbs⊢
    have htl:(D.take (4*j+a)).length≤10000:=by rw[List.length_take];omega
    have hb12:=a9.keep k09.wf hr.kp (by omega)
    refine f8k (n:=n) (o:=A.o) (tt:=tt) (pv:=n+1) (x:=x) (ob:=ob) (D:=D.take (4*j+a)) hwk gn gs hb12 he hbs (by simp-implicitDefEqProofs only[d7,↓reduceIte]) (by simp-implicitDefEqProofs only[f12,d7,↓reduceIte,Nat.reduceEqDiff]) htl fun fr' m2 x' ob' kF g1 g2 g3=> ?_
    have hob9:∀b,ob=some b→kd mk' b (x7+1):=fun b hb=>by subst hb;exact gs.kd
    have kx:∀{b k:Nat},kd mk' b k→k≠P1+1→k≠x7+1→¬(b=n∨ob=some b):=fun hb h1 h2 e=>by
     rcases e with rfl|e
     ·exact h1 (hb.inj gn.kd)
     ·exact h2 (hb.inj (hob9 _ e))
    have kdd:∀{x:Nat} {c:Bool},mk'.get x=some (.obj (.dfr c))→kd mk' x 0:=fun h=>by unfold kd;rw[h]
    have hn9:∀b,ob=some b→m9.next≤b:=go
    refine hQ fr' m2 _ kF (kx hd0 (by decide) (by decide)) (kx hd1 (by decide) (by decide)) ⟨hr.kp.trans kF fun b hb e=>by
      rcases e with e|e
      ·exact e
      ·exact absurd (hn9 b e) (by omega),?_,hr.s.keep hwk kF (kx hr.s.kd (by decide) (by decide)),hr.n.keep hwk kF (kx hr.n.kd (by decide) (by decide)),hr.r.keep hwk kF (kx hr.r.kd (by decide) (by decide)),fun x hx=> ?_⟩
    ·rw[←Nat.add_assoc,f7f hv]
     refine⟨x',ob',g1,g2,fun b hb=> ?_⟩
     rcases g3 with g|⟨c,g,hc⟩
     ·exact go b (g▸hb)
     ·rw[g] at hb
      cases hb
      have:=hr.kp.next
      omega
    ·have hx0:=hr.d x hx
     refine(kF.get x ?_ (kx (kdd hx0) (by decide) (by decide))).trans hx0
     rcases Nat.lt_or_ge x mk'.next with q|q
     ·exact q
     ·rw[hwk x q] at hx0;cases hx0
   ·rintro x f mm d ⟨rfl,rfl,hdf,hwm,hnx,rfl,hr⟩
    refine WpS.code f5q ?_
    have hC:((64*j:Nat):Int)+64=((64*j+64:Nat):Int):=rfl
    have hB6m:mm.rd m.next 0=some (iv 64):=by rw[(b6.keep k09.wf hr.kp (by omega)).rd];rfl
    simp-implicitDefEqProofs only[f4v,a8F,f13,f6,hB6m,aD ((64*j:Nat):Int) 64,hC,↓reduceIte,Nat.reduceEqDiff,wA,wB,wC,wD]
    refine⟨(D.length+3)/4-(j+1),by omega,j+1,by omega,rfl,by simp-implicitDefEqProofs only[f0,f1,f3,f8,f9,f10,f12,show 64*j+64=64*(j+1) by omega,and_self],hr.kp,?_,?_,?_⟩
    ·have:=hr.na
     by_cases h4:N=4
     ·rw[h4] at this
      rwa [show 4*(j+1)=4*j+4 by omega]
     ·rw[List.take_of_length_le (by omega)] at this⊢
      exact this
    ·rw[List.nodup_cons]
     exact⟨fun hx=>by have:=hdp _ hx;have:=q12.next;omega,hnd⟩
    ·intro x hx
     rw[List.mem_cons] at hx
     rcases hx with rfl|hx
     ·have:=k9p.next
      exact⟨by omega,hdf⟩
     ·exact⟨(hds x hx).1,hr.d x hx⟩
  ·simp-implicitDefEqProofs only[b6C,a4v,f13,f10,j2,show(((64*j:Nat):Int)<((16*D.length:Nat):Int))=False from eq_false (by omega),↓reduceIte,Nat.reduceEqDiff,wA,wB,wC,wD]
   refine WpS.code f5l ?_
   obtain⟨x,ob,gn,gs,go⟩:=hna
   rw[List.take_of_length_le (by omega)] at gs
   have hp12:mk.rd (n+1) 0=some (.ptr n 0):=by rw[b12k.rd];rfl
   obtain⟨y1,g1,c1,z1,_⟩:=(b8.keep k09.wf kk (by omega)).st kk.wf 0 [.ptr n 0]
   obtain⟨y2,g2,c2,z2,_⟩:=((b9.keep k09.wf kk (by omega)).keep kk.wf z1 (by omega)).st z1.wf 0 [iv 0]
   have c1':=c1.keep z1.wf z2 (by omega)
   obtain⟨y3,g3,z3⟩:=b7U z2.wf hnd fun d hd=>by
    obtain⟨h1,h2⟩:=hds d hd
    have hlt:d<mk.next:=by
     rcases Nat.lt_or_ge d mk.next with q|q
     ·exact q
     ·rw[kk.wf d q] at h2;cases h2
    have:=k09.next
    have:=z1.next
    exact(z2.get d (by omega) (by omega)).trans ((z1.get d hlt (by omega)).trans h2)
   have hlo:∀d∈ds,m9.next≤d:=fun d hd=>(hds d hd).1
   have hk9:=k09.next
   simp-implicitDefEqProofs only[f4u,a8u,f8,f9,f12,hp12,g1,g2,↓reduceIte,Nat.reduceEqDiff,wA,wB,wC,wD]
   refine⟨.inr trivial,y3,g3,[.ptr n 0,iv 0],b8i (b:=m.next+1) (off:=0) (b2:=m.next+2) (off2:=0) (by kernel_rfl) (by kernel_rfl) (by simp-implicitDefEqProofs only[f8,d7,↓reduceIte,Nat.reduceEqDiff]) ?_ (by kernel_rfl) (by kernel_rfl) (by simp-implicitDefEqProofs only[f9,d7,↓reduceIte,Nat.reduceEqDiff]) ?_,rfl,?_,x,ob,?_,?_,?_⟩
   ·rw[(c1'.keep z2.wf z3 fun e=>by have:=hlo _ e;omega).rd];rfl
   ·rw[(c2.keep z2.wf z3 fun e=>by have:=hlo _ e;omega).rd];rfl
   ·exact((k0k.trans z1 fun b _ e=>by omega).trans z2 fun b _ e=>by omega).trans z3 fun b _ e=>by have:=hlo b e;omega
   ·exact((gn.keep kk.wf z1 (by omega)).keep z1.wf z2 (by omega)).keep z2.wf z3 fun e=>by have:=hlo _ e;omega
   ·refine((gs.keep kk.wf z1 fun b hb e=>by have:=go b hb;omega).keep z1.wf z2 fun b hb e=>by have:=go b hb;omega).keep z2.wf z3 fun b hb e=> ?_
    subst hb
    have h2:=(hds b e).2
    exact absurd (gs.kd.inj (by unfold kd;rw[h2] :kd mk b 0)) (by decide)
   ·exact fun b hb=>by have:=go b hb;omega
 obtain⟨v,m',⟨rfl,k,x,ob,g1,g2,g3⟩,r⟩:=key.ran
 exact⟨m',n,x,ob,k,by omega,g1,g2,g3,r⟩
end
end Go.Proofs.YtooooiidpaecmaaGreatDoor
