import Derived.Test.YtooooiidpaecmaaGreatDoorGf
set_option linter.unusedVariables false
set_option linter.unusedSimpArgs false
/- What is written and freed; blocks that are taken. -/
namespace Go.Proofs.YtooooiidpaecmaaGreatDoor
open Go Go.Am
section
variable {m m':M} {A:Ad} {S:PS} {own:Nat→Prop}
structure Step(m m':M)(A:Ad)(S':PS)(own own':Nat→Prop):Prop where
 at':GAt m' A S' own'
 ow:∀x,own' x→own x∨m.next≤x
 kp:y6 m m' [] A.ms
theorem a2B(hw:Wf m)(h:GAt m A S own){b:Nat}{t:Bk}{s:AV}{r:Nat}(hs:BtU m s t r)(h64:t.length=64)(hlo:32≤b)(hb:b<90):
  ∃m' own',Step m m' A (S.wr b t) own own'∧Ran Tryz.prog tb a00 [.ptr A.o 0,iv b,s] m (iv 0) m':=by
 obtain⟨m',own',h1,h2,h3,r1⟩:=b9P hw h hs h64 hb true hlo
 have r1:Ran Tryz.prog tb a0c [.ptr A.o 0,.func a0h [],.func a0d [],iv b,s] m (iv 0) m':=r1
 refine⟨m',own',⟨h1,h2,h3⟩,?_⟩
 refine WpF.go g4Y ?_
 simp-implicitDefEqProofs only[g7u,e3S,e6a,r1.eq,↓reduceIte,Nat.reduceEqDiff,Nat.reduceAdd,wA,wB,wC,wD]
theorem g1a(hw:Wf m)(h:GAt m A S own){b:Nat}{t:Bk}{s:AV}{r:Nat}(hs:BtU m s t r)(h64:t.length=64)(hlo:37≤b)(hb:b<90):
  ∃m' own',Step m m' A (S.wr b t) own own'∧Ran Tryz.prog tb b3g [.ptr A.o 0,iv b,s] m (iv 0) m':=by
 obtain⟨m',own',h1,h2,h3,r1⟩:=b9P hw h hs h64 hb false hlo
 have r1:Ran Tryz.prog tb a0c [.ptr A.o 0,.func Z9 [],.func a0i [],iv b,s] m (iv 0) m':=r1
 refine⟨m',own',⟨h1,h2,h3⟩,?_⟩
 refine WpF.go g5J ?_
 simp-implicitDefEqProofs only[g7B,e4T,e6C,r1.eq,↓reduceIte,Nat.reduceEqDiff,Nat.reduceAdd,wA,wB,wC,wD]
theorem g0T(hw:Wf m)(h:GAt m A S own){b:Nat}(hlo:37≤b)(hb:b<90):∃m',Step m m' A (S.fr b) own own∧Ran Tryz.prog tb b3l [.ptr A.o 0,iv b] m (iv 0) m':=by
 obtain⟨fl,fd,fg,g1,g2,g3,g4,g5,g6⟩:=h.mp
 obtain⟨⟨n1,n2,n3⟩,⟨n7,n8,n9⟩,⟨n4,n5,n6⟩,⟨n10,n11,n12⟩⟩:=b23 h.nm
 have hL:=a9J h
 obtain⟨m2,k2,x2,f1,f2,f3,f4,r2⟩:=b7Q hw h g1 g2 g3 b
 have hw2:=k2.wf
 have hm0:∀x,(x=A.ol∨x=A.od∨x=A.of)→kd m x 0:=fun x e=>h.kdm x (by rcases e with rfl|rfl|rfl<;>simp)
 have o2:=h.o.keep hw k2 (fun e=>absurd (h.o.kd.inj (hm0 _ e)) (by decide))
 obtain⟨m3,e3,a3,k3,x3⟩:=f4.put hw2 b
 have k03:Keep m m3 (fun x=>x=A.ol∨x=A.od∨x=A.of):=k2.trans k3 fun _ _ e=> .inr (.inr e)
 have hU:∀x,own x→¬(x=A.ol∨x=A.od∨x=A.of):=fun x hx e=>absurd ((h.ow x hx).inj (hm0 _ e)) (by decide)
 refine⟨m3,⟨⟨h.g.keep hw k03 (fun e=>absurd (h.g.kd.inj (hm0 _ e)) (by decide)),h.o.keep hw k03 (fun e=>absurd (h.o.kd.inj (hm0 _ e)) (by decide)),h.l.keep hw k03 (fun e=>absurd (h.l.kd.inj (hm0 _ e)) (by decide)),
  h.lp.keep hw k03 (by omega),h.gf.keep hw k03 (by omega),h.nm,fun x hx=>(h.ow x hx).of_get (k03.get x (h.lt hw hx) (hU x hx)),_,_,fg,f1.keep hw2 k3 n5 (fun x hx e=>hU x hx (.inr (.inr e))),f2.keep hw2 k3 n6 (fun x hx e=>hU x hx (.inr (.inr e))),f3.keep hw2 k3 n3 (fun x hx e=>hU x hx (.inr (.inr e))),?_,fun x=> ?_,g6⟩,fun x hx=> .inl hx,k03.mono fun x _ e=> .inr ⟨by rcases e with rfl|rfl|rfl<;>simp,hm0 x e⟩⟩,?_⟩
 ·have:fup (fup S.kp b false) b true=(S.fr b).kp:=by
   funext x
   unfold fup PS.fr
   by_cases hx:x=b
   ·simp[hx]
   ·simp[hx]
  rw[←this];exact a3
 ·rw[PS.rd_fr]
  unfold fup
  by_cases hx:x=b
  ·rw[if_pos hx,if_pos hx,if_pos hx,hx,g6 b hlo];rfl
  ·rw[if_neg hx,if_neg hx,if_neg hx];exact g5 x
 ·have hz:H8 [] ([] :List AV)=some [] :=rfl
  refine WpF.go g5m ?_
  simp-implicitDefEqProofs only[g7i,d89,d7M,e9M,d7Z,d7y,e1S,d7t,hL.eq,h.o.rd,h.g.rd,show((b:Int)<37)=False from eq_false (by omega),show((90:Int)≤(b:Int))=False from eq_false (by omega),r2.eq,o2.rd,e3,↓reduceIte,Nat.reduceEqDiff,Nat.reduceAdd,List.getElem?_cons_succ,List.getElem?_cons_zero,wA,wB,wC,wD]
end
abbrev a4k:TypeId:=135
noncomputable abbrev bmV:AV:= .agg [iv 33,iv 512]
def b32(m:M)(a g:Nat):Prop:=At m a a4k true [.ptr g 0,iv 64,iv 90,iv 6,iv 30,iv 2,iv 32,iv 1,iv 33,iv 1,iv 34,iv 3,iv 37,iv 33,iv 512,iv 32,iv 512]
section
variable {m m':M} {A:Ad} {S:PS} {own:Nat→Prop}
theorem b2F(b o:Nat):d8 Tryz.prog .eql a7Y (.ptr b o) s9=some (.b false):=by kernel_rfl
theorem b37{i:Nat}(h:i<512):d8 Tryz.prog .quo d5 (iv (i:Int)) (iv 512)=some (iv 0):=by
 have:=V8 (P:=Tryz.prog) (a:=i) (b:=512) d5 (by omega) (by omega)
 rwa [Nat.div_eq_of_lt h,nc0] at this
theorem f1Y{i:Nat}(h:i<512):d8 Tryz.prog .rem d5 (iv (i:Int)) (iv 512)=some (iv i):=by
 have:=Y9 (P:=Tryz.prog) (a:=i) (b:=512) d5 (by omega) (by omega)
 rwa [Nat.mod_eq_of_lt h] at this
theorem s33:d8 Tryz.prog .add d5 (iv 33) (iv 0)=some (iv 33):=by kernel_rfl
theorem g67:d8 Tryz.prog .mul d5 (iv 0) (iv 512)=some (iv 0):=by kernel_rfl
theorem s0(i:Nat)(h:i<1000):d8 Tryz.prog .sub d5 (iv (i:Int)) (iv 0)=some (iv i):=by
 have:=f0X (P:=Tryz.prog) d5 (a:=(i:Int)) (b:=0) (by omega) (by omega)
 rwa [Int.sub_zero] at this
theorem a0(i:Nat)(h:i<1000):d8 Tryz.prog .add d5 (iv 0) (iv (i:Int))=some (iv i):=by
 have:=f0b (P:=Tryz.prog) d5 (a:=0) (b:=(i:Int)) (by omega) (by omega)
 rwa [Int.zero_add] at this
theorem a3o(hw:Wf m):∃m',m.addL R8 2 [iv 33,iv 512] =m'∧At m' m.next R8 true [iv 33,iv 512]∧Keep m m' (fun _=>False)∧m'.next=m.next+1:=l6 hw R8 2 [iv 33,iv 512]
theorem f9k(hw:Wf m)(h:GAt m A S own){t:Bk}(ht:S.rd 33=some t){a:Nat}(ha:a≤90){Q:AV→M→Prop}
  (hQ1:∀m' i,a≤i→i<90→bt t i=false→(∀j,a≤j→j<i→bt t j=true)→Keep m m' (fun _=>False)→Q (.tuple [iv i,iv 0]) m') (hQ2:(∀j,a≤j→j<90→bt t j=true)→∀m',Keep m m' (fun _=>False)→Q (.tuple [iv 90,iv 0]) m'):
  WpF Tryz.prog tb b3O [bmV,.ptr A.o 0,iv a,iv 90] m Q:=by
 obtain⟨m1,e1,a1,k1,n1⟩:=a3o hw
 obtain⟨m2,s,r,hb2,hs2,h64,k2,n2,r2⟩:=T8 k1.wf (h.k0 hw k1) (b:=33) (by omega) ht
 rw[show((33:Nat):Int)=33 from rfl] at r2
 have a2:=a1.keep k1.wf k2 id
 have k02:=k1.tf k2
 have hcast:((90:Nat):Int)=90:=rfl
 have e90:=s0 90 (by omega)
 rw[hcast] at e90
 refine WpF.go g5V ?_
 simp-implicitDefEqProofs only[a2b,e3y,e1,↓reduceIte,Nat.reduceEqDiff,Nat.reduceAdd,wA,wB,wC,wD]
 refine I9 ?_
 by_cases h90:a<90
 ·simp-implicitDefEqProofs only[a2b,a52,e00,d6b,e4D,e2i,show((a:Int)<90)=True from eq_true (by omega),a1.rd,b37 (show a<512 by omega),s33,r2.eq,a2.rd,g67,s0 a (by omega),e90,show min (90:Int) 512=90 from rfl,↓reduceIte,Nat.reduceEqDiff,List.getElem?_cons_succ,List.getElem?_cons_zero,exists_eq_left',wA,wB,wC,wD]
  have hf:=f7X (m:=m2) hb2.bs h64 (a:=a) (e:=90) (by omega) (by omega) (Q:=fun v m'=>m'=m2∧((∃i,a≤i∧i<90∧bt t i=false∧(∀j,a≤j→j<i→bt t j=true)∧v= .tuple [iv i,iv 0])∨(v= .tuple [iv 0,iv 11]∧∀j,a≤j→j<90→bt t j=true)))
   (fun i h1 h2 h3 h4=>⟨rfl,.inl ⟨i,h1,h2,h3,h4,rfl⟩⟩) (fun h1=>⟨rfl,.inr ⟨rfl,h1⟩⟩)
  rw[hcast] at hf
  obtain⟨v,mm,⟨rfl,hv⟩,rr⟩:=hf.ran
  rcases hv with⟨i,h1,h2,h3,h4,rfl⟩|⟨rfl,h1⟩
  ·simp-implicitDefEqProofs only[a2b,b2a,e3K,rr.eq,a0 i (by omega),↓reduceIte,Nat.reduceEqDiff,List.getElem?_cons_succ,List.getElem?_cons_zero,wA,wB,wC,wD]
   exact hQ1 _ i h1 h2 h3 h4 k02
  ·have e512:d8 Tryz.prog .add d5 (iv 0) (iv 512)=some (iv 512):=by kernel_rfl
   simp-implicitDefEqProofs only[a2b,b2a,e0i,rr.eq,show((11:Int)=0)=False from eq_false (by omega),a2.rd,e512,↓reduceIte,Nat.reduceEqDiff,List.getElem?_cons_succ,List.getElem?_cons_zero,wA,wB,wC,wD]
   refine I9 ?_
   simp-implicitDefEqProofs only[a2b,a52,a90,show((512:Int)<90)=False from eq_false (by omega),↓reduceIte,Nat.reduceEqDiff,wA,wB,wC,wD]
   exact hQ2 h1 _ k02
 ·have ha:a=90:=by omega
  subst ha
  simp-implicitDefEqProofs only[a2b,a52,a90,hcast,show((90:Int)<90)=False from eq_false (by omega),↓reduceIte,Nat.reduceEqDiff,wA,wB,wC,wD]
  exact hQ2 (fun j h1 h2=>by omega) _ k1
theorem b9p(hw:Wf m)(h:GAt m A S own){t:Bk}(ht:S.rd 33=some t){i:Nat}(hi:i<90)(on:Bool):
  ∃m' own',Step m m' A (S.wr 33 (A5 t i on)) own own'∧Ran Tryz.prog tb a7b [bmV,.ptr A.o 0,iv i,.b on] m (iv 0) m':=by
 obtain⟨m1,e1,a1,k1,n1⟩:=a3o hw
 have h1:=h.k0 hw k1
 obtain⟨m2,s,r,hb2,hs2,h64,k2,n2,r2⟩:=T8 k1.wf h1 (b:=33) (by omega) ht
 rw[show((33:Nat):Int)=33 from rfl] at r2
 have a2:=a1.keep k1.wf k2 id
 have h2:=h1.k0 k1.wf k2
 obtain⟨m3,s3,q3,hb3,k3,n3,r3⟩:=g1M k2.wf hb2.bs h64 (i:=i) (by omega) on
 have a3:=a2.keep k2.wf k3 id
 have h3:=h2.k0 k2.wf k3
 obtain⟨m4,own',st,r4⟩:=a2B k3.wf h3 (b:=33) hb3 (by rw[a1m];exact h64) (by omega) (by omega)
 rw[show((33:Nat):Int)=33 from rfl] at r4
 have k03:=(k1.tf k2).tf k3
 have hn:=k03.next
 refine⟨m4,own',⟨st.at',fun x hx=>by rcases st.ow x hx with h|h;exact .inl h;exact .inr (by omega),k03.k0.tk st.kp⟩,?_⟩
 refine WpF.go g40 ?_
 simp-implicitDefEqProofs only[g6V,d6v,e0g,d98,e63,e9g,e1,a1.rd,b37 (show i<512 by omega),s33,r2.eq,a2.rd,f1Y (show i<512 by omega),r3.eq,a3.rd,r4.eq,↓reduceIte,Nat.reduceEqDiff,Nat.reduceAdd,List.getElem?_cons_succ,List.getElem?_cons_zero,exists_eq_left',wA,wB,wC,wD]
theorem f7k{t:Bk}{box:Nat}(hw0:Wf m)(h:GAt m A S own)(ht:S.rd 33=some t)(hbox:At m box R8 true [iv 33,iv 512]){Q:AV→M→Prop}
  (hQ1:∀m' own' i,37≤i→i<90→bt t i=false→S.kp i=false→Step m m' A (S.wr 33 (A5 t i true)) own own'→Q (.tuple [iv i,iv 0]) m') (hQ2:(∀b,37≤b→b<90→bt t b=true∨S.kp b=true)→∀m',Keep m m' (fun _=>False)→Q (.tuple [iv 0,iv 10]) m'):
  ∀(n i:Nat) (fr:Fr) (mk:M),91-i≤n→37≤i→i≤90→(∀b,37≤b→b<i→bt t b=true∨S.kp b=true)→Keep m mk (fun _=>False)→ev (tm 1) fr= .ptr A.o 0→ev (tm 3) fr=iv 90→ev (tm 4) fr= .bnd a3z [.ptr A.g 0]→ev (tm 5) fr= .ptr box 0→ev (tm 12) fr=iv i→
   GX Tryz.prog tb a4y (SJ Tryz.prog tb a1i (FK Tryz.prog [.tmp 10,.tmp 11] Q)) fr mk:=by
 intro n
 induction n with
 |zero=>intro i fr mk hn h37 hi _;omega
 |succ n ih=>
  intro i fr mk hn h37 hi hst hk e1 e3 e4 e5 e12
  have hb:=hbox.keep hw0 hk id
  have hl:mk.rdN box 0 2=some [iv 33,iv 512] :=hb.rdN (by show 0+2≤2;omega)
  simp-implicitDefEqProofs only[a4p,a5W,e1,e3,e5,e12,hl,↓reduceIte,Nat.reduceEqDiff,wA,wB,wC,wD]
  refine f9k hk.wf (h.k0 hw0 hk) ht hi (fun m1 j h1 h2 h3 h4 k1=> ?_) (fun hall m1 k1=> ?_)
  ·have k01:=hk.tf k1
   have hg1:=h.k0 hw0 k01
   obtain⟨m2,k2,r2⟩:=f9M k1.wf hg1 j
   have k02:=k01.tf k2
   have hg2:=h.k0 hw0 k02
   have hl2:m2.rdN box 0 2=some [iv 33,iv 512] :=(hbox.keep hw0 k02 id).rdN (by show 0+2≤2;omega)
   cases hkp:S.kp j with
   |true=>
    rw[hkp] at r2
    have hbelow:∀b,37≤b→b<j+1→bt t b=true∨S.kp b=true:=fun b g1 g2=>by
     by_cases e1:b<i
     ·exact hst b g1 e1
     ·by_cases e2:b=j
      ·exact .inr (e2▸hkp)
      ·exact .inl (h4 b (by omega) (by omega))
    simp-implicitDefEqProofs only[a4p,a1D,a1M,a3t,a6c,e3,e4,show((90:Int)≤(j:Int))=False from eq_false (by omega),r2.eq,aD (j:Int) 1,a1s f5U,↓reduceIte,Nat.reduceEqDiff,List.getElem?_cons_succ,List.getElem?_cons_zero,wA,wB,wC,wD]
    exact WpSc.of f5Q (ih (j+1) _ m2 (by omega) (by omega) (by omega) (fun b g1 g2=>hbelow b g1 g2) k02 (by simp-implicitDefEqProofs only[e1,d7,↓reduceIte,Nat.reduceEqDiff]) (by simp-implicitDefEqProofs only[e3,d7,↓reduceIte,Nat.reduceEqDiff]) (by simp-implicitDefEqProofs only[e4,d7,↓reduceIte,Nat.reduceEqDiff]) (by simp-implicitDefEqProofs only[e5,d7,↓reduceIte,Nat.reduceEqDiff]) (by simp-implicitDefEqProofs only[show(j:Int)+1=((j+1:Nat):Int) from rfl,d7,↓reduceIte]))
   |false=>
    rw[hkp] at r2
    obtain⟨m3,own',st,r3⟩:=b9p k02.wf hg2 ht h2 true
    simp-implicitDefEqProofs only[a4p,a1D,a1M,a3t,a55,a5u,a5A,e1,e3,e4,e5,show((90:Int)≤(j:Int))=False from eq_false (by omega),r2.eq,hl2,r3.eq,a21,↓reduceIte,Nat.reduceEqDiff,List.getElem?_cons_succ,List.getElem?_cons_zero,wA,wB,wC,wD]
    have:=k02.next
    exact hQ1 m3 own' j (by omega) h2 h3 hkp ⟨st.at',fun x hx=>by rcases st.ow x hx with h|h;exact .inl h;exact .inr (by omega),k02.k0.tk st.kp⟩
  ·simp-implicitDefEqProofs only[a4p,a1D,a1M,a6I,e3,a21,↓reduceIte,Nat.reduceEqDiff,List.getElem?_cons_succ,List.getElem?_cons_zero,wA,wB,wC,wD]
   exact hQ2 (fun b g1 g2=>by
    by_cases e1:b<i
    ·exact hst b g1 e1
    ·exact .inl (hall b (by omega) g2)) m1 (hk.tf k1)
set_option maxRecDepth 20000 in
theorem f8i(hw:Wf m)(h:GAt m A S own){a:Nat}(ha:b32 m a A.g){t:Bk}(ht:S.rd 33=some t){Q:AV→M→Prop}
  (hQ1:∀m' own' i,37≤i→i<90→bt t i=false→S.kp i=false→Step m m' A (S.wr 33 (A5 t i true)) own own'→Q (.tuple [iv i,iv 0]) m') (hQ2:(∀b,37≤b→b<90→bt t b=true∨S.kp b=true)→∀m',Keep m m' (fun _=>False)→Q (.tuple [iv 0,iv 10]) m'):
  WpF Tryz.prog tb a7u [.ptr a 0,.ptr A.o 0] m Q:=by
 have hl:m.rdN a 13 2=some [iv 33,iv 512] :=At.rdN ha (by show 13+2≤17;omega)
 have hrd:=At.rd ha
 obtain⟨m1,e1,a1,k1,n1⟩:=a3o hw
 have hw1:=k1.wf
 have h1:=h.k0 hw k1
 have rt:WpF Tryz.prog tb b3r [bmV,.ptr A.o 0,iv 37,iv 90,.bnd a3z [.ptr A.g 0]] m fun v m'=>(∃(own':Nat→Prop) (i:Nat),v= .tuple [iv i,iv 0]∧37≤i∧i<90∧bt t i=false∧S.kp i=false∧Step m m' A (S.wr 33 (A5 t i true)) own own')∨(v= .tuple [iv 0,iv 10]∧(∀b,37≤b→b<90→bt t b=true∨S.kp b=true)∧Keep m m' (fun _=>False)):=by
  refine WpF.go g5h ?_
  simp-implicitDefEqProofs only[g7I,d75,e1,↓reduceIte,Nat.reduceEqDiff,Nat.reduceAdd,wA,wB,wC,wD]
  refine b9j (WpSc.of f6z ?_)
  have hcb:b72= .seq (.reg b2E) a4y:=rfl
  rw[hcb]
  simp-implicitDefEqProofs only[b2E,↓reduceIte,Nat.reduceEqDiff,wA,wB,wC,wD]
  exact f7k hw1 h1 ht a1 (fun m' own' i g1 g2 g3 g4 st=> .inl ⟨own',i,rfl,g1,g2,g3,g4,st.at',fun x hx=>by rcases st.ow x hx with h|h;exact .inl h;exact .inr (by omega),k1.k0.tk st.kp⟩) (fun hf m' k=> .inr ⟨rfl,hf,k1.tf k⟩) 100 37 _ m1 (by omega) (by omega) (by omega) (fun b g1 g2=>by omega) (Keep.refl hw1 _) (by simp-implicitDefEqProofs only[d7,↓reduceIte,Nat.reduceEqDiff]) (by simp-implicitDefEqProofs only[d7,↓reduceIte,Nat.reduceEqDiff]) (by simp-implicitDefEqProofs only[d7,↓reduceIte,Nat.reduceEqDiff]) (by simp-implicitDefEqProofs only[d7,↓reduceIte,Nat.reduceEqDiff]) (by simp-implicitDefEqProofs only[show((37:Nat):Int)=37 from rfl,d7,↓reduceIte,Nat.reduceEqDiff])
 obtain⟨v,m',hv,r⟩:=rt.ran
 refine WpF.go g5A ?_
 rcases hv with⟨own',i,rfl,g1,g2,g3,g4,st⟩|⟨rfl,hf,k⟩
 ·simp-implicitDefEqProofs only[f1A,b22,b2l,b1A,b2F,hrd,hl,r.eq,↓reduceIte,Nat.reduceEqDiff,Nat.reduceAdd,List.getElem?_cons_succ,List.getElem?_cons_zero,exists_eq_left',wA,wB,wC,wD]
  exact⟨by kernel_rfl,hQ1 m' own' i g1 g2 g3 g4 st⟩
 ·simp-implicitDefEqProofs only[f1A,b22,b2l,b1A,b2F,hrd,hl,r.eq,↓reduceIte,Nat.reduceEqDiff,Nat.reduceAdd,List.getElem?_cons_succ,List.getElem?_cons_zero,exists_eq_left',wA,wB,wC,wD]
  exact⟨by kernel_rfl,hQ2 hf m' k⟩
end
end Go.Proofs.YtooooiidpaecmaaGreatDoor
/- Inodes as bytes. -/
namespace Go.Am
open Go Go.RowKit
section
variable {P:Program} {m:M} {fr:Fr}
theorem f0A(len sz:Nat)(x i:RO):run (.iaA len sz x i) fr m=a2j len sz (.cst (ev x fr)) (.cst (ev i fr)) .leaf m:=rfl
theorem f1h(len sz b off:Nat){k:Nat}(h:k<len):a2j len sz (.cst (.ptr b off)) (.cst (iv (k:Int))) .leaf m=some (.ptr b (off+k*sz),m):=by
 show bc (Nat.ble (Nat.succ k) len) (fc (Nat.add off (Nat.mul k sz)) fun o=>some (AV.ptr b o,m)) none=_
 rw[A1,decide_eq_true (by omega),l9,z7];rfl
theorem g2O(n sz:Nat)(x:RO):run (.sla n sz x none none none) fr m=a2e n sz (.cst (ev x fr)) none none none .leaf m:=rfl
theorem g3y(b off:Nat):a2e 8 1 (.cst (.ptr b off)) none none none .leaf m=some (.slice b off 8 8 true,m):=by
 show(fc (Nat.add off (Nat.mul 0 1)) fun o=>fc (Nat.sub 8 0) fun n=>fc (Nat.sub 8 0) fun k=>some (AV.slice b o n k true,m))=_
 rw[z7]
 rfl
theorem g1z{Q:AV→M→Prop}{t u v w:Nat}:FK P [.tmp t,.tmp u,.tmp v,.tmp w] Q .ret fr m=Q (.tuple [ev (tm t) fr,ev (tm u) fr,ev (tm v) fr,ev (tm w) fr]) m:=a0T (l:= [ev (tm t) fr,ev (tm u) fr,ev (tm v) fr,ev (tm w) fr]) (.inr rfl) rfl
theorem a2y{P:Program}{m:M}{Q:AV→M→Prop}{fr:Fr}{a u t b off n:Nat}{l:List AV}(h1:A8 P t=some true)(h2:tsize P t=some n)(hp:ev (tm a) fr= .ptr b off)(hr:m.rdN b off n=some l):FK P [.cell a t,.tmp u] Q .ret fr m=Q (.tuple [.agg l,ev (tm u) fr]) m:=by
 refine a0T (l:= [.agg l,ev (tm u) fr]) (.inr rfl) ?_
 show(ob (match A8 P t,tsize P t with|some true,some n=>Y8 n (.tmp (pth a)) fr m|some false,some _=>a0a (.tmp (pth a)) fr m|_,_=>none) fun q=>some (q.1:: [ev (tm u) fr]))=_
 rw[h1,h2]
 show(ob (elPtr none (fun b off=>ob (m.rdN b off n) fun l=>some (AV.agg l,m)) (ev (tm a) fr)) fun q=>some (q.1:: [ev (tm u) fr]))=_
 rw[hp,a0G,hr];rfl
end
end Go.Am
namespace Go.Proofs.YtooooiidpaecmaaGreatDoor
open Go Go.Am
noncomputable def s8(k l s:Nat)(ps:List Nat):List AV:=ivn k::ivn l::ivn s::ps.map ivn
theorem X5(k l s:Nat)(ps:List Nat):(s8 k l s ps).length=ps.length+3:=by simp[s8]
section
variable {m0 m m':M} {c:Nat} {bs:Bs}
theorem g44{w:Nat}{zs:List Nat}{b off cap:Nat}{lim xt:Bool}{e:TypeId}{l:List AV}(h:WrAt m0 m c bs)(hx:At m b e xt l)(he:e+1∉[uB,wrK])(hl:∀(k z:Nat),zs[k]? =some z→l[off+k]? =some (ivn z))(hbs:bs.length+w*zs.length≤100000)(hn:w=1∨w=2∨w=4)(hv:∀z∈zs,z<2^(8*w)):
  ∃m',WrAt m0 m' c (bs++les w zs)∧y6 m m' [uB,wrK]∧Ran Tryz.prog tb a0o [.ptr c 0,iv w,.slice b off zs.length cap lim] m (.tuple []) m':=by
 have hz:zs.length≤100000:=by
  have:zs.length≤w*zs.length:=Nat.le_mul_of_pos_left _ (by omega)
  omega
 have key:WpF Tryz.prog tb a0o [.ptr c 0,iv w,.slice b off zs.length cap lim] m fun v m'=>v= .tuple []∧WrAt m0 m' c (bs++les w zs)∧y6 m m' [uB,wrK] :=by
  refine WpF.go f0T ?_
  simp-implicitDefEqProofs only[a2k,b20,↓reduceIte,Nat.reduceAdd,wA,wB,wC,wD]
  refine y7 (fun j fr mk=>∃k,k≤zs.length∧j=zs.length-k∧(ev (tm 0) fr= .ptr c 0∧ev (tm 1) fr=iv w∧ev (tm 8) fr= .slice b off zs.length cap lim∧ev (tm 9) fr=iv zs.length∧ev (tm 10) fr=iv k)∧WrAt m0 mk c (bs++les w (zs.take k))∧y6 m mk [uB,wrK]) (k:=zs.length) ⟨0,Nat.zero_le _,rfl,by simp-implicitDefEqProofs only[nc0,d7,↓reduceIte,Nat.reduceEqDiff,nc0,and_self],by simpa[les] using h,(Keep.refl h.kp.wf fun _=>False).k0⟩ ?_
  rintro j fr mk ⟨k,hk,rfl,⟨e0,e1,e8,e9,e10⟩,hWk,kk⟩
  by_cases hlt:k<zs.length
  ·have hz1:zs[k]? =some zs[k] :=List.getElem?_eq_getElem hlt
   have hzv:=hv _ (List.getElem_mem hlt)
   have htk:zs.take (k+1)=zs.take k++ [zs[k]] :=(List.take_append_getElem hlt).symm
   generalize zs[k] =z at hz1 hzv htk
   have hxk:=hx.kp h.kp.wf kk he
   have hr:mk.rd b (off+k)=some (iv (z:Int)):=by rw[hxk.rd];exact hl k z hz1
   have hlen:(bs++les w (zs.take k)).length≤100000:=by
    rw[List.length_append,X7,List.length_take]
    have:w*min k zs.length≤w*zs.length:=Nat.mul_le_mul_left _ (by omega)
    omega
   obtain⟨m3,hW3,k3,r3⟩:=cwn hWk hlen hn hzv
   have hF:(k:Int)+1=((k+1:Nat):Int):=by omega
   simp-implicitDefEqProofs only[a2k,a3g,b2o,b1v,b1T,e0,e1,e8,e9,e10,show((k:Int)<(zs.length:Int))=True from eq_true (by omega),x9 1 b off zs.length cap lim hlt,Nat.mul_one,hr,r3.eq,aD (k:Int) 1,↓reduceIte,Nat.reduceEqDiff,wA,wB,wC,wD]
   exact y8 (k':=zs.length-(k+1)) (by omega) ⟨k+1,by omega,rfl,by simp-implicitDefEqProofs only[e0,e1,e8,e9,hF,d7,↓reduceIte,Nat.reduceEqDiff,and_self],by rw[htk,b9q,←List.append_assoc];exact hW3,kk.tk k3⟩
  ·have hkz:k=zs.length:=by omega
   subst hkz
   rw[List.take_length] at hWk
   simp-implicitDefEqProofs only[a2k,a3g,e9,e10,↓reduceIte,wA,wB,wC,wD]
   exact⟨hWk,kk⟩
 obtain⟨v',m',⟨rfl,h1,h2⟩,r⟩:=key.ran
 exact⟨m',h1,h2,r⟩
theorem ten{ps:List Nat}(h:ps.length=10):∃a b c d e f g h' i j,ps= [a,b,c,d,e,f,g,h',i,j] :=by
 match ps,h with
 | [a,b,c,d,e,f,g,h',i,j],_=>exact⟨a,b,c,d,e,f,g,h',i,j,rfl⟩
set_option maxRecDepth 20000 in
theorem c22(hw:Wf m){x:Ino}(hx:x.Ok):∃m' s b,RowB m' s (enc x) b∧Keep m m' (fun _=>False)∧m.next≤b∧Ran Tryz.prog tb a7n [.agg (s8 x.kind x.links x.size x.ps)] m (.tuple [s,iv 0]) m':=by
 obtain⟨kd,lk,sz,ps⟩:=x
 obtain⟨h1,h2,h3,h4,h5,h6⟩:=hx
 simp only at h1 h2 h3 h4 h5 h6
 obtain⟨p0,p1,p2,p3,p4,p5,p6,p7,p8,p9,rfl⟩:=ten h5
 have hp:∀z∈[p0,p1,p2,p3,p4,p5,p6,p7],z<2^(8*2):=fun z hz=>h6 z (by
  simp only[List.mem_cons,List.not_mem_nil,or_false] at hz⊢
  omega)
 obtain⟨m1,e1,a1,k1,n1⟩:=l6 hw A3 13 (s8 kd lk sz [p0,p1,p2,p3,p4,p5,p6,p7,p8,p9])
 unfold s8 at a1 e1
 simp only[List.map_cons,List.map_nil] at a1 e1
 obtain⟨m2,e2,a2,k2,n2⟩:=l6 k1.wf a1e 2 [j7,iv 0]
 have k02:=k1.tf k2
 have w2:WrAt m m2 m1.next [] :=⟨k02,by omega,j7,none,a2,.nil,fun b hb=>by cases hb⟩
 obtain⟨m3,e3,a3,k3,n3⟩:=l6 k02.wf d5 2 [ivn kd,iv 0]
 have w3:=w2.keep k3 fun _ h=>h.elim
 have x3:b38 m3 (.slice m2.next 0 2 2 false) [kd,0] (some m2.next):= .row (junk:= []) a3 rfl rfl (Nat.le_refl _) (by decide)
 obtain⟨m4,w4,k4,r4⟩:=f1Q w3 x3 (Nat.le_of_ble_eq_true rfl) (w:=1) (by omega) (by
  intro z hz
  simp only[List.mem_cons,List.not_mem_nil,or_false] at hz
  rcases hz with rfl|rfl<;>omega)
 have b1:=(a1.keep k1.wf k2 id).keep k02.wf k3 id
 have b4:=b1.kp w3.kp.wf k4
 obtain⟨m5,w5,k5,r5⟩:=cwn w4 (by rw[List.nil_append,X7];exact Nat.le_of_ble_eq_true rfl) (w:=2) (by omega) (v:=lk) (by simpa using h3)
 have b5:=b4.kp w4.kp.wf k5
 obtain⟨m6,w6,k6,r6⟩:=cwn w5 (by rw[List.length_append,List.nil_append,X7,y4];exact Nat.le_of_ble_eq_true rfl) (w:=4) (by omega) (v:=sz) (by simpa using h4)
 have b6:=b5.kp w5.kp.wf k6
 have hl2:(([] ++les 1 [kd,0])++le 2 lk++le 4 sz).length=8:=by simp[y4,X7]
 obtain⟨m7,w7,k7,r7⟩:=g44 w6 b6 (by decide) (off:=3) (cap:=8) (lim:=true) (zs:= [p0,p1,p2,p3,p4,p5,p6,p7]) (by
  intro k z hz
  match k,hz with
  |0,hz|1,hz|2,hz|3,hz|4,hz|5,hz|6,hz|7,hz=>cases hz;rfl) (by rw[hl2];exact Nat.le_of_ble_eq_true rfl) (w:=2) (by omega) hp
 have b7:=b6.kp w6.kp.wf k7
 obtain⟨m8,e8,a8,k8,n8⟩:=l6 w7.kp.wf d5 2 [ivn p8,ivn p9]
 have w8:=w7.keep k8 fun _ h=>h.elim
 have x8:b38 m8 (.slice m7.next 0 2 2 false) [p8,p9] (some m7.next):= .row (junk:= []) a8 rfl rfl (Nat.le_refl _) (by decide)
 have hl7:(([] ++les 1 [kd,0])++le 2 lk++le 4 sz++les 2 [p0,p1,p2,p3,p4,p5,p6,p7]).length=24:=by rw[List.length_append,hl2,X7];rfl
 obtain⟨m9,w9,k9,r9⟩:=f1Q w8 x8 (by rw[hl7];exact Nat.le_of_ble_eq_true rfl) (w:=2) (by omega) (by
  intro z hz
  refine h6 z ?_
  simp only[List.mem_cons,List.not_mem_nil,or_false] at hz⊢
  omega)
 have hl9:(([] ++les 1 [kd,0])++le 2 lk++le 4 sz++les 2 [p0,p1,p2,p3,p4,p5,p6,p7] ++les 2 [p8,p9]).length=28:=by rw[List.length_append,hl7,X7];rfl
 obtain⟨m10,s,b,rb,kf,hb,r10⟩:=whole w9 (n:=32) (by omega) (by omega) (by omega)
 rw[hl9] at rb
 have henc:(([] ++les 1 [kd,0])++le 2 lk++le 4 sz++les 2 [p0,p1,p2,p3,p4,p5,p6,p7] ++les 2 [p8,p9])++List.replicate (32-28) 0=enc ⟨kd,lk,sz,[p0,p1,p2,p3,p4,p5,p6,p7,p8,p9]⟩:=by
  simp[enc,les]
 rw[henc] at rb
 refine⟨m10,s,b,rb,kf,hb,?_⟩
 have q1:((1:Nat):Int)=1:=rfl
 have q2:((2:Nat):Int)=2:=rfl
 have q4:((4:Nat):Int)=4:=rfl
 have q32:((32:Nat):Int)=32:=rfl
 rw[q1] at r4
 rw[q2] at r5 r7 r9
 rw[q4] at r6
 rw[q32] at r10
 have hl8: [p0,p1,p2,p3,p4,p5,p6,p7].length=8:=rfl
 rw[hl8] at r7
 have hrp:B4 2 [iv 0] = [iv 0,iv 0] :=rfl
 unfold s8
 simp only[List.map_cons,List.map_nil]
 refine WpF.go g47 ?_
 simp-implicitDefEqProofs only[g7t,e3X,d7P,d7n,e5Y,d4V,e1h,e5U,e7c,e1u,e1,a1.rd,show((kd:Int)<0)=False from eq_false (by omega),show((2:Int)<(kd:Int))=False from eq_false (by omega),show((kd:Int)=0)=False from eq_false (by omega),e2,(a1.keep k1.wf k2 id).rd,hrp,e3,r4.eq,b4.rd,r5.eq,b5.rd,r6.eq,g2O,g3y,r7.eq,b7.rd,e8,r9.eq,r10.eq,↓reduceIte,Nat.reduceEqDiff,Nat.reduceAdd,Nat.reduceLeDiff,List.getElem?_cons_succ,List.getElem?_cons_zero,wA,wB,wC,wD]
end
noncomputable abbrev z13:List AV:= [iv 0,iv 0,iv 0,iv 0,iv 0,iv 0,iv 0,iv 0,iv 0,iv 0,iv 0,iv 0,iv 0]
section
variable {m:M}
theorem f8x{s1 s2:AV}{t:Bs}{b1 b2:Nat}{X:List AV}(hw:Wf m)(hX:X.length=13)(h1:BsAt m s1 t b1)(h2:BsAt m s2 t b2):
  ∃m',Keep m m' (fun _=>False)∧Ran Tryz.prog tb b3C [.agg X,s1,s2,iv 0] m (.tuple [.agg X,iv 0]) m':=by
 obtain⟨m1,e1,a1,k1,n1⟩:=l6 hw A3 13 X hX.symm
 obtain⟨m2,e2,a2,k2,n2⟩:=B0 k1.wf A3 13 z13
 have k02:=k1.tf k2
 have rb:=c3r (h1.keep hw k02 fun h=>h) (h2.keep hw k02 fun h=>h)
 rw[decide_eq_true rfl] at rb
 have a12:=a1.keep k1.wf k2 fun h=>h
 have q1:m2.rdN m.next 0 13=some X:=by rw[a12.rdN (by omega),List.drop_zero,List.take_of_length_le (by omega)]
 obtain⟨m3,e3,a3,k3,n3⟩:=a2.st k2.wf 0 X (l':=X) (by unfold z6;rw[List.take_zero,List.nil_append,List.drop_of_length_le (by simp[hX]),List.append_nil]) (by rw[hX];exact Nat.le_refl _)
 have q3:m3.rdN m1.next 0 13=some X:=by rw[a3.rdN (by omega),List.drop_zero,List.take_of_length_le (by omega)]
 refine⟨m3,k02.trans k3 fun b hb e=>by omega,?_⟩
 refine WpF.go g6l ?_
 simp-implicitDefEqProofs only[g6L,e6M,e28,e9E,e1,e2,rb.eq,q1,hX,e3,↓reduceIte,Nat.reduceEqDiff,Nat.reduceAdd,wA,wB,wC,wD]
 rw[a2y (b:=m1.next) (off:=0) (n:=13) (l:=X) (by kernel_rfl) (by kernel_rfl) (by simp-implicitDefEqProofs only[d7,↓reduceIte,Nat.reduceEqDiff]) q3]
 simp-implicitDefEqProofs only[d7,↓reduceIte,and_self]
noncomputable def P0(k l s:Nat)(ps:List Nat)(n:Nat):List AV:=ivn k::ivn l::ivn s::((ps.take n).map ivn++List.replicate (10-n) (iv 0))
theorem b9K{k l s n p:Nat}{ps:List Nat}(h10:ps.length=10)(hp:ps[n]? =some p):z6 (P0 k l s ps n) (3+n) [ivn p] =P0 k l s ps (n+1):=by
 have hn:=(List.getElem?_eq_some_iff.1 hp).1
 have hg:ps[n] =p:=by
  have:=(List.getElem?_eq_some_iff.1 hp).2
  exact this
 have hlen:((ps.take n).map ivn).length=n:=by rw[List.length_map,List.length_take];omega
 unfold z6 P0
 rw[show 3+n=n+3 by omega,List.take_succ_cons,List.take_succ_cons,List.take_succ_cons,List.take_append_of_le_length (by omega),List.take_of_length_le (by omega),show n+3+ [ivn p].length=n+1+3 from by show n+3+1=n+1+3;omega,List.drop_succ_cons,List.drop_succ_cons,List.drop_succ_cons,List.drop_append,List.drop_of_length_le (by omega),List.nil_append,hlen,show n+1-n=1 by omega,List.drop_replicate,←List.take_append_getElem hn,List.map_append,hg]
 simp
 omega
theorem c0i{k l s n:Nat}{ps:List Nat}(h10:ps.length=10)(hn:n≤10):(P0 k l s ps n).length=13:=by
 have:((ps.take n).map ivn).length=n:=by rw[List.length_map,List.length_take];omega
 unfold P0
 simp only[List.length_cons,List.length_append,this,List.length_replicate]
 omega
theorem g1N{k l s:Nat}{ps:List Nat}(h10:ps.length=10):P0 k l s ps 10=s8 k l s ps:=by
 unfold P0 s8
 rw[List.take_of_length_le (by omega)];simp
theorem g45{c b off n cap:Nat}{lim:Bool}{l:Bs}{at' w H oh V ov q:Nat}{eh ev':TypeId}{lh lv lh' lv':List AV}(hw:Wf m)(hR:At m c J2 true [.slice b off n cap lim,iv at'])(h:BsAt m (.slice b off n cap lim) l b)(hn:n=l.length)(hcap:n≤cap)(hl:n≤1000000)(hwd:w=1∨w=2∨w=4)(hat:at'+w+w≤n)
  (hH:At m H eh true lh) (hV:At m V ev' true lv) (hq:At m q P8 true [.ptr H oh,.ptr V ov]) (hbc:b≠c) (hbH:b≠H) (hbV:b≠V) (hcH:c≠H) (hcV:c≠V) (hHV:H≠V) (hqc:q≠c) (hqH:q≠H) (hqV:q≠V)
  (hlh:z6 lh oh [ivn (ge (prt l at' w))] =lh') (hoh:oh+1≤lh.length) (hlv:z6 lv ov [ivn (ge (prt l (at'+w) w))] =lv') (hov:ov+1≤lv.length):
  ∃m',At m' H eh true lh'∧At m' V ev' true lv'∧At m' c J2 true [.slice b off n cap lim,iv (at'+w+w:Nat)]∧Keep m m' (fun x=>x=c∨x=H∨x=V)∧Ran Tryz.prog tb a0m [.ptr c 0,iv w,.slice q 0 2 2 false] m (.tuple []) m':=by
 obtain⟨m1,a1,k1,r1⟩:=crn hw hR h hn hcap hl hwd (by omega)
 obtain⟨m2,e2,a2,k2,n2⟩:=(hH.keep hw k1 (Ne.symm hcH)).st k1.wf oh [ivn (ge (prt l at' w))] hlh hoh
 have k02:Keep m m2 fun x=>x=c∨x=H∨x=V:=(k1.mono fun _ _ e=> .inl e).trans k2 fun _ _ e=> .inr (.inl e)
 obtain⟨m3,a3,k3,r3⟩:=crn k2.wf (a1.keep k1.wf k2 hcH) (h.keep hw k02 (by omega)) hn hcap hl hwd (by omega)
 have k03:=k02.trans k3 fun _ _ e=> .inl e
 obtain⟨m4,e4,a4,k4,n4⟩:=(hV.keep hw ((k1.mono (G:=fun x=>x=c∨x=H) fun _ _ e=> .inl e).trans k2 (fun _ _ e=> .inr e)|>.trans k3 fun _ _ e=> .inl e) (by omega)).st k3.wf ov [ivn (ge (prt l (at'+w) w))] hlv hov
 refine⟨m4,(a2.keep k2.wf k3 (Ne.symm hcH)).keep k3.wf k4 hHV,a4,a3.keep k3.wf k4 hcV,k03.trans k4 fun _ _ e=> .inr (.inr e),?_⟩
 have q2:=(hq.keep hw k02 (by omega)).rd
 have q0:=x9 (m:=m) 1 q 0 2 2 false (show 0<2 by omega)
 have q1:=x9 (m:=m2) 1 q 0 2 2 false (show 1<2 by omega)
 have c2:((2:Nat):Int)=2:=rfl
 rw[nc0] at q0
 rw[show((1:Nat):Int)=1 from rfl] at q1
 unfold prt at e2 e4
 refine WpF.go f06 ?_
 simp-implicitDefEqProofs only[a1c,b2x,↓reduceIte,Nat.reduceAdd,wA,wB,wC,wD]
 refine I9 ?_
 simp-implicitDefEqProofs only[a1c,a1K,a59,a5T,a6n,q0,c2,hq.rd,r1.eq,e2,p1,show((0:Int)<2)=True from eq_true (by omega),↓reduceIte,Nat.reduceEqDiff,Nat.reduceMul,List.getElem?_cons_zero,wA,wB,wC,wD]
 refine I9 ?_
 simp-implicitDefEqProofs only[a1c,a1K,a59,a5T,a6n,q1,q2,r3.eq,e4,p2,show((1:Int)<2)=True from eq_true (by omega),↓reduceIte,Nat.reduceEqDiff,Nat.reduceMul,List.getElem?_cons_succ,List.getElem?_cons_zero,wA,wB,wC,wD]
 refine I9 ?_
 simp-implicitDefEqProofs only[a1c,a1K,↓reduceIte,Nat.reduceEqDiff,wA,wB,wC,wD]
set_option maxRecDepth 20000 in
set_option maxHeartbeats 1000000 in
theorem f9Z(hw:Wf m){x:Ino}(hx:x.Ok){b off cap:Nat}{lim:Bool}(h:BsAt m (.slice b off 32 cap lim) (enc x) b)(hcap:32≤cap):
  ∃m',Keep m m' (fun _=>False)∧Ran Tryz.prog tb a6Q [.slice b off 32 cap lim] m (.tuple [.agg (s8 x.kind x.links x.size x.ps),iv 0]) m':=by
 have h10:=hx.len
 have hl:(enc x).length=32:=b0b h10
 have hb0:=h.lt hw
 obtain⟨m1,e1,a1,k1,n1⟩:=B0 hw A3 13 z13
 obtain⟨m2,e2,a2,k2,n2⟩:=B0 k1.wf A3 13 z13
 obtain⟨m3,e3,a3,k3,n3⟩:=B0 k2.wf d5 1 [iv 0]
 obtain⟨m4,e4,a4,k4,n4⟩:=l6 k3.wf J2 2 [.slice b off 32 cap lim,iv ((0:Nat):Int)]
 obtain⟨m5,e5,a5,k5,n5⟩:=l6 k4.wf P8 2 [.ptr m1.next 0,.ptr m2.next 0]
 have k15:=((k2.tf k3).tf k4).tf k5
 have k05:=k1.ft k15
 obtain⟨m6,aH6,aV6,aR6,k6,r6⟩:=g45 (at':=0) (w:=1) (oh:=0) (ov:=0) k5.wf (a4.keep k4.wf k5 id) (h.keep hw k05 id) hl.symm hcap (by omega) (by omega) (by omega) (a2.keep k2.wf ((k3.tf k4).tf k5) id) (a3.keep k3.wf (k4.tf k5) id) a5 (by omega) (by omega) (by omega) (by omega) (by omega) (by omega) (by omega) (by omega) (by omega) rfl (by decide) rfl (by decide)
 rw[f8m hx] at aH6
 have k06:Keep m m6 fun _=>False:=k05.trans k6 fun b hb e=>by omega
 obtain⟨m7,e7,a7,k7,n7⟩:=l6 k06.wf P8 1 [.ptr m1.next 1]
 have k07:=k06.tf k7
 have hn6:=k6.next
 have hs1:∀(p o at' w:Nat),((enc x).drop at').take w=prt (enc x) at' w:=fun _ _ _ _=>rfl
 obtain⟨m8,aH8,aR8,k8,r8⟩:=b4a (at':=2) (w:=2) (N:=1) (hb:=m1.next) (f:=fun|0=> [ivn x.kind,iv 0,iv 0,iv 0,iv 0,iv 0,iv 0,iv 0,iv 0,iv 0,iv 0,iv 0,iv 0] |_=> [ivn x.kind,ivn x.links,iv 0,iv 0,iv 0,iv 0,iv 0,iv 0,iv 0,iv 0,iv 0,iv 0,iv 0]) (os:=fun _=>1) k07.wf (aR6.keep k06.wf k7 id) (h.keep hw k07 id) hl.symm hcap (by omega) (by omega) (by omega) (by omega) (by omega) (by omega) (aH6.keep k06.wf k7 id)
  (fun k hk=>by
   obtain rfl:k=0:=by omega
   refine⟨?_,Nat.le_of_ble_eq_true rfl⟩
   rw[hs1 0 0 _ _,show 2+0*2=2 from rfl,f7n hx];rfl)
  (x:= .slice m6.next 0 1 1 false) (o:=some m6.next) (.row (junk:= []) a7 rfl rfl (Nat.le_refl _) (by decide)) (fun bo hbo=>by cases hbo;omega)
 have k08:Keep m m8 fun _=>False:=k07.trans k8 fun b hb e=>by omega
 have hn8:=k8.next
 obtain⟨m9,e9,a9,k9,n9⟩:=l6 k08.wf P8 1 [.ptr m1.next 2]
 have k09:=k08.tf k9
 obtain⟨m10,aH10,aR10,k10,r10⟩:=b4a (at':=4) (w:=4) (N:=1) (hb:=m1.next) (f:=fun|0=> [ivn x.kind,ivn x.links,iv 0,iv 0,iv 0,iv 0,iv 0,iv 0,iv 0,iv 0,iv 0,iv 0,iv 0] |_=>P0 x.kind x.links x.size x.ps 0) (os:=fun _=>2) k09.wf (aR8.keep k08.wf k9 id) (h.keep hw k09 id) hl.symm hcap (by omega) (by omega) (by omega) (by omega) (by omega) (by omega) (aH8.keep k08.wf k9 id)
  (fun k hk=>by
   obtain rfl:k=0:=by omega
   refine⟨?_,Nat.le_of_ble_eq_true rfl⟩
   rw[hs1 0 0 _ _,show 4+0*4=4 from rfl,f8w hx];rfl)
  (x:= .slice m8.next 0 1 1 false) (o:=some m8.next) (.row (junk:= []) a9 rfl rfl (Nat.le_refl _) (by decide)) (fun bo hbo=>by cases hbo;omega)
 have k010:Keep m m10 fun _=>False:=k09.trans k10 fun b hb e=>by omega
 have hn10:=k10.next
 have k910:=k10
 --the pointers
 have b10:=h.keep hw k010 id
 have q2:((2:Nat):Int)=2:=rfl
 have q4:((4:Nat):Int)=4:=rfl
 have q1:((1:Nat):Int)=1:=rfl
 rw[q1] at r6
 rw[q2] at r8
 rw[q4] at r10
 have hrp:B4 2 [s9] = [s9,s9] :=rfl
 have hrp1:B4 1 [s9] = [s9] :=rfl
 have q32:((32:Nat):Int)=32:=rfl
 have key:WpF Tryz.prog tb a6Q [.slice b off 32 cap lim] m fun v m'=>v= .tuple [.agg (s8 x.kind x.links x.size x.ps),iv 0]∧Keep m m' fun _=>False:=by
  have e4':=e4
  rw[nc0] at e4'
  have q8:((8:Nat):Int)=8:=rfl
  refine WpF.go g5r ?_
  simp-implicitDefEqProofs only[b4m,d5A,d9N,d7Q,d3H,d8C,d6r,e9b,d5W,d8T,e1,q32,e2,e3,e4',hrp,e5,r6.eq,hrp1,e7,r8.eq,e9,r10.eq,↓reduceIte,Nat.reduceEqDiff,Nat.reduceAdd,Nat.reduceLeDiff,wA,wB,wC,wD]
  refine y7 (fun j fr mk=>∃k,k≤8∧j=8-k∧(ev (tm 2) fr= .ptr m.next 0∧ev (tm 4) fr= .ptr m1.next 0∧ev (tm 6) fr= .ptr m3.next 0∧ev (tm 0) fr= .slice b off 32 cap lim∧ev (tm 29) fr=iv k)∧Keep m10 mk (fun x=>x=m1.next∨x=m3.next)∧At mk m1.next A3 true (P0 x.kind x.links x.size x.ps k)∧At mk m3.next J2 true [.slice b off 32 cap lim,iv ((8+2*k:Nat):Int)]) (k:=8) ⟨0,Nat.zero_le _,rfl,by simp-implicitDefEqProofs only[nc0,d7,↓reduceIte,Nat.reduceEqDiff,nc0,and_self],Keep.refl k010.wf _,aH10,aR10⟩ ?_
  rintro j fr mk ⟨k,hk,rfl,⟨f2,f4,f6,f0,f29⟩,kk,aH,aR⟩
  have k0k:Keep m mk fun _=>False:=k010.trans kk fun b hb e=>by omega
  have hnk:=kk.next
  by_cases hlt:k<8
  ·have hp:x.ps[k]? =some x.ps[k] :=List.getElem?_eq_getElem (by omega)
   obtain⟨n1,aR1,j1,s1⟩:=crn k0k.wf aR (h.keep hw k0k id) hl.symm hcap (by omega) (w:=2) (by omega) (by omega)
   rw[hs1 0 0 _ _,d1X hx hp] at s1
   obtain⟨n2,g2,aH2,j2,y2⟩:=(aH.keep k0k.wf j1 (by omega)).st j1.wf (3+k) [ivn x.ps[k]] (b9K h10 hp) (by rw[c0i h10 (by omega)];simp;omega)
   rw[q2] at s1
   have hia:=f1h (m:=n1) 8 1 m1.next 3 hlt
   rw[Nat.mul_one] at hia
   simp-implicitDefEqProofs only[b4m,a9X,c9b,c4z,c3d,f4,f6,f29,show((k:Int)<8)=True from eq_true (by omega),s1.eq,f0A,hia,g2,aD (k:Int) 1,↓reduceIte,Nat.reduceEqDiff,wA,wB,wC,wD]
   exact y8 (k':=8-(k+1)) (by omega) ⟨k+1,by omega,rfl,by simp-implicitDefEqProofs only[f2,f4,f6,f0,show(k:Int)+1=((k+1:Nat):Int) from rfl,d7,↓reduceIte,Nat.reduceEqDiff,and_self],(kk.trans j1 fun _ _ e=> .inr e).trans j2 fun _ _ e=> .inl e,aH2,by
    have:=aR1.keep j1.wf j2 (by omega)
    rwa [show 8+2*k+2=8+2*(k+1) by omega] at this⟩
  ·obtain rfl:k=8:=by omega
   obtain⟨n1,g1,c1,j1,y1⟩:=l6 k0k.wf P8 2 [.ptr m1.next 11,.ptr m1.next 12]
   have k01:=k0k.tf j1
   obtain⟨n2,dH,dR,j2,s2⟩:=b4a (at':=24) (w:=2) (N:=2) (hb:=m1.next) (f:=fun k=>P0 x.kind x.links x.size x.ps (8+k)) (os:=fun k=>3+(8+k)) k01.wf (aR.keep k0k.wf j1 id) (h.keep hw k01 id) hl.symm hcap (by omega) (by omega) (by omega) (by omega) (by omega) (by omega) (aH.keep k0k.wf j1 id)
    (fun k hk=>by
     have hp:x.ps[8+k]? =some x.ps[8+k] :=List.getElem?_eq_getElem (by omega)
     refine⟨?_,by rw[c0i h10 (by omega)];omega⟩
     rw[hs1 0 0 _ _,show 24+k*2=8+2*(8+k) by omega,d1X hx hp]
     exact b9K h10 hp)
    (x:= .slice mk.next 0 2 2 false) (o:=some mk.next) (.row (junk:= []) c1 rfl rfl (Nat.le_refl _) (by decide)) (fun bo hbo=>by cases hbo;omega)
   have dH:At n2 m1.next A3 true (P0 x.kind x.links x.size x.ps 10):=dH
   rw[g1N h10] at dH
   rw[q2] at s2
   have k02:Keep m n2 fun _=>False:=k01.trans j2 fun b hb e=>by omega
   have hX:(s8 x.kind x.links x.size x.ps).length=13:=by rw[X5,h10]
   have L2:n2.rdN m1.next 0 13=some (s8 x.kind x.links x.size x.ps):=by rw[dH.rdN (by omega),List.drop_zero,List.take_of_length_le (by omega)]
   obtain⟨n3,s3,b3,rb3,j3,y3,s4⟩:=c22 k02.wf hx
   have k03:=k02.tf j3
   have dH3:=dH.keep k02.wf j3 id
   have L3:n3.rdN m1.next 0 13=some (s8 x.kind x.links x.size x.ps):=by rw[dH3.rdN (by omega),List.drop_zero,List.take_of_length_le (by omega)]
   obtain⟨n4,j4,s5⟩:=f8x k03.wf hX (h.keep hw k03 id) rb3.bs
   have k04:=k03.tf j4
   have kk14:Keep m1 n4 fun x=>False:=by
    have t1:Keep m1 m6 fun _=>False:=k15.trans k6 fun b hb e=>by omega
    have t2:Keep m1 m8 fun _=>False:=(t1.tf k7).trans k8 fun b hb e=>by omega
    have t3:Keep m1 m10 fun _=>False:=(t2.tf k9).trans k10 fun b hb e=>by omega
    exact((((t3.trans kk fun b hb e=>by omega).tf j1).trans j2 fun b hb e=>by omega).tf j3).tf j4
   obtain⟨n5,g5,c5,j5,y5⟩:=(a1.keep k1.wf kk14 id).st k04.wf 0 (s8 x.kind x.links x.size x.ps) (l':=s8 x.kind x.links x.size x.ps) (by unfold z6;rw[List.take_zero,List.nil_append,List.drop_of_length_le (by rw[hX];exact Nat.le_refl _),List.append_nil]) (by rw[hX];exact Nat.le_refl _)
   have L5:n5.rdN m.next 0 13=some (s8 x.kind x.links x.size x.ps):=by rw[c5.rdN (by omega),List.drop_zero,List.take_of_length_le (by omega)]
   simp-implicitDefEqProofs only[b4m,a9X,c7c,c4l,d2w,f2,f4,f6,f0,f29,q8,hrp,g1,s2.eq,L2,s4.eq,L3,s5.eq,hX,g5,↓reduceIte,Nat.reduceEqDiff,Nat.reduceAdd,Nat.reduceSub,Nat.reduceLeDiff,List.getElem?_cons_succ,List.getElem?_cons_zero,wA,wB,wC,wD]
   rw[a2y (b:=m.next) (off:=0) (n:=13) (l:=s8 x.kind x.links x.size x.ps) (by kernel_rfl) (by kernel_rfl) (by simp-implicitDefEqProofs only[f2,d7,↓reduceIte,Nat.reduceEqDiff]) L5]
   simp-implicitDefEqProofs only[d7,↓reduceIte,true_and]
   exact k04.trans j5 fun b hb e=>by omega
 obtain⟨v,m',⟨rfl,kf⟩,r⟩:=key.ran
 exact⟨m',kf,r⟩
end
end Go.Proofs.YtooooiidpaecmaaGreatDoor
