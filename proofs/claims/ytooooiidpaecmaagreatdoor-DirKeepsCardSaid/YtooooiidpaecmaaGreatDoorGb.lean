import Derived.Test.YtooooiidpaecmaaGreatDoorIaA
set_option linter.unusedVariables false
set_option linter.unusedSimpArgs false
/- Bytes in rows of their own. -/
namespace Go.Proofs.YtooooiidpaecmaaGreatDoor
open Go Go.Am
abbrev Bs:=List UInt8
theorem f1m(z:List AV):A1 0 z= [] :=rfl
theorem f1O(b o l c:Nat)(q:Bool):d8 Tryz.prog .eql B3 (.slice b o l c q) i7=some (.b false):=by kernel_rfl
theorem d9N{m:M}{e:TypeId}{x:AV}{len:Nat}{cells:List AV}{o:Option Nat}(h:SlAt m e 1 x len cells o){k:Nat}(hk:k<len):∃b cap,x= .slice b 0 len cap false∧o=some b∧m.rd b k=cells[k]? :=by
 cases h with
 |nil=>omega
 |row h hl hj hc h0=>exact⟨_,_,rfl,rfl,by rw[h.rd,List.getElem?_append_left (by omega)]⟩
theorem e5O{m:M}{e e' sz bytes k b:Nat}{z new cells:List AV}{y:AV}(hb:At m b e' true cells)(hw:Wf m)(hy:Rds m y sz k new)(h0:0<k)(hroom:E5 k bytes=true):
  ∃m',a0g e sz bytes z (.cst (.slice b 0 0 0 false)) (.cst y) .leaf m=some (.slice m.next 0 k k false,m')∧SlAt m' e sz (.slice m.next 0 k k false) k new (some m.next)∧Keep m m' (fun _=>False)∧m'.next=m.next+1:=by
 obtain⟨hy1,hy2,hy3⟩:=hy
 obtain⟨s',m',h1,h2,h3,h4⟩:=a7v (e:=e) (z:=z) hy3 h0 hw
 have hs:s'= .slice m.next 0 k k false:=by
  unfold G9 at h1
  rw[v6] at h1
  cases h1
  rfl
 subst hs
 have hrd:m.rdN b 0 0=some [] :=by rw[hb.rdN (by omega)];simp
 obtain⟨c,c1,c2,c3,c4,c5,c6,c7⟩:=hb.row
 refine⟨m',?_,h2,h3,h4⟩
 show(ob (Am.lenA y) fun k=>ob (G8 m sz k y) fun new=>I5 e sz bytes z m (.slice b 0 0 0 false) k new)=_
 rw[hy1,B8,hy2,B8,b4R]
 rw[Nat.zero_add,v8,decide_eq_false (by omega),o8,hroom,l7,M.cel_some.2 c1,B8,Nat.zero_mul,hrd,B8,c4,c6]
 exact h1
theorem e0l{m:M}{l:Bs}{e:TypeId}{b:Nat}(h:SlAt m e 1 (.slice b 0 l.length l.length false) l.length (g7 l) (some b)):BsAt m (.slice b 0 l.length l.length false) l b:=by
 have hy:(g7 l).length=l.length:=by simp[g7]
 cases h with
 |row h hl hj hc h0=>exact .row h.r (by simp;omega) (by rw[List.drop_zero,List.take_append_of_le_length (by omega),List.take_of_length_le (by omega)])
section
variable {m:M}
theorem a1G(n:Nat):A8 (.y n)=some [.y n] :=rfl
theorem a7N(n:Nat)(a:AV):(List.replicate n [a]).flatten=List.replicate n a:=by
 induction n with
 |zero=>rfl
 |succ n ih=>rw[List.replicate_succ,List.flatten_cons,ih];rfl
theorem W7(n:Nat)(x:UInt8):g7 (List.replicate n x)=List.replicate n (.y x.toNat):=by
 unfold g7
 rw[List.map_replicate]
end
abbrev uB:Nat:=j6+1
abbrev BtU(m:M)(s:AV)(l:Bs)(b:Nat):Prop:=Bt m j6 s l b
theorem W8{m:M}{s:AV}{l:Bs}{b:Nat}(hw:Wf m)(h:BsAt m s l b)(h0:l≠[])(hl:l.length≤1000000):
  ∃m' s' b',BtU m' s' l b'∧SlAt m' j6 1 s' l.length (g7 l) (some b')∧Keep m m' (fun _=>False)∧m.next≤b'∧Ran Tryz.prog tb V5 [s] m s' m':=by
 have hpos:0<l.length:=List.length_pos_iff.2 h0
 obtain⟨m1,ea,ha,hk1,hn1⟩:=l8 hw j6 0 []
 have hw1:=hk1.wf
 have h1:=h.keep hw hk1 fun h=>h
 obtain⟨m2,hr,hs2,hk2,hn2⟩:=e5O (e:=j6) (bytes:=1) (z:= [.y 0]) ha hw1 h1.src hpos (a0v (by omega) (by omega))
 have hb31:d8 Tryz.prog .eql B3 s i7=some (.b false):=by cases h;exact f1O _ _ _ _ _
 refine⟨m2,_,_,⟨e0l hs2,hs2.kd⟩,hs2,hk1.ft hk2,by omega,?_⟩
 refine WpF.go f3i ?_
 simp-implicitDefEqProofs only[f5o,d9a,c54,d4K,hb31,f1m,ea,hr,↓reduceIte,Nat.reduceEqDiff,wA,wB,wC,wD]
structure Bu(m:M)(s:AV)(l:Bs)(b:Nat):Prop where
 bs:BsAt m s l b
 kd:Am.kd m b uB∨Am.kd m b roK
end Go.Proofs.YtooooiidpaecmaaGreatDoor
