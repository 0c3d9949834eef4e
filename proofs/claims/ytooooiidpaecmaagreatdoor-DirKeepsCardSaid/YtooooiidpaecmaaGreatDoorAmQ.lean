import Derived.Test.YtooooiidpaecmaaGreatDoorAmP
import Derived.Lib.Bytealg
import Derived.ProofKit
import Derived.KernelRfl
/- The abstract machine: from a run to a row. -/
namespace Go.Am
open Go Go.RowKit Go.ChangeShapes Go.WideShapes
noncomputable def goodB(P:Program):Bool:=P.follows .mixedOrders&&P.funcs.toList.all fun fn=> !(fn.name== "runtime.NumGoroutine")&&(fn.body.isSome|| !(fn.name==a0q||(fn.name==a1l||(fn.name==I3||(fn.name==N7||fn.name==a0m))))||fn.origin== "")
theorem e7b{n:String}{args:List AV}{m m':M}{v:AV}(h:ext n args m=some (v,m')):
  (n=a0q∧args= [v]∧m'=m)∨(n=a1l∧∃t b q,args= [.iface t (.map b)]∧m.mapF b=some q∧v= .iface t (.map m.next)∧m'=m.new (.obj (.map q.1 q.2)))∨
  (n=I3∧∃x c s,args= [x,.y c]∧c≤255∧toS x=some s∧v=Option.rec (motive:=fun _=>AV) (.p (.int .i64 (-1))) (fun i=> .n i) (C1 s.data.toList c 0)∧m'=m)∨
  (n=N7∧∃a u,args= [.p (.float .f64 a)]∧V9 (Extern.MathFloor.toIntegral N7 .zero #[.float .f64 a])=some u∧u.oneCell'=true∧v=cv1 u∧m'=m)∨
  (n=a0m∧∃x c s,args= [x,.y c]∧c≤255∧toS x=some s∧v= .n (Y8 s.data.toList c 0)∧m'=m):=by
 unfold ext at h
 split at h
 ·rename_i x c
  cases h1:decide (n=I3)&&Nat.ble c 255 with
  |true=>
   rw[h1,l7] at h
   simp only[Bool.and_eq_true] at h1
   obtain⟨s,hs,h⟩:=d7 h
   cases h
   exact .inr (.inr (.inl ⟨of_decide_eq_true h1.1,x,c,s,rfl,Nat.le_of_ble_eq_true h1.2,hs,rfl,rfl⟩))
  |false=>
   rw[h1,o8] at h
   obtain⟨h1,h⟩:=j8 h
   simp only[Bool.and_eq_true] at h1
   obtain⟨s,hs,h⟩:=d7 h
   cases h
   exact .inr (.inr (.inr (.inr ⟨of_decide_eq_true h1.1,x,c,s,rfl,Nat.le_of_ble_eq_true h1.2,hs,rfl,rfl⟩)))
 ·rename_i x
  by_cases h1:n=a0q
  ·rw[decide_eq_true h1,l7] at h
   cases h
   exact .inl ⟨h1,rfl,rfl⟩
  ·rw[decide_eq_false h1,o8] at h
   by_cases h1:n=N7
   ·rw[decide_eq_true h1,l7] at h
    split at h
    ·rename_i a
     obtain⟨u,hu,h⟩:=d7 h
     obtain⟨h2,h⟩:=j8 h
     cases h
     exact .inr (.inr (.inr (.inl ⟨h1,a,u,rfl,hu,h2,rfl,rfl⟩)))
    ·cases h
   rw[decide_eq_false h1,o8] at h
   obtain⟨h2,h⟩:=j8 h
   obtain⟨t,u,rfl,h⟩:=b5v h
   rcases a0k h with⟨b,rfl,h⟩|⟨_,h⟩
   ·obtain⟨q,hq,h⟩:=d7 h
    cases h
    exact .inr (.inl ⟨of_decide_eq_true h2,t,b,q,rfl,hq,rfl,rfl⟩)
   ·cases h
 ·cases h
def a5M(n:String):Prop:=n=a0q∨n=a1l∨n=I3∨n=N7∨n=a0m
theorem e6e(n:String)(hn:a5M n):Extern.allNextRows.lookup n=none∧Extern.allNextRows.lookup "" =none:=by rcases hn with rfl|rfl|rfl|rfl|rfl<;>exact⟨by kernel_rfl,by kernel_rfl⟩
theorem e4A(n:String)(hn:a5M n):Extern.allGenericRows.lookup n=none:=by rcases hn with rfl|rfl|rfl|rfl|rfl<;>kernel_rfl
theorem e5i(n:String)(hn:a5M n):Extern.allTypedRows.lookup n=none:=by rcases hn with rfl|rfl|rfl|rfl|rfl<;>kernel_rfl
theorem e6S:Extern.allRows.lookup a0q=some Extern.AbiNoEscape.same:=by kernel_rfl
theorem e5h:Extern.allRows.lookup a1l=some Extern.MapsClone.clone:=by kernel_rfl
theorem e5d:Extern.allRows.lookup I3=some Extern.BytealgIndexByte.indexByte:=by kernel_rfl
theorem e5c:Extern.allRows.lookup N7=some (Extern.MathFloor.toIntegral N7 .zero):=by kernel_rfl
theorem e5v:Extern.allRows.lookup a0m=some Extern.BytealgCount.count:=by kernel_rfl
theorem a1t{fn:Func}{f:Array Value→Sem Value}(hn:a5M fn.name)(ho:fn.origin= "")(hf:Extern.allRows.lookup fn.name=some f):Extern.findNext fn=none∧Extern.find fn=some f:=by
 constructor
 ·simp[Extern.findNext,ho,e6e _ hn]
 ·simp[Extern.find,e4A _ hn,e5i _ hn,hf]
theorem b5c{s:ByteArray}{b:UInt8}:∀(l:List UInt8) (k:Nat),(∀j,l[j]? =s.data[k+j]?)→k+l.length=s.size→∀(r:Option Nat),C1 l b.toNat k=r→(List.range' k l.length).find? (fun i=>s[i]! ==b)=r
 | [],k,_,_,r,h=>by cases h;rfl
 |c::l,k,hl,hk,r,h=>by
  have h0:=hl 0
  simp only[List.getElem?_cons_zero,Nat.add_zero] at h0
  have hc:s[k]! =c:=by
   have hlt:k<s.size:=by simp only[List.length_cons] at hk;omega
   have h1:=(Array.getElem?_eq_some_iff.1 h0.symm).2
   rw[getElem!_pos s k hlt]
   exact h1
  have ih:=b5c (b:=b) l (k+1) (fun j=>by have:=hl (j+1);simpa[Nat.add_assoc,Nat.add_comm 1] using this) (by simp only[List.length_cons] at hk;omega)
  simp only[List.length_cons,List.range'_succ,List.find?_cons,hc]
  unfold C1 at h
  by_cases hcb:c=b
  ·subst hcb
   rw[Nat.beq_refl,l7] at h
   cases h
   simp
  ·have hb:Nat.beq c.toNat b.toNat=false:=by
    cases h:Nat.beq c.toNat b.toNat with
    |false=>rfl
    |true=>exact absurd (UInt8.toNat_inj.1 (Nat.eq_of_beq_eq_true h)) hcb
   rw[hb,o8] at h
   have hbe:(c==b)=false:=by simpa using hcb
   rw[hbe]
   exact ih r h
theorem e7D{s:ByteArray}{c:Nat}(hc:c≤255){ρ:Ren}{w:World}{P:Program}:
  ∃u,(Extern.BytealgIndexByte.indexByte #[.string s,.int .u8 (c:Int)]).run P w= .ok u w∧d5 ρ (Option.rec (motive:=fun _=>AV) (.p (.int .i64 (-1))) (fun i=> .n i) (C1 s.data.toList c 0))=some u:=by
 have hb:(UInt8.ofNat c).toNat=c:=by simp;omega
 have hf:=b5c (s:=s) (b:=UInt8.ofNat c) s.data.toList 0 (fun j=>by simp) (by show 0+s.data.toList.length=s.data.size;simp) _ rfl
 rw[hb] at hf
 have hlen:s.data.toList.length=s.size:=by show s.data.toList.length=s.data.size;simp
 rw[hlen,←List.range_eq_range'] at hf
 have e:Extern.BytealgIndexByte.indexByte #[.string s,.int .u8 (c:Int)] =(do
   let b←Extern.Bytes.bytesOf (.string s)
   let c←Extern.Bytes.asByte (.int .u8 (c:Int))
   match(List.range b.size).find? fun i=>b[i]! ==c with
   |some i=>pure (goInt i)
   |none=>pure (goInt (-1))):=rfl
 rw[e]
 cases hi:C1 s.data.toList c 0 with
 |none=>
  rw[hi] at hf
  exact⟨.int .i64 (-1),by simp[Extern.Bytes.bytesOf,Extern.Bytes.asByte,hf,goInt],l3 rfl⟩
 |some i=>
  rw[hi] at hf
  exact⟨goInt i,by simp[Extern.Bytes.bytesOf,Extern.Bytes.asByte,hf],D7 i⟩
theorem b5S(c:UInt8):∀(l:List UInt8) (k:Nat),Y8 l c.toNat k=k+l.count c
 | [],k=>rfl
 |b::l,k=>by
  unfold Y8
  rw[b5S c l,List.count_cons]
  by_cases h:b=c
  ·subst h
   rw[Nat.beq_refl,l7]
   simp
   omega
  ·have hb:Nat.beq b.toNat c.toNat=false:=by
    cases h2:Nat.beq b.toNat c.toNat with
    |false=>rfl
    |true=>exact absurd (UInt8.toNat_inj.1 (Nat.eq_of_beq_eq_true h2)) h
   rw[hb,o8]
   have hbe:(b==c)=false:=by simpa using h
   rw[hbe]
   simp
theorem e6O{s:ByteArray}{c:Nat}(hc:c≤255){ρ:Ren}{w:World}{P:Program}:
  ∃u,(Extern.BytealgCount.count #[.string s,.int .u8 (c:Int)]).run P w= .ok u w∧d5 ρ (.n (Y8 s.data.toList c 0))=some u:=by
 have hb:(UInt8.ofNat c).toNat=c:=by simp;omega
 have h:=b5S (UInt8.ofNat c) s.data.toList 0
 rw[hb,Nat.zero_add] at h
 refine⟨_,Lib.run_countString s c w,?_⟩
 rw[h]
 exact D7 _
theorem good_of{P:Program}(h:goodB P=true):Good P:={
 mixed:=by simp only[goodB,Bool.and_eq_true] at h;exact h.1
 name:=by
  intro g fn hg
  simp only[goodB,Bool.and_eq_true,List.all_eq_true] at h
  have:=(h.2 fn (by simpa using Array.mem_of_getElem? hg)).1
  simpa using this
 ext:=by
  intro g fn args m m' v hg hb he w0 ρ vs w hv hsim
  simp only[goodB,Bool.and_eq_true,List.all_eq_true] at h
  have ho:=(h.2 fn (by simpa using Array.mem_of_getElem? hg)).2
  rcases e7b he with⟨hn,ha,hm⟩|⟨hn,t,b,q,ha,hq,hv',hm⟩|⟨hn,x,c,s,ha,hc,hs,hv',hm⟩|⟨hn,a,z,ha,hz,h1,hv',hm⟩|⟨hn,x,c,s,ha,hc,hs,hv',hm⟩
  ·subst ha hm
   have ho:fn.origin= "" :=by simpa[hb,hn] using ho
   obtain⟨u,us,h1,h2,rfl⟩:=l6.1 hv
   rw[l5] at h2
   cases h2
   refine⟨ρ,u,w,?_,h1,ρ.le_refl,hsim⟩
   obtain⟨f1,f2⟩:=a1t (.inl hn) ho (by rw[hn];exact e6S)
   have hne:¬fn.name= "runtime.NumGoroutine" :=by rw[hn];decide
   have hs:Extern.AbiNoEscape.same #[u] =pure u:=rfl
   simp[callFunc,hg,hne,hb,f1,f2,hs]
  ·subst ha hm hv'
   have ho:fn.origin= "" :=by simpa[hb,hn] using ho
   obtain⟨u,us,h1,h2,rfl⟩:=l6.1 hv
   rw[l5] at h2
   cases h2
   obtain⟨ρ',z,w',h3,h4,h5,h6⟩:=e64 hsim hq h1
   refine⟨ρ',z,w',?_,h4,h5,h6⟩
   obtain⟨f1,f2⟩:=a1t (.inr (.inl hn)) ho (by rw[hn];exact e5h)
   have hne:¬fn.name= "runtime.NumGoroutine" :=by rw[hn];decide
   simp[callFunc,hg,hne,hb,f1,f2,h3]
  ·subst ha hm hv'
   have ho:fn.origin= "" :=by simpa[hb,hn] using ho
   obtain⟨u,us,h1,h2,rfl⟩:=l6.1 hv
   obtain⟨u2,us2,h3,h4,rfl⟩:=l6.1 h2
   rw[l5] at h4
   cases h4
   have hu:=H4 hs h1
   subst hu
   rw[O7] at h3
   cases h3
   obtain⟨z,h5,h6⟩:=e7D (s:=s) hc (ρ:=ρ) (w:=w) (P:=P)
   refine⟨ρ,z,w,?_,h6,ρ.le_refl,hsim⟩
   obtain⟨f1,f2⟩:=a1t (.inr (.inr (.inl hn))) ho (by rw[hn];exact e5d)
   have hne:¬fn.name= "runtime.NumGoroutine" :=by rw[hn];decide
   simp only[Int.ofNat_eq_natCast]
   simp[callFunc,hg,hne,hb,f1,f2,h5]
  ·subst ha hm hv'
   have ho:fn.origin= "" :=by simpa[hb,hn] using ho
   obtain⟨u,us,h2,h3,rfl⟩:=l6.1 hv
   rw[l5] at h3
   cases h3
   rw[l3 rfl] at h2
   cases h2
   have h5:=a3o (P:=P) (w:=w) hz
   refine⟨ρ,z,w,?_,J8 ρ z h1,ρ.le_refl,hsim⟩
   obtain⟨f1,f2⟩:=a1t (.inr (.inr (.inr (.inl hn)))) ho (by rw[hn];exact e5c)
   have hne:¬fn.name= "runtime.NumGoroutine" :=by rw[hn];decide
   simp[callFunc,hg,hne,hb,f1,f2,h5]
  ·subst ha hm hv'
   have ho:fn.origin= "" :=by simpa[hb,hn] using ho
   obtain⟨u,us,h1,h2,rfl⟩:=l6.1 hv
   obtain⟨u2,us2,h3,h4,rfl⟩:=l6.1 h2
   rw[l5] at h4
   cases h4
   have hu:=H4 hs h1
   subst hu
   rw[O7] at h3
   cases h3
   obtain⟨z,h5,h6⟩:=e6O (s:=s) hc (ρ:=ρ) (w:=w) (P:=P)
   refine⟨ρ,z,w,?_,h6,ρ.le_refl,hsim⟩
   obtain⟨f1,f2⟩:=a1t (.inr (.inr (.inr (.inr hn)))) ho (by rw[hn];exact e5v)
   have hne:¬fn.name= "runtime.NumGoroutine" :=by rw[hn];decide
   simp only[Int.ofNat_eq_natCast]
   simp[callFunc,hg,hne,hb,f1,f2,h5]
 }
def ρ0:Ren:=⟨fun _=>none,fun _=>undef⟩
theorem a1U(b:Nat):m0.get b=none:=by unfold M.get m0;cases pth b<;>rfl
theorem a9k(b:Nat):m0.cel b=none:=by unfold M.cel;rw[a1U];rfl
theorem Sim.start{P:Program}(w:World):Sim P w ρ0 m0 w:={
 base:=Below.refl _ _
 next:=fun b _=>⟨rfl,a1U b⟩
 blk:=fun b B h=>by rw[a1U] at h;cases h
 mvok:=fun b c x h _=>by rw[a9k] at h;cases h
 own:=fun b c _ _ _ _ h=>by rw[a9k] at h;cases h
 ext:=fun b c _ _ _ _ h=>by rw[a9k] at h;cases h
 mown:=fun b c _ _ _ _ h=>by rw[a1U] at h;cases h
 }
theorem closed_calls{P:Program}(hP:Good P){T:Tb}(hT:∀w0,TbOk P w0 T){n:Nat}{g:FuncId}(hr:isTrue (arun P T n g [] m0)=true){fn:Func}{c:Code}(hfn:P.funcs[g]? =some fn)(hb:fn.body=some c)(w:World):
  Calls P g #[] w fun e w'=>e= .returned (.bool true)∧Below w.heap.size w w':=by
 unfold isTrue at hr
 split at hr
 ·rename_i m' he
  refine(a1j (w0:=w) hP (hT w) he (ρ:=ρ0) (vs:= []) (l5 _) (Sim.start w) hfn hb).mono fun e w' ⟨u,ρ',h1,h2,h3,h4⟩=> ?_
  rw[A7] at h2
  cases h2
  exact⟨h1,h4.base⟩
 ·cases hr
end Go.Am
