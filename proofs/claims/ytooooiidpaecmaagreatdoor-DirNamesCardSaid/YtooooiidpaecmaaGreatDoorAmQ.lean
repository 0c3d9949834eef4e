import Derived.Test.YtooooiidpaecmaaGreatDoorAmP
import Derived.Lib.Bytealg
import Derived.ProofKit
import Derived.KernelRfl
/- The abstract machine: from a run to a row. -/
namespace Go.Am
open Go Go.RowKit Go.ChangeShapes Go.WideShapes
noncomputable def goodB(P:Program):Bool:=P.follows .mixedOrders&&P.funcs.toList.all fun fn=> !(fn.name== "runtime.NumGoroutine")&&(fn.body.isSome|| !(fn.name==a1u||(fn.name==a2t||(fn.name==K6||(fn.name==T0||fn.name==a1j))))||fn.origin== "")
theorem f9B{n:String}{args:List AV}{m m':M}{v:AV}(h:ext n args m=some (v,m')):
  (n=a1u∧args= [v]∧m'=m)∨(n=a2t∧∃t b q,args= [.iface t (.map b)]∧m.mapF b=some q∧v= .iface t (.map m.next)∧m'=m.new (.obj (.map q.1 q.2)))∨
  (n=K6∧∃x c s,args= [x,.y c]∧c≤255∧toS x=some s∧v=Option.rec (motive:=fun _=>AV) (.p (.int .i64 (-1))) (fun i=> .n i) (D7 s.data.toList c 0)∧m'=m)∨
  (n=T0∧∃a u,args= [.p (.float .f64 a)]∧a0p (Extern.MathFloor.toIntegral T0 .zero #[.float .f64 a])=some u∧u.oneCell'=true∧v=cv1 u∧m'=m)∨
  (n=a1j∧∃x c s,args= [x,.y c]∧c≤255∧toS x=some s∧v= .n (a0U s.data.toList c 0)∧m'=m):=by
 unfold ext at h
 split at h
 ·rename_i x c
  cases h1:decide (n=K6)&&Nat.ble c 255 with
  |true=>
   rw[h1,l9] at h
   simp only[Bool.and_eq_true] at h1
   obtain⟨s,hs,h⟩:=d9 h
   cases h
   exact .inr (.inr (.inl ⟨of_decide_eq_true h1.1,x,c,s,rfl,Nat.le_of_ble_eq_true h1.2,hs,rfl,rfl⟩))
  |false=>
   rw[h1,u7] at h
   obtain⟨h1,h⟩:=l4 h
   simp only[Bool.and_eq_true] at h1
   obtain⟨s,hs,h⟩:=d9 h
   cases h
   exact .inr (.inr (.inr (.inr ⟨of_decide_eq_true h1.1,x,c,s,rfl,Nat.le_of_ble_eq_true h1.2,hs,rfl,rfl⟩)))
 ·rename_i x
  by_cases h1:n=a1u
  ·rw[decide_eq_true h1,l9] at h
   cases h
   exact .inl ⟨h1,rfl,rfl⟩
  ·rw[decide_eq_false h1,u7] at h
   by_cases h1:n=T0
   ·rw[decide_eq_true h1,l9] at h
    split at h
    ·rename_i a
     obtain⟨u,hu,h⟩:=d9 h
     obtain⟨h2,h⟩:=l4 h
     cases h
     exact .inr (.inr (.inr (.inl ⟨h1,a,u,rfl,hu,h2,rfl,rfl⟩)))
    ·cases h
   rw[decide_eq_false h1,u7] at h
   obtain⟨h2,h⟩:=l4 h
   obtain⟨t,u,rfl,h⟩:=b8u h
   rcases a1h h with⟨b,rfl,h⟩|⟨_,h⟩
   ·obtain⟨q,hq,h⟩:=d9 h
    cases h
    exact .inr (.inl ⟨of_decide_eq_true h2,t,b,q,rfl,hq,rfl,rfl⟩)
   ·cases h
 ·cases h
def a7w(n:String):Prop:=n=a1u∨n=a2t∨n=K6∨n=T0∨n=a1j
theorem f7T(n:String)(hn:a7w n):Extern.allNextRows.lookup n=none∧Extern.allNextRows.lookup "" =none:=by rcases hn with rfl|rfl|rfl|rfl|rfl<;>exact⟨by kernel_rfl,by kernel_rfl⟩
theorem f5P(n:String)(hn:a7w n):Extern.allGenericRows.lookup n=none:=by rcases hn with rfl|rfl|rfl|rfl|rfl<;>kernel_rfl
theorem f6V(n:String)(hn:a7w n):Extern.allTypedRows.lookup n=none:=by rcases hn with rfl|rfl|rfl|rfl|rfl<;>kernel_rfl
theorem f9h:Extern.allRows.lookup a1u=some Extern.AbiNoEscape.same:=by kernel_rfl
theorem f7e:Extern.allRows.lookup a2t=some Extern.MapsClone.clone:=by kernel_rfl
theorem f6B:Extern.allRows.lookup K6=some Extern.BytealgIndexByte.indexByte:=by kernel_rfl
theorem f6y:Extern.allRows.lookup T0=some (Extern.MathFloor.toIntegral T0 .zero):=by kernel_rfl
theorem f7h:Extern.allRows.lookup a1j=some Extern.BytealgCount.count:=by kernel_rfl
theorem a2D{fn:Func}{f:Array Value→Sem Value}(hn:a7w fn.name)(ho:fn.origin= "")(hf:Extern.allRows.lookup fn.name=some f):Extern.findNext fn=none∧Extern.find fn=some f:=by
 constructor
 ·simp[Extern.findNext,ho,f7T _ hn]
 ·simp[Extern.find,f5P _ hn,f6V _ hn,hf]
theorem b7W{s:ByteArray}{b:UInt8}:∀(l:List UInt8) (k:Nat),(∀j,l[j]? =s.data[k+j]?)→k+l.length=s.size→∀(r:Option Nat),D7 l b.toNat k=r→(List.range' k l.length).find? (fun i=>s[i]! ==b)=r
 | [],k,_,_,r,h=>by cases h;rfl
 |c::l,k,hl,hk,r,h=>by
  have h0:=hl 0
  simp only[List.getElem?_cons_zero,Nat.add_zero] at h0
  have hc:s[k]! =c:=by
   have hlt:k<s.size:=by simp only[List.length_cons] at hk;omega
   have h1:=(Array.getElem?_eq_some_iff.1 h0.symm).2
   rw[getElem!_pos s k hlt]
   exact h1
  have ih:=b7W (b:=b) l (k+1) (fun j=>by have:=hl (j+1);simpa[Nat.add_assoc,Nat.add_comm 1] using this) (by simp only[List.length_cons] at hk;omega)
  simp only[List.length_cons,List.range'_succ,List.find?_cons,hc]
  unfold D7 at h
  by_cases hcb:c=b
  ·subst hcb
   rw[Nat.beq_refl,l9] at h
   cases h
   simp
  ·have hb:Nat.beq c.toNat b.toNat=false:=by
    cases h:Nat.beq c.toNat b.toNat with
    |false=>rfl
    |true=>exact absurd (UInt8.toNat_inj.1 (Nat.eq_of_beq_eq_true h)) hcb
   rw[hb,u7] at h
   have hbe:(c==b)=false:=by simpa using hcb
   rw[hbe]
   exact ih r h
theorem f9w{s:ByteArray}{c:Nat}(hc:c≤255){ρ:Ren}{w:World}{P:Program}:
  ∃u,(Extern.BytealgIndexByte.indexByte #[.string s,.int .u8 (c:Int)]).run P w= .ok u w∧d6 ρ (Option.rec (motive:=fun _=>AV) (.p (.int .i64 (-1))) (fun i=> .n i) (D7 s.data.toList c 0))=some u:=by
 have hb:(UInt8.ofNat c).toNat=c:=by simp;omega
 have hf:=b7W (s:=s) (b:=UInt8.ofNat c) s.data.toList 0 (fun j=>by simp) (by show 0+s.data.toList.length=s.data.size;simp) _ rfl
 rw[hb] at hf
 have hlen:s.data.toList.length=s.size:=by show s.data.toList.length=s.data.size;simp
 rw[hlen,←List.range_eq_range'] at hf
 have e:Extern.BytealgIndexByte.indexByte #[.string s,.int .u8 (c:Int)] =(do
   let b←Extern.Bytes.bytesOf (.string s)
   let c←Extern.Bytes.asByte (.int .u8 (c:Int))
   match(List.range b.size).find? fun i=>b[i]! ==c with
   |some i=>pure (goInt i)
   |none=>pure (goInt (-1))):=rfl
 rw[e]
 cases hi:D7 s.data.toList c 0 with
 |none=>
  rw[hi] at hf
  exact⟨.int .i64 (-1),by simp[Extern.Bytes.bytesOf,Extern.Bytes.asByte,hf,goInt],l7 rfl⟩
 |some i=>
  rw[hi] at hf
  exact⟨goInt i,by simp[Extern.Bytes.bytesOf,Extern.Bytes.asByte,hf],F3 i⟩
theorem b8C(c:UInt8):∀(l:List UInt8) (k:Nat),a0U l c.toNat k=k+l.count c
 | [],k=>rfl
 |b::l,k=>by
  unfold a0U
  rw[b8C c l,List.count_cons]
  by_cases h:b=c
  ·subst h
   rw[Nat.beq_refl,l9]
   simp
   omega
  ·have hb:Nat.beq b.toNat c.toNat=false:=by
    cases h2:Nat.beq b.toNat c.toNat with
    |false=>rfl
    |true=>exact absurd (UInt8.toNat_inj.1 (Nat.eq_of_beq_eq_true h2)) h
   rw[hb,u7]
   have hbe:(b==c)=false:=by simpa using h
   rw[hbe]
   simp
theorem f8I{s:ByteArray}{c:Nat}(hc:c≤255){ρ:Ren}{w:World}{P:Program}:
  ∃u,(Extern.BytealgCount.count #[.string s,.int .u8 (c:Int)]).run P w= .ok u w∧d6 ρ (.n (a0U s.data.toList c 0))=some u:=by
 have hb:(UInt8.ofNat c).toNat=c:=by simp;omega
 have h:=b8C (UInt8.ofNat c) s.data.toList 0
 rw[hb,Nat.zero_add] at h
 refine⟨_,Lib.run_countString s c w,?_⟩
 rw[h]
 exact F3 _
theorem good_of{P:Program}(h:goodB P=true):Good P:={
 mixed:=by simp only[goodB,Bool.and_eq_true] at h;exact h.1
 name:=by
  intro g fn hg
  simp only[goodB,Bool.and_eq_true,List.all_eq_true] at h
  have:=(h.2 fn (by simpa using Array.mem_of_getElem? hg)).1
  simpa using this
 ext:=by
  intro g fn args m m' v hg hb he w0 ρ vs w hv hsim
  simp only[goodB,Bool.and_eq_true,List.all_eq_true] at h
  have ho:=(h.2 fn (by simpa using Array.mem_of_getElem? hg)).2
  rcases f9B he with⟨hn,ha,hm⟩|⟨hn,t,b,q,ha,hq,hv',hm⟩|⟨hn,x,c,s,ha,hc,hs,hv',hm⟩|⟨hn,a,z,ha,hz,h1,hv',hm⟩|⟨hn,x,c,s,ha,hc,hs,hv',hm⟩
  ·subst ha hm
   have ho:fn.origin= "" :=by simpa[hb,hn] using ho
   obtain⟨u,us,h1,h2,rfl⟩:=o9.1 hv
   rw[o0] at h2
   cases h2
   refine⟨ρ,u,w,?_,h1,ρ.le_refl,hsim⟩
   obtain⟨f1,f2⟩:=a2D (.inl hn) ho (by rw[hn];exact f9h)
   have hne:¬fn.name= "runtime.NumGoroutine" :=by rw[hn];decide
   have hs:Extern.AbiNoEscape.same #[u] =pure u:=rfl
   simp[callFunc,hg,hne,hb,f1,f2,hs]
  ·subst ha hm hv'
   have ho:fn.origin= "" :=by simpa[hb,hn] using ho
   obtain⟨u,us,h1,h2,rfl⟩:=o9.1 hv
   rw[o0] at h2
   cases h2
   obtain⟨ρ',z,w',h3,h4,h5,h6⟩:=f8E hsim hq h1
   refine⟨ρ',z,w',?_,h4,h5,h6⟩
   obtain⟨f1,f2⟩:=a2D (.inr (.inl hn)) ho (by rw[hn];exact f7e)
   have hne:¬fn.name= "runtime.NumGoroutine" :=by rw[hn];decide
   simp[callFunc,hg,hne,hb,f1,f2,h3]
  ·subst ha hm hv'
   have ho:fn.origin= "" :=by simpa[hb,hn] using ho
   obtain⟨u,us,h1,h2,rfl⟩:=o9.1 hv
   obtain⟨u2,us2,h3,h4,rfl⟩:=o9.1 h2
   rw[o0] at h4
   cases h4
   have hu:=J5 hs h1
   subst hu
   rw[U6] at h3
   cases h3
   obtain⟨z,h5,h6⟩:=f9w (s:=s) hc (ρ:=ρ) (w:=w) (P:=P)
   refine⟨ρ,z,w,?_,h6,ρ.le_refl,hsim⟩
   obtain⟨f1,f2⟩:=a2D (.inr (.inr (.inl hn))) ho (by rw[hn];exact f6B)
   have hne:¬fn.name= "runtime.NumGoroutine" :=by rw[hn];decide
   simp only[Int.ofNat_eq_natCast]
   simp[callFunc,hg,hne,hb,f1,f2,h5]
  ·subst ha hm hv'
   have ho:fn.origin= "" :=by simpa[hb,hn] using ho
   obtain⟨u,us,h2,h3,rfl⟩:=o9.1 hv
   rw[o0] at h3
   cases h3
   rw[l7 rfl] at h2
   cases h2
   have h5:=a43 (P:=P) (w:=w) hz
   refine⟨ρ,z,w,?_,M9 ρ z h1,ρ.le_refl,hsim⟩
   obtain⟨f1,f2⟩:=a2D (.inr (.inr (.inr (.inl hn)))) ho (by rw[hn];exact f6y)
   have hne:¬fn.name= "runtime.NumGoroutine" :=by rw[hn];decide
   simp[callFunc,hg,hne,hb,f1,f2,h5]
  ·subst ha hm hv'
   have ho:fn.origin= "" :=by simpa[hb,hn] using ho
   obtain⟨u,us,h1,h2,rfl⟩:=o9.1 hv
   obtain⟨u2,us2,h3,h4,rfl⟩:=o9.1 h2
   rw[o0] at h4
   cases h4
   have hu:=J5 hs h1
   subst hu
   rw[U6] at h3
   cases h3
   obtain⟨z,h5,h6⟩:=f8I (s:=s) hc (ρ:=ρ) (w:=w) (P:=P)
   refine⟨ρ,z,w,?_,h6,ρ.le_refl,hsim⟩
   obtain⟨f1,f2⟩:=a2D (.inr (.inr (.inr (.inr hn)))) ho (by rw[hn];exact f7h)
   have hne:¬fn.name= "runtime.NumGoroutine" :=by rw[hn];decide
   simp only[Int.ofNat_eq_natCast]
   simp[callFunc,hg,hne,hb,f1,f2,h5]
 }
def ρ0:Ren:=⟨fun _=>none,fun _=>undef⟩
theorem a1I(b:Nat):m0.get b=none:=by unfold M.get m0;cases pth b<;>rfl
theorem b1L(b:Nat):m0.cel b=none:=by unfold M.cel;rw[a1I];rfl
theorem Sim.start{P:Program}(w:World):Sim P w ρ0 m0 w:={
 base:=Below.refl _ _
 next:=fun b _=>⟨rfl,a1I b⟩
 blk:=fun b B h=>by rw[a1I] at h;cases h
 mvok:=fun b c x h _=>by rw[b1L] at h;cases h
 own:=fun b c _ _ _ _ h=>by rw[b1L] at h;cases h
 ext:=fun b c _ _ _ _ h=>by rw[b1L] at h;cases h
 mown:=fun b c _ _ _ _ h=>by rw[a1I] at h;cases h
 }
theorem closed_calls{P:Program}(hP:Good P){T:Tb}(hT:∀w0,TbOk P w0 T){n:Nat}{g:FuncId}(hr:isTrue (arun P T n g [] m0)=true){fn:Func}{c:Code}(hfn:P.funcs[g]? =some fn)(hb:fn.body=some c)(w:World):
  Calls P g #[] w fun e w'=>e= .returned (.bool true)∧Below w.heap.size w w':=by
 unfold isTrue at hr
 split at hr
 ·rename_i m' he
  refine(a2q (w0:=w) hP (hT w) he (ρ:=ρ0) (vs:= []) (o0 _) (Sim.start w) hfn hb).mono fun e w' ⟨u,ρ',h1,h2,h3,h4⟩=> ?_
  rw[C2] at h2
  cases h2
  exact⟨h1,h4.base⟩
 ·cases hr
end Go.Am
