import Derived.Test.YtooooiidpaecmaaGreatDoorAmZa
import Derived.Test.YtooooiidpaecmaaGreatDoorAmW
/- The abstract machine: from what a walk shows to the model's calls; an argument that is a row. -/
namespace Go.Am
open Go Go.RowKit Go.ChangeShapes Go.WideShapes
theorem f8n{P:Program}(hP:Good P){w0:World}{T:Tb}(hT:TbOk P w0 T){g:FuncId}{args:List AV}{m:M}{Q:AV→M→Prop}(h:WpF P T g args m Q){ρ:Ren}{vs:List Value}{w:World}(hv:i8 ρ args=some vs)(hs:Sim P w0 ρ m w)
  {fn:Func} {c:Code} (hfn:P.funcs[g]? =some fn) (hb:fn.body=some c):
  Calls P g vs.toArray w fun e w'=>∃v m' u ρ',Q v m'∧e= .returned u∧d6 ρ' v=some u∧ρ.le ρ'∧Sim P w0 ρ' m' w':=by
 obtain⟨N,v,m',h1,h2⟩:=h
 refine(a2q hP hT (n:=N) (h1 N (Nat.le_refl _)) hv hs hfn hb).mono fun e w' ⟨u,ρ',h3,h4,h5,h6⟩=> ?_
 exact⟨v,m',u,ρ',h2,h3,h4,h5,h6⟩
theorem g1t{P:Program}(hP:Good P){T:Tb}(hT:∀w0,TbOk P w0 T){g:FuncId}{args:List AV}{m:M}(h:WpF P T g args m fun v _=>v= .b true){ρ:Ren}{vs:List Value}{w:World}(hv:i8 ρ args=some vs)(hs:Sim P w ρ m w)
  {fn:Func} {c:Code} (hfn:P.funcs[g]? =some fn) (hb:fn.body=some c):
  Calls P g vs.toArray w fun e w'=>e= .returned (.bool true)∧Below w.heap.size w w':=by
 refine(f8n hP (hT w) h hv hs hfn hb).mono fun e w' ⟨v,m',u,ρ',h1,h2,h3,h4,h5⟩=> ?_
 subst h1
 rw[C2] at h3
 cases h3
 exact⟨h2,h5.base⟩
def ρA(a:Addr):Ren:=⟨fun b=>if b=0 then some ⟨a.block,a.off,0⟩ else none,fun _=>undef⟩
def mE:M:=⟨.leaf,nat_lit 1⟩
theorem a3x(b:Nat):mE.get b=none:=by unfold M.get mE;cases pth b<;>rfl
theorem b28(b:Nat):mE.cel b=none:=by unfold M.cel;rw[a3x];rfl
theorem Sim.startE{P:Program}(w:World)(a:Addr):Sim P w (ρA a) mE w:={
 base:=Below.refl _ _
 next:=fun b hb=>⟨if_neg (by have:1≤b:=hb;omega),a3x b⟩
 blk:=fun b B h=>by rw[a3x] at h;cases h
 mvok:=fun b c x h _=>by rw[b28] at h;cases h
 own:=fun b c _ _ _ _ h=>by rw[b28] at h;cases h
 ext:=fun b c _ _ _ _ h=>by rw[b28] at h;cases h
 mown:=fun b c _ _ _ _ h=>by rw[a3x] at h;cases h}
theorem g6z:Wf mE:=fun b _=>a3x b
noncomputable def a0s(e:TypeId)(l:List AV):M:=m0.new (.cells ⟨e,l.length,v8 l (nat_lit 0) .leaf,[],none,false,false,true⟩)
theorem a9o(e:TypeId)(l:List AV):(a0s e l).next=1:=M.next_new _ _
theorem a0B(e:TypeId)(l:List AV)(b:Nat):(a0s e l).get b=if b=0 then some (.cells ⟨e,l.length,v8 l (nat_lit 0) .leaf,[],none,false,false,true⟩) else none:=by
 unfold a0s
 rw[M.get_new]
 show(if b=0 then _ else m0.get b)=_
 rw[a1I]
theorem g0b(e:TypeId)(l:List AV):Wf (a0s e l):=fun b hb=>by
 rw[a9o] at hb
 rw[a0B,if_neg (by omega)]
theorem c2g(e:TypeId)(l:List AV){i:Nat}{v:AV}(hv:l[i]? =some v):(⟨e,l.length,v8 l (nat_lit 0) .leaf,[],none,false,false,true⟩:Cel).rd i=v:=by
 have hi:=(List.getElem?_eq_some_iff.1 hv).1
 rw[V3,T4,if_pos ⟨Nat.zero_le _,by omega⟩,Nat.sub_zero,hv];rfl
theorem g1X(e:TypeId)(l:List AV):AtR (a0s e l) 0 l:=
 ⟨_,by rw[a0B,if_pos rfl],rfl,rfl,fun _ _ h=>c2g e l h⟩
theorem Sim.startRow{P:Program}{w:World}{a:Addr}{arr:Array Value}{e:TypeId}{fz:Nat×Nat}(hh:w.heap[a.block]? =some (.cells arr e fz))(l:List AV)(hn:a.off+l.length≤arr.size)
  (hc:∀i v,l[i]? =some v→∃u,d6 (ρA a) v=some u∧u.oneCell'=true∧arr[a.off+i]? =some u):Sim P w (ρA a) (a0s e l) w:=by
 have hcel:∀b c,(a0s e l).cel b=some c→b=0∧c=⟨e,l.length,v8 l (nat_lit 0) .leaf,[],none,false,false,true⟩:=by
  intro b c h
  have h:=M.cel_some.1 h
  rw[a0B] at h
  by_cases hb:b=0
  ·rw[if_pos hb] at h;cases h;exact⟨hb,rfl⟩
  ·rw[if_neg hb] at h;cases h
 refine⟨Below.refl _ _,?_,?_,?_,?_,?_,?_⟩
 ·intro b hb
  rw[a9o] at hb
  exact⟨if_neg (by omega),by rw[a0B,if_neg (by omega)]⟩
 ·intro b B h
  rw[a0B] at h
  by_cases hb:b=0
  ·rw[if_pos hb] at h;cases h
   refine⟨⟨a.block,a.off,0⟩,if_pos hb,arr,fz,hh,fun _ e=>(by cases e),fun _=>hn,fun _ e=>(by cases e),fun _ _ e=>(by cases e),fun _ e=>(by cases e),fun _ i hi=> ?_⟩
   have hv:l[i]? =some l[i] :=List.getElem?_eq_getElem hi
   rw[c2g e l hv]
   exact hc i _ hv
  ·rw[if_neg hb] at h;cases h
 ·intro b c x h hm
  obtain⟨_,rfl⟩:=hcel b c h
  cases hm
 ·intro b c b' c' r r' h h' _ _ _ _ _
  obtain⟨rfl,_⟩:=hcel b c h
  obtain⟨rfl,_⟩:=hcel b' c' h'
  exact .refl _
 ·intro b c b' c' r r' h h' _ hr hr' _ _
  obtain⟨rfl,rfl⟩:=hcel b c h
  obtain⟨rfl,rfl⟩:=hcel b' c' h'
  rw[hr] at hr';cases hr'
  exact Nat.le_refl _
 ·intro b es b' es' r r' h
  rw[a0B] at h
  by_cases hb:b=0
  ·rw[if_pos hb] at h;cases h
  ·rw[if_neg hb] at h;cases h
theorem c0p(a:Addr)(hs:a.spot=none)(len cap:Nat):d6 (ρA a) (.slice 0 0 len cap true)=some (.slice (some a) len cap):=by
 obtain⟨b,o,s⟩:=a
 cases hs
 rfl
theorem b0L(ρ:Ren)(i:Int):d6 ρ (iv i)=some (.int .i64 i):=M9 ρ _ rfl
theorem g0D(ρ:Ren)(l:List UInt8):d6 ρ (tv l)=some (.string ⟨l.toArray⟩):=l7 rfl
theorem f8c(ρ:Ren):d6 ρ j7=some (.slice none 0 0):=l7 rfl
theorem f72{H:Type}{enc:TypeId×Value→H}{P:Program}{f:Func}{s:ChangeSpec}{apart handsOn:Bool}{W W':World}{args:Array Value}{v:Value}{ds gs:List (DataW H)}{before pa:List MemPlace}
  (hW:DataW.Whole enc P f.params.toList s.vars apart W args.toList ds gs before)
  (hres:∀(b:Nat) (sp:Nat→Bool) (hd:Bool),DataW.TrodAll enc P W' b sp hd f.resultTypes.toList (v.resultList f.resultTypes.size) (s.fn H (ds++gs)).results [])
  (hargs:DataW.TrodAll enc P W' 0 (fun b=>decide (b<W.heap.size)) true f.params.toList args.toList (s.fn H (ds++gs)).args pa)
  (hvars:DataW.TrodVars enc P W' (fun b=>decide (b<W.heap.size)) s.vars (s.fn H (ds++gs)).vars [])
  (hb:Below W.heap.size W W'):s.post enc P f apart true handsOn false W args v W':=
 ⟨ds,gs,before,[],pa,[],hW,hres _ _ _,hargs,hvars,hb.frame _,fun h=>by cases h⟩
end Go.Am
