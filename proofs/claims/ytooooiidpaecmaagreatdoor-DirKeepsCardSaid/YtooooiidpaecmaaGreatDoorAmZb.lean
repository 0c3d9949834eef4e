import Derived.Test.YtooooiidpaecmaaGreatDoorAmZa
import Derived.Test.YtooooiidpaecmaaGreatDoorAmW
/- The abstract machine: from what a walk shows to the model's calls; an argument that is a row. -/
namespace Go.Am
open Go Go.RowKit Go.ChangeShapes Go.WideShapes
theorem e7C{P:Program}(hP:Good P){w0:World}{T:Tb}(hT:TbOk P w0 T){g:FuncId}{args:List AV}{m:M}{Q:AV→M→Prop}(h:WpF P T g args m Q){ρ:Ren}{vs:List Value}{w:World}(hv:d9 ρ args=some vs)(hs:Sim P w0 ρ m w)
  {fn:Func} {c:Code} (hfn:P.funcs[g]? =some fn) (hb:fn.body=some c):
  Calls P g vs.toArray w fun e w'=>∃v m' u ρ',Q v m'∧e= .returned u∧d5 ρ' v=some u∧ρ.le ρ'∧Sim P w0 ρ' m' w':=by
 obtain⟨N,v,m',h1,h2⟩:=h
 refine(a1j hP hT (n:=N) (h1 N (Nat.le_refl _)) hv hs hfn hb).mono fun e w' ⟨u,ρ',h3,h4,h5,h6⟩=> ?_
 exact⟨v,m',u,ρ',h2,h3,h4,h5,h6⟩
theorem e8B{P:Program}(hP:Good P){T:Tb}(hT:∀w0,TbOk P w0 T){g:FuncId}{args:List AV}{m:M}(h:WpF P T g args m fun v _=>v= .b true){ρ:Ren}{vs:List Value}{w:World}(hv:d9 ρ args=some vs)(hs:Sim P w ρ m w)
  {fn:Func} {c:Code} (hfn:P.funcs[g]? =some fn) (hb:fn.body=some c):
  Calls P g vs.toArray w fun e w'=>e= .returned (.bool true)∧Below w.heap.size w w':=by
 refine(e7C hP (hT w) h hv hs hfn hb).mono fun e w' ⟨v,m',u,ρ',h1,h2,h3,h4,h5⟩=> ?_
 subst h1
 rw[A7] at h3
 cases h3
 exact⟨h2,h5.base⟩
def ρA(a:Addr):Ren:=⟨fun b=>if b=0 then some ⟨a.block,a.off,0⟩ else none,fun _=>undef⟩
theorem e5S{H:Type}{enc:TypeId×Value→H}{P:Program}{f:Func}{s:ChangeSpec}{apart handsOn:Bool}{W W':World}{args:Array Value}{v:Value}{ds gs:List (DataW H)}{before pa:List MemPlace}
  (hW:DataW.Whole enc P f.params.toList s.vars apart W args.toList ds gs before)
  (hres:∀(b:Nat) (sp:Nat→Bool) (hd:Bool),DataW.TrodAll enc P W' b sp hd f.resultTypes.toList (v.resultList f.resultTypes.size) (s.fn H (ds++gs)).results [])
  (hargs:DataW.TrodAll enc P W' 0 (fun b=>decide (b<W.heap.size)) true f.params.toList args.toList (s.fn H (ds++gs)).args pa)
  (hvars:DataW.TrodVars enc P W' (fun b=>decide (b<W.heap.size)) s.vars (s.fn H (ds++gs)).vars [])
  (hb:Below W.heap.size W W'):s.post enc P f apart true handsOn false W args v W':=
 ⟨ds,gs,before,[],pa,[],hW,hres _ _ _,hargs,hvars,hb.frame _,fun h=>by cases h⟩
end Go.Am
