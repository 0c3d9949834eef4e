import Derived.Test.YtooooiidpaecmaaGreatDoorAmJ
import Derived.Orders
/- The abstract machine: an operation's turn in a region. -/
namespace Go.Am
open Go Go.RowKit
def mk(B:Frame)(tmps:Array Value)(todo:List Item):Frame:={B with tmps,todo,mode:= .run}
structure Good(P:Program):Prop where
 mixed:P.follows .mixedOrders=true
 name:∀(g:FuncId) (fn:Func),P.funcs[g]? =some fn→(fn.name== "runtime.NumGoroutine")=false
 ext:∀(g:FuncId) (fn:Func) (args:List AV) (m m':M) (v:AV),P.funcs[g]? =some fn→fn.body=none→ext fn.name args m=some (v,m')→
  ∀(w0:World) (ρ:Ren) (vs:List Value) (w:World),i8 ρ args=some vs→Sim P w0 ρ m w→∃ρ' u w',(callFunc g vs.toArray).run P w= .ok (.value u) w'∧d6 ρ' v=some u∧ρ.le ρ'∧Sim P w0 ρ' m' w'
def FrRel(ρ:Ren)(fr:Fr)(tmps:Array Value):Prop:=∀t,d6 ρ (E9 (pth t) fr)=some (tmps.getD t undef)
section
variable {P:Program} {w0:World} {ρ:Ren} {m:M} {w:World}
theorem FrRel.mono{ρ':Ren}{fr:Fr}{tmps:Array Value}(h:FrRel ρ fr tmps)(hle:ρ.le ρ'):FrRel ρ' fr tmps:=fun t=>K5 hle _ _ (h t)
theorem a0F(p:List Bool)(fr:Fr):E9 p fr=(A7 p fr).getD .undef:=by unfold E9;cases A7 p fr<;>rfl
theorem d3V(p:List Bool)(fr:Fr):ev (.tmp p) fr=E9 p fr:=rfl
theorem FrRel.opd{fr:Fr}{tmps:Array Value}(h:FrRel ρ fr tmps)(B:Frame)(todo:List Item)(x:Operand)(hx:a18 x=true):d6 ρ (ev (cO x) fr)=some ((mk B tmps todo).eval x):=by
 cases x with
 |tmp t=>exact h t
 |const v=>exact b0g ρ v hx
 |global g=>exact l7 rfl
 |func g=>simp[cO,ev,d6,i8,Frame.eval]
def FrOn(ρ:Ren)(fr:Fr)(tmps:Array Value)(l:List Tmp):Prop:=∀t∈l,d6 ρ (E9 (pth t) fr)=some (tmps.getD t undef)
theorem FrRel.on{fr:Fr}{tmps:Array Value}(h:FrRel ρ fr tmps)(l:List Tmp):FrOn ρ fr tmps l:=fun t _=>h t
theorem FrOn.opd{fr:Fr}{tmps:Array Value}{ops:Array Oper}{o:Oper}(h:FrOn ρ fr tmps (o.looksAt ops))(B:Frame)(todo:List Item)(x:Operand)(hm:x∈o.op.operands.toList)(hx:a18 x=true):d6 ρ (ev (cO x) fr)=some ((mk B tmps todo).eval x):=by
 cases x with
 |tmp t=>exact h t (List.mem_append_left _ (List.mem_filterMap.2 ⟨.tmp t,hm,rfl⟩))
 |const v=>exact b0g ρ v hx
 |global g=>exact l7 rfl
 |func g=>simp[cO,ev,d6,i8,Frame.eval]
theorem c5C(d:Option Nat)(v:AV)(fr:Fr):l5 (d.map pth) v fr=match d with|none=>fr|some d=>E1 v (pth d) fr:=by cases d<;>rfl
def H3(d:Option Tmp)(v:Value)(tmps:Array Value):Array Value:=match d with|none=>tmps|some d=>tmps.setIfInBounds d v
theorem b8y(d:Option Tmp)(v:Value)(tmps:Array Value):(H3 d v tmps).size=tmps.size:=by cases d<;>simp[H3]
theorem FrRel.put{fr:Fr}{tmps:Array Value}(h:FrRel ρ fr tmps)(d:Option Tmp)(hd:∀k,d=some k→k<tmps.size){x:AV}{v:Value}(hx:d6 ρ x=some v):FrRel ρ (l5 (d.map pth) x fr) (H3 d v tmps):=by
 intro t
 rw[c5C]
 cases d with
 |none=>exact h t
 |some k=>
  have hk:=hd k rfl
  simp only[H3]
  rw[a0F,a0E]
  by_cases hkt:t=k
  ·subst hkt
   rw[if_pos rfl]
   simp[hk,hx]
  ·rw[if_neg hkt,←a0F,h t]
   congr 1
   simp[Array.getElem?_setIfInBounds_ne (Ne.symm hkt)]
def X9(P:Program)(w0:World)(ρ:Ren)(w:World)(g:FuncId)(vs:List Value)(cs:List Frame)(v:AV)(m':M):Prop:=
 ∃ρ' u w',d6 ρ' v=some u∧ρ.le ρ'∧Sim P w0 ρ' m' w'∧
  ((callFunc g vs.toArray).run P w= .ok (.value u) w'∨
   ((callFunc g vs.toArray).run P w= .ok (.enter g vs.toArray) w∧∃fr,Steps P (lone (Frame.enter P g vs.toArray .normal) cs w) (lone fr cs w')∧fr.fn=g∧fr.leaving P w' (.returned u)))
def b9U(P:Program)(w0:World)(ρ:Ren)(w:World)(l:Nat)(vs:List Value)(c:Frame)(cs:List Frame)(v:AV)(m':M):Prop:=
 ∃ρ' u w',d6 ρ' v=some u∧ρ.le ρ'∧Sim P w0 ρ' m' w'∧∃f tmps a b,(Instr.yield l vs.toArray).run P w= .ok (.round l f tmps a b) w∧
  Steps P (lone (Frame.round l f tmps a b .normal) (c::cs) w) (lone (c.finish u) cs w')
structure CfOk(P:Program)(w0:World)(cf:CF):Prop where
 fn:∀ρ m w g args v m' vs cs,cf (.fn g) args m=some (v,m')→i8 ρ args=some vs→Sim P w0 ρ m w→X9 P w0 ρ w g vs cs v m'
 yl:∀ρ m w l r args v m' vs c cs,cf (.yl l) args m=some (v,m')→i8 ρ args=some vs→ρ.loc l=some r→Sim P w0 ρ m w→b9U P w0 ρ w r.blk vs c cs v m'
theorem a4Q(B:Frame)(tmps:Array Value)(ops:Array Oper)(i:Nat)(rest:List Nat)(k:List Item)(v:Value)(o:Oper)(ho:ops[i]? =some o):
  (mk B tmps (.inRegion ops (i::rest)::k)).finish v=mk B (H3 o.dst v tmps) (.inRegion ops rest::k):=by
 cases h:o.dst<;>simp[Frame.finish,mk,H3,ho,h]
theorem a9d(B:Frame)(tmps:Array Value)(ops:Array Oper)(i:Nat)(rest:List Nat)(k:List Item)(cs:List Frame)(o:Oper)(ho:ops[i]? =some o)(hw:Region.wanted o (yielded ops tmps)=true)(hnd:∀c,o.op≠ .defer c):
  stepG P true {frame:=mk B tmps (.inRegion ops (i::rest)::k),callers:=cs,status:= .running,dying:=none} w=
   stepG.apply P true (mk B tmps (.inRegion ops (i::rest)::k)) cs none (execOp (mk B tmps (.inRegion ops (i::rest)::k)).eval o) w:=by
 simp only[stepG,mk,stepG.exec,ho,Option.map_some,hw,Option.getD_some,if_true,stepG.oper,Frame.oper?]
 split
 ·rename_i l c hr hc;exact absurd hc (hnd _)
 ·rfl
theorem f5X(B:Frame)(tmps:Array Value)(ops:Array Oper)(i:Nat)(rest:List Nat)(k:List Item)(cs:List Frame)(o:Oper)(ho:ops[i]? =some o)(hw:Region.wanted o (yielded ops tmps)=false):
  step P (lone (mk B tmps (.inRegion ops (i::rest)::k)) cs w)= .next (lone (mk B (H3 o.dst undef tmps) (.inRegion ops rest::k)) cs w):=by
 rw[←a4Q B tmps ops i rest k undef o ho]
 exact step_lone_go (by simp[stepG,stepG.exec,mk,ho,hw])
theorem a49{cs:List Frame}{o:Oper}{nx:Next}{w':World}{v:Value}{B:Frame}{tmps:Array Value}{ops:Array Oper}{i:Nat}{rest:List Nat}{k:List Item}
  (ho:ops[i]? =some o) (hw:Region.wanted o (yielded ops tmps)=true) (hnd:∀c,o.op≠ .defer c)
  (hrun:(execOp (mk B tmps (.inRegion ops (i::rest)::k)).eval o).run P w= .ok nx w') (hnx:nx= .value v∨(nx= .skip∧v=undef)):
  step P (lone (mk B tmps (.inRegion ops (i::rest)::k)) cs w)= .next (lone (mk B (H3 o.dst v tmps) (.inRegion ops rest::k)) cs w'):=by
 rw[←a4Q B tmps ops i rest k v o ho]
 refine step_lone_go ?_
 rw[a9d B tmps ops i rest k cs o ho hw hnd]
 rcases hnx with rfl|⟨rfl,rfl⟩<;>simp[stepG.apply,hrun]
theorem b7V{cs:List Frame}{o:Oper}{g:FuncId}{args:Array Value}{w':World}{u:Value}{B:Frame}{tmps:Array Value}{ops:Array Oper}{i:Nat}{rest:List Nat}{k:List Item}
  (ho:ops[i]? =some o) (hw:Region.wanted o (yielded ops tmps)=true) (hnd:∀c,o.op≠ .defer c)
  (hrun:(execOp (mk B tmps (.inRegion ops (i::rest)::k)).eval o).run P w= .ok (.enter g args) w)
  (hcall:∃fr,Steps P (lone (Frame.enter P g args .normal) (mk B tmps (.inRegion ops (i::rest)::k)::cs) w) (lone fr (mk B tmps (.inRegion ops (i::rest)::k)::cs) w')∧fr.fn=g∧fr.leaving P w' (.returned u)):
  Steps P (lone (mk B tmps (.inRegion ops (i::rest)::k)) cs w) (lone (mk B (H3 o.dst u tmps) (.inRegion ops rest::k)) cs w'):=by
 obtain⟨fr,h1,_,h2⟩:=hcall
 have henter:step P (lone (mk B tmps (.inRegion ops (i::rest)::k)) cs w)= .next (lone (Frame.enter P g args .normal) (mk B tmps (.inRegion ops (i::rest)::k)::cs) w):=by
  refine step_lone_go ?_
  rw[a9d B tmps ops i rest k cs o ho hw hnd]
  have hk:(mk B tmps (.inRegion ops (i::rest)::k)).todo= .inRegion ops (i::rest)::k:=rfl
  simp[stepG.apply,hrun,hk]
 have hleave:=step_leave_returned (c:=mk B tmps (.inRegion ops (i::rest)::k)) (cs:=cs) h2
 rw[a4Q B tmps ops i rest k u o ho] at hleave
 exact .head henter (h1.trans (.one hleave))
theorem f6a{cs:List Frame}{o:Oper}{l f:Nat}{ts:Array Value}{a b:Code}{w':World}{u:Value}{B:Frame}{tmps:Array Value}{ops:Array Oper}{i:Nat}{rest:List Nat}{k:List Item}
  (ho:ops[i]? =some o) (hw:Region.wanted o (yielded ops tmps)=true) (hnd:∀c,o.op≠ .defer c)
  (hrun:(execOp (mk B tmps (.inRegion ops (i::rest)::k)).eval o).run P w= .ok (.round l f ts a b) w)
  (hcall:Steps P (lone (Frame.round l f ts a b .normal) (mk B tmps (.inRegion ops (i::rest)::k)::cs) w) (lone ((mk B tmps (.inRegion ops (i::rest)::k)).finish u) cs w')):
  Steps P (lone (mk B tmps (.inRegion ops (i::rest)::k)) cs w) (lone (mk B (H3 o.dst u tmps) (.inRegion ops rest::k)) cs w'):=by
 have henter:step P (lone (mk B tmps (.inRegion ops (i::rest)::k)) cs w)= .next (lone (Frame.round l f ts a b .normal) (mk B tmps (.inRegion ops (i::rest)::k)::cs) w):=by
  refine step_lone_go ?_
  rw[a9d B tmps ops i rest k cs o ho hw hnd]
  simp[stepG.apply,hrun]
 rw[a4Q B tmps ops i rest k u o ho] at hcall
 exact .head henter hcall
theorem Y0{ops:Array Oper}{o:Oper}{g:Option (List Bool×Bool)}{fr:Fr}{tmps:Array Value}{t:Bool}(hg:cG ops.toList o=some g)(hf:FrOn ρ fr tmps (o.looksAt ops))(hw:J1 g fr=some t):Region.wanted o (yielded ops tmps)=t:=by
 unfold cG at hg
 unfold Region.wanted
 split at hg
 ·rename_i h0;cases hg;cases hw;rw[h0]
 ·rename_i j wv h0
  split at hg
  ·rename_i d hd
   cases hg
   rw[h0]
   have hd':(ops[j]?).bind (·.dst)=some d:=by simpa using hd
   have hv:=hf d (by unfold Oper.looksAt;rw[h0];simp[hd'])
   have hy:yielded ops tmps j=match tmps.getD d undef with| .bool b=>some b|_=>none:=by
    unfold yielded
    rw[hd']
    simp only[Option.bind_some]
    by_cases hlt:d<tmps.size
    ·simp only[Array.getElem?_eq_getElem hlt,Array.getD,hlt,dif_pos]
     generalize hz:tmps[d] =z
     simp only[Array.getInternal_eq_getElem,hz]
     cases z<;>rfl
    ·simp[hlt,undef]
   simp only[hy]
   have hw:elB (elTup none (fun _=>some false) (E9 (pth d) fr)) (fun c=>some (bc c wv (!wv))) (E9 (pth d) fr)=some t:=hw
   cases hx:E9 (pth d) fr<;>simp only[hx,elB,elTup,reduceCtorEq,Option.some.injEq] at hw
   case b c=>
    rw[hx,C2] at hv
    rw[←Option.some.inj hv]
    simp only[]
    rw[←hw]
    cases c<;>cases wv<;>rfl
   case tuple vs=>
    rw[hx] at hv
    simp only[d6,Option.map_eq_some_iff] at hv
    obtain⟨us,_,hus⟩:=hv
    rw[←hus,←hw]
    rfl
  ·cases hg
end
end Go.Am
