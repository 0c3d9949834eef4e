import Derived.Test.YtooooiidpaecmaaGreatDoorAmK
/- The abstract machine: an operation's turn, and regions in the text's order. -/
namespace Go.Am
open Go Go.RowKit
section
variable {P:Program} {w0:World} {ρ:Ren} {m:M} {w:World}
theorem a3l{cf:CF}{d:Option (List Bool)}{g:Option (List Bool×Bool)}{o:OP}{fr:Fr}:F9 cf (.op d g o) fr m=ob (H1 g fr) fun t=>bc t (run o fr m) (some (AV.undef,m)):=rfl
theorem b46{cf:CF}{d:Option (List Bool)}{g:Option (List Bool×Bool)}{f:RO}{args:List RO}{fr:Fr}:F9 cf (.call d g f args) fr m=ob (H1 g fr) fun t=>bc t (H8 cf (ev f fr) (evs args fr) m) (some (AV.undef,m)):=rfl
theorem e5f{cf:CF}{x:AV}{args:List AV}{r:AV×M}(h:H8 cf x args m=some r):(∃g caps,x= .func g caps∧cf (.fn g) (args++caps) m=some r)∨(∃l,x= .yield l∧cf (.yl l) args m=some r)∨∃g first,x= .bnd g first∧cf (.fn g) (first++args) m=some r:=by
 cases x<;>simp only[H8,elFunc,c5f,elBnd,reduceCtorEq] at h
 case func g caps=>exact .inl ⟨g,caps,rfl,h⟩
 case yield l=>exact .inr (.inl ⟨l,rfl,h⟩)
 case bnd g first=>exact .inr (.inr ⟨g,first,rfl,h⟩)
theorem b5X{a:Operand→Value}{fr:Fr}:∀{l:List Operand},(∀x∈l,d5 ρ (ev (cO x) fr)=some (a x))→d9 ρ (evs (cOl l) fr)=some (l.map a)
 | [],_=>l5 ρ
 |x::l,h=>by
  show d9 ρ (ev (cO x) fr::evs (cOl l) fr)=_
  exact l6.2 ⟨_,_,h x (by simp),b5X fun y hy=>h y (by simp[hy]),rfl⟩
theorem turn{cf:CF}(hcf:CfOk P w0 cf)(h:Sim P w0 ρ m w){B:Frame}{tmps:Array Value}{ops:Array Oper}{i:Nat}{rest:List Nat}{k:List Item}{cs:List Frame}{o:Oper}{fr:Fr}{x:AV}{m':M}
  (ho:ops[i]? =some o) (hok:a9N o.op=true) (hf:FrOn ρ fr tmps (o.looksAt ops)) (hr:F9 cf (A9 P ops.toList o) fr m=some (x,m')):
  ∃ρ' u w',Steps P (lone (mk B tmps (.inRegion ops (i::rest)::k)) cs w) (lone (mk B (F4 o.dst u tmps) (.inRegion ops rest::k)) cs w')∧d5 ρ' x=some u∧ρ.le ρ'∧Sim P w0 ρ' m' w':=by
 have hop:∀y∈o.op.operands.toList,a0O y=true:=fun y hy=>List.all_eq_true.1 hok y hy
 have he:∀y∈o.op.operands.toList,d5 ρ (ev (cO y) fr)=some ((mk B tmps (.inRegion ops (i::rest)::k)).eval y):=fun y hy=>hf.opd B _ y hy (hop y hy)
 have skip:∀g,cG ops.toList o=some g→H1 g fr=some false→x= .undef→m'=m→∃ρ' u w',Steps P (lone (mk B tmps (.inRegion ops (i::rest)::k)) cs w) (lone (mk B (F4 o.dst u tmps) (.inRegion ops rest::k)) cs w')∧d5 ρ' x=some u∧ρ.le ρ'∧Sim P w0 ρ' m' w':=by
  intro g hg hw hx hm
  subst hx hm
  exact⟨ρ,undef,w,.one (e4z B tmps ops i rest k cs o ho (R8 hg hf hw)),G2,ρ.le_refl,h⟩
 have plain:∀d g,cG ops.toList o=some g→A9 P ops.toList o= .op d g (cOp P o.op)→∃ρ' u w',Steps P (lone (mk B tmps (.inRegion ops (i::rest)::k)) cs w) (lone (mk B (F4 o.dst u tmps) (.inRegion ops rest::k)) cs w')∧d5 ρ' x=some u∧ρ.le ρ'∧Sim P w0 ρ' m' w':=by
  intro d g hg hc
  rw[hc,a3l] at hr
  obtain⟨t,hw,hr⟩:=d7 hr
  cases t with
  |false=>
   simp only[o8,Option.some.injEq,Prod.mk.injEq] at hr
   exact skip g hg hw hr.1.symm hr.2.symm
  |true=>
   simp only[l7] at hr
   obtain⟨ρ',nx,w',h1,h2,h3,h4⟩:=f1K h o he x m' hr
   have hnd:∀c,o.op≠ .defer c:=by
    intro c hc'
    rw[hc'] at hr
    cases hr
   rcases h2 with⟨v,rfl,hv⟩|⟨rfl,hv⟩
   ·exact⟨ρ',v,w',.one (a3p ho (R8 hg hf hw) hnd h1 (.inl rfl)),hv,h3,h4⟩
   ·exact⟨ρ',undef,w',.one (a3p ho (R8 hg hf hw) hnd h1 (.inr ⟨rfl,rfl⟩)),hv,h3,h4⟩
 cases hg:cG ops.toList o with
 |none=>
  have hc:A9 P ops.toList o= .op none none .none:=by unfold A9;rw[hg]
  rw[hc] at hr
  cases hr
 |some g=>
  by_cases hcall:∃c f,o.op= .call c∧c.callee= .value f
  ·obtain⟨c,f,hc,hcf'⟩:=hcall
   have hco:A9 P ops.toList o= .call (o.dst.map pth) g (cO f) (cOl c.args.toList):=by unfold A9;rw[hg];simp only[hc,hcf']
   rw[hco,b46] at hr
   obtain⟨t,hw,hr⟩:=d7 hr
   cases t with
   |false=>
    simp only[o8,Option.some.injEq,Prod.mk.injEq] at hr
    exact skip g hg hw hr.1.symm hr.2.symm
   |true=>
    simp only[l7] at hr
    have hof:o.op.operands.toList=f::c.args.toList∨o.op.operands.toList=c.args.toList++ [f] :=by
     left
     rw[hc]
     simp[Op.operands,Call.operands,hcf']
    have hfm:f∈o.op.operands.toList:=by rcases hof with e|e<;>rw[e] <;>simp
    have ham:∀y∈c.args.toList,y∈o.op.operands.toList:=by intro y hy;rcases hof with e|e<;>rw[e] <;>simp[hy]
    have hfv:=he f hfm
    have hav:=b5X (a:=(mk B tmps (.inRegion ops (i::rest)::k)).eval) (l:=c.args.toList) (fun y hy=>he y (ham y hy))
    have hnd:∀c,o.op≠ .defer c:=by intro c' h';rw[hc] at h';cases h'
    rcases e5f hr with⟨gf,caps,hfn,hrun⟩|⟨l,hfn,hrun⟩|⟨gf,first,hfn,hrun⟩
    ·rw[hfn] at hfv
     simp only[d5,Option.map_eq_some_iff] at hfv
     obtain⟨us,hus,hfv⟩:=hfv
     obtain⟨ρ',u,w',hu,hle,hsim,hres⟩:=hcf.fn ρ m w gf _ x m' _ (mk B tmps (.inRegion ops (i::rest)::k)::cs) hrun (J5 hav hus) h
     have hexec:execOp (mk B tmps (.inRegion ops (i::rest)::k)).eval o=callFunc gf (c.args.toList.map (mk B tmps (.inRegion ops (i::rest)::k)).eval++us).toArray:=by
      simp only[execOp,hc,resolve,hcf',←hfv]
      simp[Deferred.ofValue,invoke]
      congr 1
      apply Array.ext'
      simp
     rcases hres with hval|⟨hent,hcall⟩
     ·exact⟨ρ',u,w',.one (a3p ho (R8 hg hf hw) hnd (by rw[hexec];exact hval) (.inl rfl)),hu,hle,hsim⟩
     ·exact⟨ρ',u,w',b4W ho (R8 hg hf hw) hnd (by rw[hexec];exact hent) hcall,hu,hle,hsim⟩
    ·rw[hfn] at hfv
     simp only[d5,Option.map_eq_some_iff] at hfv
     obtain⟨r,hr1,hfv⟩:=hfv
     obtain⟨ρ',u,w',hu,hle,hsim,f2,ts,a2,b2,hy,hst⟩:=hcf.yl ρ m w l r _ x m' _ (mk B tmps (.inRegion ops (i::rest)::k)) cs hrun hav hr1 h
     have hexec:execOp (mk B tmps (.inRegion ops (i::rest)::k)).eval o=Instr.yield r.blk (c.args.toList.map (mk B tmps (.inRegion ops (i::rest)::k)).eval).toArray:=by
      simp only[execOp,hc,resolve,hcf',←hfv]
      simp[Deferred.ofValue,invoke]
      congr 1
      apply Array.ext'
      simp
     exact⟨ρ',u,w',e4K ho (R8 hg hf hw) hnd (by rw[hexec];exact hy) hst,hu,hle,hsim⟩
    ·rw[hfn] at hfv
     simp only[d5,Option.map_eq_some_iff] at hfv
     obtain⟨us,hus,hfv⟩:=hfv
     obtain⟨ρ',u,w',hu,hle,hsim,hres⟩:=hcf.fn ρ m w gf _ x m' _ (mk B tmps (.inRegion ops (i::rest)::k)::cs) hrun (J5 hus hav) h
     have hexec:execOp (mk B tmps (.inRegion ops (i::rest)::k)).eval o=callFunc gf (us++c.args.toList.map (mk B tmps (.inRegion ops (i::rest)::k)).eval).toArray:=by
      simp only[execOp,hc,resolve,hcf',←hfv]
      simp[Deferred.ofValue,invoke]
      congr 1
      apply Array.ext'
      simp
     rcases hres with hval|⟨hent,hcall⟩
     ·exact⟨ρ',u,w',.one (a3p ho (R8 hg hf hw) hnd (by rw[hexec];exact hval) (.inl rfl)),hu,hle,hsim⟩
     ·exact⟨ρ',u,w',b4W ho (R8 hg hf hw) hnd (by rw[hexec];exact hent) hcall,hu,hle,hsim⟩
  ·refine plain (o.dst.map pth) g hg ?_
   unfold A9
   rw[hg]
   simp only[]
   split
   ·rename_i c hc
    split
    ·rename_i f hf';exact absurd ⟨c,f,hc,hf'⟩ hcall
    ·rfl
   ·rfl
def a2o(n:Nat)(ops:List Oper):Prop:=∀o∈ops,(∀d,o.dst=some d→d<n)∧a9N o.op=true
theorem f0B(ops:List Oper)(o:Oper):(A9 P ops o).dst=if(cG ops o).isSome then o.dst.map pth else none:=by
 unfold A9
 cases cG ops o with
 |none=>rfl
 |some g=>
  simp only[Option.isSome_some,if_true]
  split
  ·split<;>rfl
  ·rfl
theorem b5O{cf:CF}{ops:List Oper}{o:Oper}{fr:Fr}{r:AV×M}(h:F9 cf (A9 P ops o) fr m=some r):(A9 P ops o).dst=o.dst.map pth:=by
 rw[f0B]
 cases hg:cG ops o with
 |none=>
  unfold A9 at h
  rw[hg] at h
  cases h
 |some g=>rfl
theorem e4I{cf:CF}{co:CO}{l:List CO}{fr:Fr}:A6 cf (co::l) fr m=ob (F9 cf co fr m) fun q=>A6 cf l (l0 co.dst q.1 fr) q.2:=by
 cases co with
 |op d g o=>
  show b06 d g o cf (A6 cf l) fr m=_
  unfold b06
  rw[a3l]
  cases H1 g fr with
  |none=>rfl
  |some t=>
   cases t with
   |false=>rfl
   |true=>
    show I6 d (A6 cf l) fr (run o fr m)=ob (run o fr m) _
    cases run o fr m<;>rfl
 |call d g f args=>
  show a9G d g f args cf (A6 cf l) fr m=_
  unfold a9G
  rw[b46]
  cases H1 g fr with
  |none=>rfl
  |some t=>
   cases t with
   |false=>rfl
   |true=>
    show I6 d (A6 cf l) fr (H8 cf (ev f fr) (evs args fr) m)=ob (H8 cf (ev f fr) (evs args fr) m) _
    cases H8 cf (ev f fr) (evs args fr) m<;>rfl
theorem f09{cf:CF}(hcf:CfOk P w0 cf){B:Frame}{ops:Array Oper}{k:List Item}{cs:List Frame}{n:Nat}(hall:a2o n ops.toList):
  ∀(l:List Oper) (i:Nat) (ρ:Ren) (m:M) (w:World) (tmps:Array Value) (fr fr':Fr) (m':M),ops.toList.drop i=l→Sim P w0 ρ m w→FrRel ρ fr tmps→tmps.size=n→
   A6 cf (C9 P ops.toList l) fr m=some (fr',m')→
   ∃ρ' tmps' w',Steps P (lone (mk B tmps (.inRegion ops (List.range' i l.length)::k)) cs w) (lone (mk B tmps' (.inRegion ops [] ::k)) cs w')∧FrRel ρ' fr' tmps'∧tmps'.size=n∧ρ.le ρ'∧Sim P w0 ρ' m' w':=by
 intro l
 induction l with
 |nil=>
  intro i ρ m w tmps fr fr' m' _ h hf hn hr
  cases hr
  exact⟨ρ,tmps,w,.refl _ _,hf,hn,ρ.le_refl,h⟩
 |cons o l ih=>
  intro i ρ m w tmps fr fr' m' hd h hf hn hr
  have ho:ops[i]? =some o:=by
   have:ops.toList[i]? =some o:=by rw[←List.head?_drop,hd];rfl
   simpa using this
  have hd':ops.toList.drop (i+1)=l:=by rw[←List.drop_drop,hd];rfl
  have hmem:o∈ops.toList:=by rw[←List.take_append_drop i ops.toList,hd];simp
  obtain⟨hdst,hok⟩:=hall o hmem
  change A6 cf (A9 P ops.toList o::C9 P ops.toList l) fr m=_ at hr
  rw[e4I] at hr
  obtain⟨⟨x,m1⟩,h1,h2⟩:=d7 hr
  rw[b5O h1] at h2
  obtain⟨ρ1,u,w1,hs,hu,hle,hsim⟩:=turn hcf h (B:=B) (k:=k) (cs:=cs) (rest:=List.range' (i+1) l.length) ho hok (hf.on _) h1
  have hf1:=(hf.mono hle).put o.dst (fun k hk=>by rw[hn];exact hdst k hk) hu
  obtain⟨ρ2,tmps2,w2,hs2,hf2,hn2,hle2,hsim2⟩:=ih (i+1) ρ1 m1 w1 _ _ fr' m' hd' hsim hf1 (by rw[b5T,hn]) h2
  exact⟨ρ2,tmps2,w2,hs.trans hs2,hf2,hn2,Ren.le_trans hle hle2,hsim2⟩
end
end Go.Am
