import Derived.Test.YtooooiidpaecmaaGreatDoorAmK
/- The abstract machine: an operation's turn, and regions in the text's order. -/
namespace Go.Am
open Go Go.RowKit
section
variable {P:Program} {w0:World} {ρ:Ren} {m:M} {w:World}
theorem a4T{cf:CF}{d:Option (List Bool)}{g:Option (List Bool×Bool)}{o:OP}{fr:Fr}:H9 cf (.op d g o) fr m=ob (J1 g fr) fun t=>bc t (run o fr m) (some (AV.undef,m)):=rfl
theorem b8n{cf:CF}{d:Option (List Bool)}{g:Option (List Bool×Bool)}{f:RO}{args:List RO}{fr:Fr}:H9 cf (.call d g f args) fr m=ob (J1 g fr) fun t=>bc t (J8 cf (ev f fr) (evs args fr) m) (some (AV.undef,m)):=rfl
theorem f6F{cf:CF}{x:AV}{args:List AV}{r:AV×M}(h:J8 cf x args m=some r):(∃g caps,x= .func g caps∧cf (.fn g) (args++caps) m=some r)∨(∃l,x= .yield l∧cf (.yl l) args m=some r)∨∃g first,x= .bnd g first∧cf (.fn g) (first++args) m=some r:=by
 cases x<;>simp only[J8,elFunc,c95,elBnd,reduceCtorEq] at h
 case func g caps=>exact .inl ⟨g,caps,rfl,h⟩
 case yield l=>exact .inr (.inl ⟨l,rfl,h⟩)
 case bnd g first=>exact .inr (.inr ⟨g,first,rfl,h⟩)
theorem b8H{a:Operand→Value}{fr:Fr}:∀{l:List Operand},(∀x∈l,d6 ρ (ev (cO x) fr)=some (a x))→i8 ρ (evs (cOl l) fr)=some (l.map a)
 | [],_=>o0 ρ
 |x::l,h=>by
  show i8 ρ (ev (cO x) fr::evs (cOl l) fr)=_
  exact o9.2 ⟨_,_,h x (by simp),b8H fun y hy=>h y (by simp[hy]),rfl⟩
theorem turn{cf:CF}(hcf:CfOk P w0 cf)(h:Sim P w0 ρ m w){B:Frame}{tmps:Array Value}{ops:Array Oper}{i:Nat}{rest:List Nat}{k:List Item}{cs:List Frame}{o:Oper}{fr:Fr}{x:AV}{m':M}
  (ho:ops[i]? =some o) (hok:b2b o.op=true) (hf:FrOn ρ fr tmps (o.looksAt ops)) (hr:H9 cf (C3 P ops.toList o) fr m=some (x,m')):
  ∃ρ' u w',Steps P (lone (mk B tmps (.inRegion ops (i::rest)::k)) cs w) (lone (mk B (H3 o.dst u tmps) (.inRegion ops rest::k)) cs w')∧d6 ρ' x=some u∧ρ.le ρ'∧Sim P w0 ρ' m' w':=by
 have hop:∀y∈o.op.operands.toList,a18 y=true:=fun y hy=>List.all_eq_true.1 hok y hy
 have he:∀y∈o.op.operands.toList,d6 ρ (ev (cO y) fr)=some ((mk B tmps (.inRegion ops (i::rest)::k)).eval y):=fun y hy=>hf.opd B _ y hy (hop y hy)
 have skip:∀g,cG ops.toList o=some g→J1 g fr=some false→x= .undef→m'=m→∃ρ' u w',Steps P (lone (mk B tmps (.inRegion ops (i::rest)::k)) cs w) (lone (mk B (H3 o.dst u tmps) (.inRegion ops rest::k)) cs w')∧d6 ρ' x=some u∧ρ.le ρ'∧Sim P w0 ρ' m' w':=by
  intro g hg hw hx hm
  subst hx hm
  exact⟨ρ,undef,w,.one (f5X B tmps ops i rest k cs o ho (Y0 hg hf hw)),I1,ρ.le_refl,h⟩
 have plain:∀d g,cG ops.toList o=some g→C3 P ops.toList o= .op d g (cOp P o.op)→∃ρ' u w',Steps P (lone (mk B tmps (.inRegion ops (i::rest)::k)) cs w) (lone (mk B (H3 o.dst u tmps) (.inRegion ops rest::k)) cs w')∧d6 ρ' x=some u∧ρ.le ρ'∧Sim P w0 ρ' m' w':=by
  intro d g hg hc
  rw[hc,a4T] at hr
  obtain⟨t,hw,hr⟩:=d9 hr
  cases t with
  |false=>
   simp only[u7,Option.some.injEq,Prod.mk.injEq] at hr
   exact skip g hg hw hr.1.symm hr.2.symm
  |true=>
   simp only[l9] at hr
   obtain⟨ρ',nx,w',h1,h2,h3,h4⟩:=g4d h o he x m' hr
   have hnd:∀c,o.op≠ .defer c:=by
    intro c hc'
    rw[hc'] at hr
    cases hr
   rcases h2 with⟨v,rfl,hv⟩|⟨rfl,hv⟩
   ·exact⟨ρ',v,w',.one (a49 ho (Y0 hg hf hw) hnd h1 (.inl rfl)),hv,h3,h4⟩
   ·exact⟨ρ',undef,w',.one (a49 ho (Y0 hg hf hw) hnd h1 (.inr ⟨rfl,rfl⟩)),hv,h3,h4⟩
 cases hg:cG ops.toList o with
 |none=>
  have hc:C3 P ops.toList o= .op none none .none:=by unfold C3;rw[hg]
  rw[hc] at hr
  cases hr
 |some g=>
  by_cases hcall:∃c f,o.op= .call c∧c.callee= .value f
  ·obtain⟨c,f,hc,hcf'⟩:=hcall
   have hco:C3 P ops.toList o= .call (o.dst.map pth) g (cO f) (cOl c.args.toList):=by unfold C3;rw[hg];simp only[hc,hcf']
   rw[hco,b8n] at hr
   obtain⟨t,hw,hr⟩:=d9 hr
   cases t with
   |false=>
    simp only[u7,Option.some.injEq,Prod.mk.injEq] at hr
    exact skip g hg hw hr.1.symm hr.2.symm
   |true=>
    simp only[l9] at hr
    have hof:o.op.operands.toList=f::c.args.toList∨o.op.operands.toList=c.args.toList++ [f] :=by
     left
     rw[hc]
     simp[Op.operands,Call.operands,hcf']
    have hfm:f∈o.op.operands.toList:=by rcases hof with e|e<;>rw[e] <;>simp
    have ham:∀y∈c.args.toList,y∈o.op.operands.toList:=by intro y hy;rcases hof with e|e<;>rw[e] <;>simp[hy]
    have hfv:=he f hfm
    have hav:=b8H (a:=(mk B tmps (.inRegion ops (i::rest)::k)).eval) (l:=c.args.toList) (fun y hy=>he y (ham y hy))
    have hnd:∀c,o.op≠ .defer c:=by intro c' h';rw[hc] at h';cases h'
    rcases f6F hr with⟨gf,caps,hfn,hrun⟩|⟨l,hfn,hrun⟩|⟨gf,first,hfn,hrun⟩
    ·rw[hfn] at hfv
     simp only[d6,Option.map_eq_some_iff] at hfv
     obtain⟨us,hus,hfv⟩:=hfv
     obtain⟨ρ',u,w',hu,hle,hsim,hres⟩:=hcf.fn ρ m w gf _ x m' _ (mk B tmps (.inRegion ops (i::rest)::k)::cs) hrun (M7 hav hus) h
     have hexec:execOp (mk B tmps (.inRegion ops (i::rest)::k)).eval o=callFunc gf (c.args.toList.map (mk B tmps (.inRegion ops (i::rest)::k)).eval++us).toArray:=by
      simp only[execOp,hc,resolve,hcf',←hfv]
      simp[Deferred.ofValue,invoke]
      congr 1
      apply Array.ext'
      simp
     rcases hres with hval|⟨hent,hcall⟩
     ·exact⟨ρ',u,w',.one (a49 ho (Y0 hg hf hw) hnd (by rw[hexec];exact hval) (.inl rfl)),hu,hle,hsim⟩
     ·exact⟨ρ',u,w',b7V ho (Y0 hg hf hw) hnd (by rw[hexec];exact hent) hcall,hu,hle,hsim⟩
    ·rw[hfn] at hfv
     simp only[d6,Option.map_eq_some_iff] at hfv
     obtain⟨r,hr1,hfv⟩:=hfv
     obtain⟨ρ',u,w',hu,hle,hsim,f2,ts,a2,b2,hy,hst⟩:=hcf.yl ρ m w l r _ x m' _ (mk B tmps (.inRegion ops (i::rest)::k)) cs hrun hav hr1 h
     have hexec:execOp (mk B tmps (.inRegion ops (i::rest)::k)).eval o=Instr.yield r.blk (c.args.toList.map (mk B tmps (.inRegion ops (i::rest)::k)).eval).toArray:=by
      simp only[execOp,hc,resolve,hcf',←hfv]
      simp[Deferred.ofValue,invoke]
      congr 1
      apply Array.ext'
      simp
     exact⟨ρ',u,w',f6a ho (Y0 hg hf hw) hnd (by rw[hexec];exact hy) hst,hu,hle,hsim⟩
    ·rw[hfn] at hfv
     simp only[d6,Option.map_eq_some_iff] at hfv
     obtain⟨us,hus,hfv⟩:=hfv
     obtain⟨ρ',u,w',hu,hle,hsim,hres⟩:=hcf.fn ρ m w gf _ x m' _ (mk B tmps (.inRegion ops (i::rest)::k)::cs) hrun (M7 hus hav) h
     have hexec:execOp (mk B tmps (.inRegion ops (i::rest)::k)).eval o=callFunc gf (us++c.args.toList.map (mk B tmps (.inRegion ops (i::rest)::k)).eval).toArray:=by
      simp only[execOp,hc,resolve,hcf',←hfv]
      simp[Deferred.ofValue,invoke]
      congr 1
      apply Array.ext'
      simp
     rcases hres with hval|⟨hent,hcall⟩
     ·exact⟨ρ',u,w',.one (a49 ho (Y0 hg hf hw) hnd (by rw[hexec];exact hval) (.inl rfl)),hu,hle,hsim⟩
     ·exact⟨ρ',u,w',b7V ho (Y0 hg hf hw) hnd (by rw[hexec];exact hent) hcall,hu,hle,hsim⟩
  ·refine plain (o.dst.map pth) g hg ?_
   unfold C3
   rw[hg]
   simp only[]
   split
   ·rename_i c hc
    split
    ·rename_i f hf';exact absurd ⟨c,f,hc,hf'⟩ hcall
    ·rfl
   ·rfl
def a3S(n:Nat)(ops:List Oper):Prop:=∀o∈ops,(∀d,o.dst=some d→d<n)∧b2b o.op=true
theorem g2l(ops:List Oper)(o:Oper):(C3 P ops o).dst=if(cG ops o).isSome then o.dst.map pth else none:=by
 unfold C3
 cases cG ops o with
 |none=>rfl
 |some g=>
  simp only[Option.isSome_some,if_true]
  split
  ·split<;>rfl
  ·rfl
theorem b89{cf:CF}{ops:List Oper}{o:Oper}{fr:Fr}{r:AV×M}(h:H9 cf (C3 P ops o) fr m=some r):(C3 P ops o).dst=o.dst.map pth:=by
 rw[g2l]
 cases hg:cG ops o with
 |none=>
  unfold C3 at h
  rw[hg] at h
  cases h
 |some g=>rfl
theorem f6b{cf:CF}{co:CO}{l:List CO}{fr:Fr}:B9 cf (co::l) fr m=ob (H9 cf co fr m) fun q=>B9 cf l (l5 co.dst q.1 fr) q.2:=by
 cases co with
 |op d g o=>
  show b4o d g o cf (B9 cf l) fr m=_
  unfold b4o
  rw[a4T]
  cases J1 g fr with
  |none=>rfl
  |some t=>
   cases t with
   |false=>rfl
   |true=>
    show K9 d (B9 cf l) fr (run o fr m)=ob (run o fr m) _
    cases run o fr m<;>rfl
 |call d g f args=>
  show b1u d g f args cf (B9 cf l) fr m=_
  unfold b1u
  rw[b8n]
  cases J1 g fr with
  |none=>rfl
  |some t=>
   cases t with
   |false=>rfl
   |true=>
    show K9 d (B9 cf l) fr (J8 cf (ev f fr) (evs args fr) m)=ob (J8 cf (ev f fr) (evs args fr) m) _
    cases J8 cf (ev f fr) (evs args fr) m<;>rfl
theorem g36{cf:CF}(hcf:CfOk P w0 cf){B:Frame}{ops:Array Oper}{k:List Item}{cs:List Frame}{n:Nat}(hall:a3S n ops.toList):
  ∀(l:List Oper) (i:Nat) (ρ:Ren) (m:M) (w:World) (tmps:Array Value) (fr fr':Fr) (m':M),ops.toList.drop i=l→Sim P w0 ρ m w→FrRel ρ fr tmps→tmps.size=n→
   B9 cf (E6 P ops.toList l) fr m=some (fr',m')→
   ∃ρ' tmps' w',Steps P (lone (mk B tmps (.inRegion ops (List.range' i l.length)::k)) cs w) (lone (mk B tmps' (.inRegion ops [] ::k)) cs w')∧FrRel ρ' fr' tmps'∧tmps'.size=n∧ρ.le ρ'∧Sim P w0 ρ' m' w':=by
 intro l
 induction l with
 |nil=>
  intro i ρ m w tmps fr fr' m' _ h hf hn hr
  cases hr
  exact⟨ρ,tmps,w,.refl _ _,hf,hn,ρ.le_refl,h⟩
 |cons o l ih=>
  intro i ρ m w tmps fr fr' m' hd h hf hn hr
  have ho:ops[i]? =some o:=by
   have:ops.toList[i]? =some o:=by rw[←List.head?_drop,hd];rfl
   simpa using this
  have hd':ops.toList.drop (i+1)=l:=by rw[←List.drop_drop,hd];rfl
  have hmem:o∈ops.toList:=by rw[←List.take_append_drop i ops.toList,hd];simp
  obtain⟨hdst,hok⟩:=hall o hmem
  change B9 cf (C3 P ops.toList o::E6 P ops.toList l) fr m=_ at hr
  rw[f6b] at hr
  obtain⟨⟨x,m1⟩,h1,h2⟩:=d9 hr
  rw[b89 h1] at h2
  obtain⟨ρ1,u,w1,hs,hu,hle,hsim⟩:=turn hcf h (B:=B) (k:=k) (cs:=cs) (rest:=List.range' (i+1) l.length) ho hok (hf.on _) h1
  have hf1:=(hf.mono hle).put o.dst (fun k hk=>by rw[hn];exact hdst k hk) hu
  obtain⟨ρ2,tmps2,w2,hs2,hf2,hn2,hle2,hsim2⟩:=ih (i+1) ρ1 m1 w1 _ _ fr' m' hd' hsim hf1 (by rw[b8y,hn]) h2
  exact⟨ρ2,tmps2,w2,hs.trans hs2,hf2,hn2,Ren.le_trans hle hle2,hsim2⟩
end
end Go.Am
