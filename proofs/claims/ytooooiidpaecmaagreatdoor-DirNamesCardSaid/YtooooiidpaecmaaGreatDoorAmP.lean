import Derived.Test.YtooooiidpaecmaaGreatDoorAmO
import Derived.RangeFuncRecord
import Derived.RangeFuncIn
/- The abstract machine: code and calls. -/
namespace Go.Am
open Go Go.RowKit
section
variable {P:Program} {w0:World}
section
variable {B:Frame} {tmps:Array Value} {k:List Item} {cs:List Frame} {w:World}
theorem g05:step P (lone (mk B tmps (.code .skip::k)) cs w)= .next (lone (mk B tmps k) cs w):=step_lone_go (by simp[stepG,stepG.exec,mk])
theorem f8r{l:Nat}:step P (lone (mk B tmps (.code (.label l)::k)) cs w)= .next (lone (mk B tmps k) cs w):=step_lone_go (by simp[stepG,stepG.exec,mk])
theorem f6W{id:Nat}:step P (lone (mk B tmps (.inBlock id::k)) cs w)= .next (lone (mk B tmps k) cs w):=step_lone_go (by simp[stepG,stepG.exec,mk])
theorem f6U{c:Code}:step P (lone (mk B tmps (.inScope c::k)) cs w)= .next (lone (mk B tmps k) cs w):=step_lone_go (by simp[stepG,stepG.exec,mk])
theorem e5v{x y:Code}:step P (lone (mk B tmps (.code (.seq x y)::k)) cs w)= .next (lone (mk B tmps (.code x:: .code y::k)) cs w):=step_lone_go (by simp[stepG,stepG.exec,mk])
theorem g1e{c:Operand}{x y:Code}{t:Bool}(h:(mk B tmps (.code (.cond c x y)::k)).eval c= .bool t):
  step P (lone (mk B tmps (.code (.cond c x y)::k)) cs w)= .next (lone (mk B tmps (.code (if t then x else y)::k)) cs w):=
 step_lone_go (by simp only[mk] at h;simp[stepG,stepG.exec,mk,h])
theorem a2E{id:Nat}{c:Code}:step P (lone (mk B tmps (.code (.block id c)::k)) cs w)= .next (lone (mk B tmps (.code c:: .inBlock id::k)) cs w):=step_lone_go (by simp[stepG,stepG.exec,mk])
theorem b0O{c:Code}:step P (lone (mk B tmps (.code (.loop c)::k)) cs w)= .next (lone (mk B tmps (.code c:: .inLoop c::k)) cs w):=step_lone_go (by simp[stepG,stepG.exec,mk])
theorem f7l{c:Code}:step P (lone (mk B tmps (.inLoop c::k)) cs w)= .next (lone (mk B tmps (.code c:: .inLoop c::k)) cs w):=step_lone_go (by simp[stepG,stepG.exec,mk])
theorem f81{c:Code}:step P (lone (mk B tmps (.code (.scope c)::k)) cs w)= .next (lone (mk B tmps (.code c:: .inScope c::k)) cs w):=step_lone_go (by simp[stepG,stepG.exec,mk])
theorem f93{id:Nat}{k':List Item}(h:exitTo id k=some k'):step P (lone (mk B tmps (.code (.exit id)::k)) cs w)= .next (lone (mk B tmps k') cs w):=step_lone_go (by simp[stepG,stepG.exec,mk,h])
theorem g02{l:Nat}{k':List Item}(h:gotoIn l k=some k'):step P (lone (mk B tmps (.code (.goto l)::k)) cs w)= .next (lone (mk B tmps k') cs w):=step_lone_go (by simp[stepG,stepG.exec,mk,h])
theorem f7Y{id:Nat}{ops:Array Oper}:step P (lone (mk B tmps (.code (.region id ops false)::k)) cs w)= .next (lone (mk B tmps (.inRegion ops (List.range ops.size)::k)) cs w):=step_lone_go (by simp[stepG,stepG.exec,mk])
theorem f5b{id:Nat}{ops:Array Oper}:step P (lone (mk B tmps (.code (.region id ops true)::k)) cs w)= .next (lone (mk B tmps (.inRegion ops (Region.schedule (P.follows .mixedOrders) ops (w.tape w.drawn (.order B.fn id)))::k)) cs {w with drawn:=w.drawn+1}):=
 step_lone_go (by simp[stepG,stepG.exec,mk,choose,Sem.run,Question.forced,Question.cut])
theorem b65{ops:Array Oper}:step P (lone (mk B tmps (.inRegion ops [] ::k)) cs w)= .next (lone (mk B tmps k) cs w):=step_lone_go (by simp[stepG,stepG.exec,mk])
theorem g2K(h:B.roundOf=none):step P (lone (mk B tmps []) cs w)= .next (lone {mk B tmps [] with mode:= .returning} cs w):=step_lone_go (by simp[stepG,stepG.exec,mk,h])
theorem g3c(h:B.roundOf=none):step P (lone (mk B tmps (.code .ret::k)) cs w)= .next (lone {mk B tmps (.code .ret::k) with mode:= .returning} cs w):=step_lone_go (by simp[stepG,stepG.exec,mk,h])
end
def a3T:K→List Item
 | .c c=> [.code c]
 | .sc body rest=> [.code rest,.inScope body]
def a6H(n:Nat):K→Bool
 | .c c=>y9 n c
 | .sc body rest=>y9 n body&&y9 n rest
def Arr(k:List Item):X→List Item→Prop
 | .normal,todo=>todo=k
 | .exit id,todo=>∃s,todo= .code (.exit id)::s∧exitTo id s=exitTo id k
 | .goto l,todo=>∃s,todo= .code (.goto l)::s∧gotoIn l s=gotoIn l k
 | .ret,todo=>∃s,todo= .code .ret::s
def DsOk(ρ:Ren):List Nat→List Deferred→Prop
 | [],D=>D= []
 |d::ds,D=>∃r D',ρ.loc d=some r∧D={target:= .collected r.blk,args:= #[]}::D'∧DsOk ρ ds D'
theorem DsOk.mono{ρ ρ':Ren}(hle:ρ.le ρ'):∀{ds:List Nat} {D:List Deferred},DsOk ρ ds D→DsOk ρ' ds D
 | [],_,h=>h
 |_::_,_,⟨r,D',h1,h2,h3⟩=>⟨r,D',hle.1 _ _ h1,h2,h3.mono hle⟩
def ArOk(ρ:Ren):Option Nat→Option Nat→Prop
 |none,ro=>ro=none
 |some l,ro=>∃r,ρ.loc l=some r∧ro=some r.blk
theorem ArOk.mono{ρ ρ':Ren}(hle:ρ.le ρ'){ar ro:Option Nat}(h:ArOk ρ ar ro):ArOk ρ' ar ro:=by
 cases ar with
 |none=>exact h
 |some l=>obtain⟨r,h1,h2⟩:=h;exact⟨r,hle.1 _ _ h1,h2⟩
def Lands(P:Program)(w0:World)(N:Nat)(B:Frame)(cs:List Frame)(ρ:Ren)(m:Machine)(k:List Item)(x:X)(st:St):Prop:=
 ∃ρ' D' tmps' w' todo',Steps P m (lone (mk {B with defers:=D'} tmps' todo') cs w')∧Arr k x todo'∧FrRel ρ' st.fr tmps'∧tmps'.size=N∧ρ.le ρ'∧Sim P w0 ρ' st.m w'∧DsOk ρ' st.ds D'∧ArOk ρ' st.ar B.roundOf
def a2h(P:Program)(w0:World)(ih:Ex):Prop:=
 ∀(N:Nat) (K:K) (st:St) (x:X) (st':St),ih K st=some (x,st')→a6H N K=true→∀(B:Frame) (k:List Item) (cs:List Frame) (ρ:Ren) (w:World) (tmps:Array Value),
  Sim P w0 ρ st.m w→FrRel ρ st.fr tmps→tmps.size=N→DsOk ρ st.ds B.defers→ArOk ρ st.ar B.roundOf→Lands P w0 N B cs ρ (lone (mk B tmps (a3T K++k)) cs w) k x st'
theorem Lands.head{N:Nat}{B:Frame}{cs:List Frame}{ρ ρ':Ren}{m m':Machine}{k:List Item}{x:X}{st:St}(h:Steps P m m')(hle:ρ.le ρ')(hl:Lands P w0 N B cs ρ' m' k x st):Lands P w0 N B cs ρ m k x st:=by
 obtain⟨ρ2,D,t,w',todo,h1,h2,h3,h4,h5,h6,h7,h8⟩:=hl
 exact⟨ρ2,D,t,w',todo,h.trans h1,h2,h3,h4,Ren.le_trans hle h5,h6,h7,h8⟩
theorem Lands.stay{N:Nat}{B:Frame}{cs:List Frame}{ρ:Ren}{k:List Item}{x:X}{st:St}{tmps:Array Value}{w:World}{todo:List Item}{m:Machine}(hs:Steps P m (lone (mk B tmps todo) cs w))(ha:Arr k x todo)(h:Sim P w0 ρ st.m w)(hf:FrRel ρ st.fr tmps)(hn:tmps.size=N)(hds:DsOk ρ st.ds B.defers)(har:ArOk ρ st.ar B.roundOf):Lands P w0 N B cs ρ m k x st:=
 ⟨ρ,B.defers,tmps,w,todo,hs,ha,hf,hn,ρ.le_refl,h,hds,har⟩
theorem Arr.pass{it:Item}{k:List Item}{x:X}{todo:List Item}(h:Arr (it::k) x todo)(hx:x≠ .normal)(he:∀id,x= .exit id→exitTo id (it::k)=exitTo id k)(hg:∀l,x= .goto l→gotoIn l (it::k)=gotoIn l k):Arr k x todo:=by
 cases x with
 |normal=>exact absurd rfl hx
 |exit id=>obtain⟨s,h1,h2⟩:=h;exact⟨s,h1,h2.trans (he id rfl)⟩
 |goto l=>obtain⟨s,h1,h2⟩:=h;exact⟨s,h1,h2.trans (hg l rfl)⟩
 |ret=>exact h
theorem Lands.again{N:Nat}{B:Frame}{cs:List Frame}{ρ:Ren}{k:List Item}{x:X}{st:St}{t:Array Value}{b:Code}{w:World}(h:Lands P w0 N B cs ρ (lone (mk B t (.code (.loop b)::k)) cs w) k x st):Lands P w0 N B cs ρ (lone (mk B t (.inLoop b::k)) cs w) k x st:=by
 obtain⟨ρ2,D,t2,w',todo,⟨n,hn⟩,h2,h3,h4,h5,h6,h7,h8⟩:=h
 cases n with
 |zero=>
  have e:(.code (.loop b)::k)=todo:=by
   simp only[runN,Stepped.next.injEq] at hn
   have e2:=congrArg (fun m:Machine=>(m.gs[0]?).map fun g=>g.frame.todo) hn
   simpa[lone,mk] using e2
  subst e
  cases x with
  |normal=>exact absurd h2 (by intro e;have:=congrArg List.length e;simp at this)
  |exit id=>obtain⟨s,e,_⟩:=h2;cases e
  |goto l=>obtain⟨s,e,_⟩:=h2;cases e
  |ret=>obtain⟨s,e⟩:=h2;cases e
 |succ n=>
  refine⟨ρ2,D,t2,w',todo,⟨n+1,?_⟩,h2,h3,h4,h5,h6,h7,h8⟩
  unfold runN at hn⊢
  rw[b0O] at hn
  rw[f7l]
  exact hn
theorem g5n{N:Nat}{id:Nat}{ops:Array Oper}{d:Bool}(h:y9 N (.region id ops d)=true):a3S N ops.toList:=by
 simp only[y9,List.all_eq_true,Bool.and_eq_true] at h
 intro o ho
 obtain⟨h1,h2⟩:=h o ho
 refine⟨fun d hd=> ?_,h2⟩
 rw[hd] at h1
 exact Nat.le_of_ble_eq_true h1
theorem f7Z(hP:Good P){cf:CF}(hcf:CfOk P w0 cf){N id:Nat}{ops:Array Oper}{d:Bool}(hsl:y9 N (.region id ops d)=true){st:St}{fr':Fr}{m':M}
  (hr:bc d (a0A P cf ops st.fr st.m) (B9 cf (E6 P ops.toList ops.toList) st.fr st.m)=some (fr',m')) {B:Frame} {k:List Item} {cs:List Frame} {ρ:Ren} {w:World} {tmps:Array Value}
  (h:Sim P w0 ρ st.m w) (hf:FrRel ρ st.fr tmps) (hn:tmps.size=N) (hds:DsOk ρ st.ds B.defers) (har:ArOk ρ st.ar B.roundOf):Lands P w0 N B cs ρ (lone (mk B tmps (.code (.region id ops d)::k)) cs w) k .normal ⟨fr',m',st.ds,st.ar⟩:=by
 have hall:=g5n hsl
 cases d with
 |false=>
  obtain⟨ρ',tmps',w',hs,hf',hn',hle,hsim⟩:=g36 hcf (B:=B) (k:=k) (cs:=cs) (n:=N) hall ops.toList 0 ρ st.m w tmps st.fr fr' m' rfl h hf hn hr
  refine⟨ρ',B.defers,tmps',w',k,?_,rfl,hf',hn',hle,hsim,hds.mono hle,har.mono hle⟩
  refine .head f7Y ?_
  rw[List.range_eq_range']
  have:ops.toList.length=ops.size:=by simp
  rw[this] at hs
  exact hs.trans (.one b65)
 |true=>
  obtain⟨ρ',tmps',w',hs,hf',hn',hle,hsim⟩:=f8l hcf (B:=B) (k:=k) (cs:=cs) (n:=N) hall (h.heap (w':={w with drawn:=w.drawn+1}) rfl rfl rfl rfl) hf hn hr (w.tape w.drawn (.order B.fn id))
  refine⟨ρ',B.defers,tmps',w',k,?_,rfl,hf',hn',hle,hsim,hds.mono hle,har.mono hle⟩
  refine .head f5b ?_
  rw[hP.mixed]
  simp only[Region.schedule,Bool.true_or,if_true]
  exact hs.trans (.one b65)
theorem b7E{r:O}{k:St→O}{x:X}{s:St}(h:andThen r k=some (x,s)):(∃s1,r=some (.normal,s1)∧k s1=some (x,s))∨(x≠ .normal∧r=some (x,s)):=by
 obtain⟨⟨x1,s1⟩,h1,h2⟩:=d9 h
 cases x1 with
 |normal=>exact .inl ⟨s1,h1,h2⟩
 |exit id=>
  have h2:r=some (x,s):=h2
  rw[h1] at h2;cases h2
  exact .inr ⟨by simp,h1⟩
 |goto id=>
  have h2:r=some (x,s):=h2
  rw[h1] at h2;cases h2
  exact .inr ⟨by simp,h1⟩
 |ret=>
  have h2:r=some (x,s):=h2
  rw[h1] at h2;cases h2
  exact .inr ⟨by simp,h1⟩
theorem a7Z{N l:Nat}:∀{c rest:Code},findLabel c l=some rest→y9 N c=true→y9 N rest=true
 | .seq a b,rest,h,hs=>by
  simp only[y9,Bool.and_eq_true] at hs
  simp only[findLabel] at h
  split at h
  ·rename_i r hr
   cases h
   simp only[y9,Bool.and_eq_true]
   exact⟨a7Z hr hs.1,hs.2⟩
  ·exact a7Z h hs.2
 | .label l',rest,h,hs=>by
  simp only[findLabel] at h
  split at h
  ·cases h;rfl
  ·cases h
 | .skip,_,h,_=>by cases h
 | .region ..,_,h,_=>by cases h
 | .cond ..,_,h,_=>by cases h
 | .block ..,_,h,_=>by cases h
 | .loop ..,_,h,_=>by cases h
 | .rangeFunc ..,_,h,_=>by cases h
 | .exit ..,_,h,_=>by cases h
 | .scope ..,_,h,_=>by cases h
 | .goto ..,_,h,_=>by cases h
 | .ret,_,h,_=>by cases h
 | .refuse ..,_,h,_=>by cases h
theorem f9I{β:Type}{k:Bool→Option β}{x:AV}{r:β}(h:elB none k x=some r):∃c,x= .b c∧k c=some r:=by
 cases x<;>simp only[elB,reduceCtorEq] at h
 exact⟨_,rfl,h⟩
theorem M.dfr_some{m:M}{b:Nat}{op:Bool}:m.dfr b=some op↔m.get b=some (.obj (.dfr op)):=by
 unfold M.dfr
 cases h:m.get b with
 |none=>simp[ob]
 |some x=>
  cases x with
  |cells c=>simp[ob]
  |obj o=>cases o<;>simp[ob]
theorem M.loop_some{m:M}{b:Nat}{L:ALoop}:m.loop b=some L↔m.get b=some (.obj (.loop L)):=by
 unfold M.loop
 cases h:m.get b with
 |none=>simp[ob]
 |some x=>
  cases x with
  |cells c=>simp[ob]
  |obj o=>cases o<;>simp[ob]
theorem b90(w:World)(o:Obj):(w.alloc o).heap[w.heap.size]? =some o:=by
 show(w.heap.push o)[w.heap.size]? =some o
 simp
theorem Sim.loopAt{ρ:Ren}{m:M}{w:World}(h:Sim P w0 ρ m w){b:Nat}{L:ALoop}(hb:m.loop b=some L):
  ∃r lp,ρ.loc b=some r∧w.heap[r.blk]? =some (.loop lp)∧w0.heap.size≤r.blk∧LoopOk ρ L lp:=by
 obtain⟨r,hr,O,k1,k2,lp,e,k3⟩:=h.blk b _ (M.loop_some.1 hb)
 subst e
 exact⟨r,lp,hr,k1,k2,k3⟩
theorem Sim.putLoop{ρ:Ren}{m:M}{w:World}(h:Sim P w0 ρ m w){b:Nat}{L L':ALoop}{r:RB}{lp lp':Loop}(hb:m.loop b=some L)(hr:ρ.loc b=some r)
  (hh:w.heap[r.blk]? =some (.loop lp)) (hk:LoopOk ρ L lp) (hown:w0.heap.size≤r.blk) (hok:LoopOk ρ L' lp'):
  Sim P w0 ρ (m.put b (.obj (.loop L'))) (w.putObj r.blk (.loop lp')):=
 h.putObj (M.loop_some.1 hb) hr hh (show ObOk ρ (.loop L) (.loop lp) from⟨lp,rfl,hk⟩) hown (show ObOk ρ (.loop L') (.loop lp') from⟨lp',rfl,hok⟩)
theorem f7p{ρ:Ren}{w:World}{s s1:St}{d:Nat}{D:List Deferred}{ro:Option Nat}(h:Sim P w0 ρ s.m w)(hr:e3b s=some (d,s1))(hds:DsOk ρ s.ds D)(har:ArOk ρ s.ar ro):
  ∃ρ1 w1 mark rd,ρ.le ρ1∧Sim P w0 ρ1 s1.m w1∧DsOk ρ1 s1.ds (mark++D)∧ArOk ρ1 s1.ar ro∧ρ1.loc d=some rd∧s1.fr=s.fr∧
   ∀(fn:FuncId) (tmps:Array Value) (ps:Array Tmp) (a b:Code),(Instr.enterLoop fn tmps ps a b ro).run P w=
    .ok (w1.heap.size,mark) (w1.alloc (.loop {state:= .ready,pending:=none,fn,tmps,params:=ps,assign:=a,body:=b,defers:=rd.blk})):=by
 obtain⟨fr,m,ds,ar⟩:=s
 cases ar with
 |none=>
  have hr:some (m.next,St.mk fr (m.new (.obj (.dfr true))) (m.next::ds) none)=some (d,s1):=hr
  cases hr
  have hro:ro=none:=har
  subst hro
  have hnew:=h.new (.deferred (some [])) (.obj (.dfr true)) ⟨w.heap.size,0,0⟩ rfl ⟨.deferred (some []),b90 w _,h.base.size,rfl⟩ (fun c hc=>by cases hc)
  refine⟨_,w.alloc (.deferred (some [])),[{target:= .collected w.heap.size,args:= #[]}],⟨w.heap.size,0,0⟩,hnew.2,hnew.1,⟨⟨w.heap.size,0,0⟩,D,Ren.put_same _ _ _,rfl,hds.mono hnew.2⟩,rfl,Ren.put_same _ _ _,rfl,?_⟩
  intro fn tmps ps a b
  rw[run_enterLoop_outer]
  simp only[World.size_alloc]
 |some l=>
  have hr:(ob (m.loop l) fun L=>some (L.dfr,St.mk fr m ds (some l)))=some (d,s1):=hr
  obtain⟨L,h1,h2⟩:=d9 hr
  cases h2
  obtain⟨r,lp,k1,k2,k3,k4⟩:=h.loopAt h1
  obtain⟨r',hr',hro⟩:=har
  rw[k1] at hr';cases hr'
  subst hro
  obtain⟨rd,hrd,hd⟩:=k4.dfr
  refine⟨ρ,w,[],rd,ρ.le_refl,h,hds,⟨r,k1,rfl⟩,hrd,rfl,?_⟩
  intro fn tmps ps a b
  simp[Instr.enterLoop,Sem.run_bind,run_getLoop k2,Result.andThen,hd]
theorem f8G(B:Frame)(D:List Deferred)(tmps:Array Value)(todo:List Item)(f:Operand):(⟨tmps,D⟩:Act).eval f=(mk {B with defers:=D} tmps todo).eval f:=by cases f<;>rfl
theorem g65{a b:Nat}{β:Type}{x:Option β}{r:β}(h:bc (Nat.beq a b) none x=some r):a≠b∧x=some r:=by
 cases hb:Nat.beq a b with
 |true=>rw[hb,l9] at h;cases h
 |false=>rw[hb,u7] at h;exact⟨(fun e=>by subst e;rw[Nat.beq_refl] at hb;cases hb),h⟩
theorem f6c{n:Nat}(h:n≠1):a3p n≠ .busy:=by
 match n,h with
 |0,_=>simp[a3p]
 |1,h=>exact absurd rfl h
 |2,_=>simp[a3p]
 |n+3,_=>simp[a3p]
theorem f62{j:Option Code}{x:X}(h:a3G j=some x):B8 x=j:=by
 cases j with
 |none=>cases h;rfl
 |some c=>cases c<;>cases h<;>rfl
theorem f8S{x:X}{k:List Item}:Arr k x (((B8 x).map Item.code).toList++k):=by
 cases x with
 |normal=>rfl
 |exit id=>exact⟨k,rfl,rfl⟩
 |goto l=>exact⟨k,rfl,rfl⟩
 |ret=>exact⟨k,rfl⟩
theorem f38{b:Frame}{a:Act}{k:List Item}{cs:List Frame}{w:World}{g:Operand}{ps:Array Tmp}{assign body:Code}{l:Nat}{mark:List Deferred}{w₁ w₁' w₂:World}{d:Deferred}{u:Value}
  (he:(Instr.enterLoop b.fn a.tmps ps assign body b.roundOf).run P w= .ok (l,mark) w₁)
  (hres:(resolve a.eval (rangeCall g l) 0).run P w₁= .ok d w₁') (hinv:(invoke d.target d.args).run P w₁'= .ok (.value u) w₂):
  step P (lone (b.atR a (.code (.rangeFunc g ps assign body)::k)) cs w)= .next (lone (b.atR {a with defers:=mark++a.defers} (.endRangeFunc l::k)) cs w₂):=
 step_lone_go (by
  have hev:=Frame.eval_atR b {a with defers:=mark++a.defers} (.inRangeFunc l::k)
  simp only[Frame.atR] at hev
  have hres':Sem.run P (resolve ({tmps:=a.tmps,defers:=mark++a.defers}:Act).eval {callee:= .value g,args:= #[.const (.func (.yield l) #[] #[])],argTypes:= #[]} 0) w₁= .ok d w₁':=hres
  simp[stepG,stepG.exec,Frame.atR,Sem.runT_eq,he,GStep.bare_after,stepG.apply,hev,Sem.run_bind,hres',hinv,Result.andThen,Frame.finish])
theorem f5T{T:Tb}{ih:Ex}(hcf:CfOk P w0 (V6 P T ih)){N:Nat}{f:Operand}{ps:Array Tmp}{a b:Code}{st st':St}{x:X}
  (hr:b75 f ps a b (fun _ _ _ _=>none) (fun _ _ _ _=>none) P T ih st=some (x,st')) (hsl:y9 N (.rangeFunc f ps a b)=true)
  {B:Frame} {k:List Item} {cs:List Frame} {ρ:Ren} {w:World} {tmps:Array Value} (hsim:Sim P w0 ρ st.m w) (hf:FrRel ρ st.fr tmps) (hn:tmps.size=N) (hds:DsOk ρ st.ds B.defers) (har:ArOk ρ st.ar B.roundOf):
  Lands P w0 N B cs ρ (lone (mk B tmps (.code (.rangeFunc f ps a b)::k)) cs w) k x st':=by
 obtain⟨⟨d,s1⟩,h1,hr⟩:=d9 hr
 obtain⟨⟨v,m3⟩,h2,hr⟩:=d9 hr
 obtain⟨L,h3,hr⟩:=d9 hr
 obtain⟨h4,hr⟩:=g65 hr
 obtain⟨x',h5,hr⟩:=d9 hr
 cases hr
 simp only[y9,Bool.and_eq_true,List.all_eq_true] at hsl
 obtain⟨ho,hps,hsa,hsb⟩:=hsl
 obtain⟨ρ1,w1,mark,rd,e1,e2,e3,e4,e5,e6,e7⟩:=f7p hsim h1 hds har
 --the record
 let lp:Loop:={state:= .ready,pending:=none,fn:=B.fn,tmps:=tmps,params:=ps,assign:=a,body:=b,defers:=rd.blk}
 have hnew:=e2.new (.loop lp) (.obj (.loop ⟨0,none,st.fr,ps.toList,a,b,d⟩)) ⟨w1.heap.size,0,0⟩ rfl
  ⟨.loop lp,b90 w1 _,e2.base.size,lp,rfl,rfl,rfl,rfl,rfl,rfl,fun t=>K5 (Ren.put_le (e2.next _ (Nat.le_refl _)).1) _ _ (K5 e1 _ _ (hf t)),by show(y9 tmps.size a&&y9 tmps.size b)=true;rw[hn,hsa,hsb];rfl,
   fun p hp=>by have:=Nat.le_of_ble_eq_true (hps p hp);show p<tmps.size;omega,rd,(Ren.put_le (e2.next _ (Nat.le_refl _)).1).1 _ _ e5,rfl⟩ (fun c hc=>by cases hc)
 obtain⟨hs2,hle2⟩:=hnew
 --the call
 have hfv:=hf.opd B (.code (.rangeFunc f ps a b)::k) f ho
 cases hfe:ev (cO f) st.fr with
 |func g caps=>
  rw[hfe] at h2 hfv
  have h2:G7 P T ih g (.yield s1.m.next::caps) (s1.m.new (.obj (.loop ⟨0,none,st.fr,ps.toList,a,b,d⟩)))=some (v,m3):=h2
  simp only[d6,Option.map_eq_some_iff] at hfv
  obtain⟨us,hus,hfv⟩:=hfv
  have hargs:i8 (ρ1.put s1.m.next ⟨w1.heap.size,0,0⟩) (.yield s1.m.next::caps)=some (Value.func (.yield w1.heap.size) #[] #[] ::us):=by
   refine o9.2 ⟨_,_,?_,P2 hle2 _ _ (P2 e1 _ _ hus),rfl⟩
   simp only[d6,Ren.put_same,Option.map_some]
  let B2:Frame:={B with defers:=mark++B.defers}
  obtain⟨ρ3,u,w3,c1,c2,c3,c4⟩:=hcf.fn _ _ _ g _ v m3 _ (mk B2 tmps (.inRangeFunc w1.heap.size::k)::cs) h2 hargs hs2
  have hres:(resolve (⟨tmps,B.defers⟩:Act).eval (rangeCall f w1.heap.size) 0).run P (w1.alloc (.loop lp))= .ok {target:= .fn (.func g) us.toArray,args:= #[Value.func (.yield w1.heap.size) #[] #[]]} (w1.alloc (.loop lp)):=by
   have e:(⟨tmps,B.defers⟩:Act).eval f= .func (.func g) #[] us.toArray:=by rw[f8G B B.defers tmps (.code (.rangeFunc f ps a b)::k) f];exact hfv.symm
   simp only[resolve,e]
   simp[Deferred.ofValue,Act.eval]
  have hinv:invoke (.fn (.func g) us.toArray) #[Value.func (.yield w1.heap.size) #[] #[]] =callFunc g (Value.func (.yield w1.heap.size) #[] #[] ::us).toArray:=by
   simp[invoke]
  have hback:Steps P (lone (mk B tmps (.code (.rangeFunc f ps a b)::k)) cs w) (lone (mk B2 tmps (.endRangeFunc w1.heap.size::k)) cs w3):=by
   rcases c4 with hval|⟨hent,fr,hst,hfn,hlv⟩
   ·exact .one (f38 (P:=P) (b:=B) (a:=⟨tmps,B.defers⟩) (k:=k) (cs:=cs) (w:=w) (g:=f) (e7 B.fn tmps ps a b) hres (by rw[hinv];exact hval))
   ·have s1:=stepR_rangeFunc (P:=P) (b:=B) (a:=⟨tmps,B.defers⟩) (k:=k) (cs:=cs) (w:=w) (g:=f) (e7 B.fn tmps ps a b) hres (by rw[hinv];exact hent)
    have s2:=step_leave_returned (c:=mk B2 tmps (.inRangeFunc w1.heap.size::k)) (cs:=cs) hlv
    exact .head s1 (hst.trans (.one s2))
  obtain⟨r,lp3,k1,k2,k3,k4⟩:=c3.loopAt h3
  have hr2:r=⟨w1.heap.size,0,0⟩:=by
   have:=c2.1 _ _ (Ren.put_same ρ1 s1.m.next ⟨w1.heap.size,0,0⟩)
   rw[k1] at this
   exact Option.some.inj this
  subst hr2
  have hend:=run_endLoop (P:=P) k2 (by rw[k4.state];exact f6c h4)
  have s3:=stepR_endRangeFunc (P:=P) (b:=B) (a:=⟨tmps,mark++B.defers⟩) (k:=k) (cs:=cs) hend
  have hfin:=c3.putLoop (L':={L with st:=3}) (lp':={lp3 with state:= .exhausted}) h3 k1 k2 k4 k3 ⟨rfl,k4.pend,k4.params,k4.assign,k4.body,k4.fr,k4.slots,k4.inb,k4.dfr⟩
  refine⟨ρ3,mark++B.defers,tmps,_,_,hback.trans (.one s3),?_,?_,hn,Ren.le_trans e1 (Ren.le_trans hle2 c2),hfin,(e3.mono hle2).mono c2,(e4.mono hle2).mono c2⟩
  ·rw[k4.pend,←f62 h5]
   exact f8S
  ·exact(hf.mono e1).mono (Ren.le_trans hle2 c2)
 |_=>rw[hfe] at h2;cases h2
theorem f8B(hP:Good P){T:Tb}{ih:Ex}(h:a2h P w0 ih)(hcf:CfOk P w0 (V6 P T ih)):a2h P w0 (a0Z P T ih):=by
 intro N K st x st' hr hsl B k cs ρ w tmps hsim hf hn hds har
 cases K with
 |sc body rest=>
  simp only[a6H,Bool.and_eq_true] at hsl
  have hr:a5N body ih (ih (.c rest) st)=some (x,st'):=hr
  obtain⟨⟨x1,s1⟩,h1,h2⟩:=d9 hr
  obtain⟨ρ1,D1,t1,w1,todo1,q1,q2,q3,q4,q5,q6,q7,q8⟩:=h N (.c rest) st x1 s1 h1 hsl.2 B (.inScope body::k) cs ρ w tmps hsim hf hn hds har
  cases x1 with
  |normal=>
   have h2:ih (.c rest) st=some (x,st'):=h2
   rw[h1] at h2;cases h2
   cases q2
   exact⟨ρ1,D1,t1,w1,k,q1.trans (.one f6U),rfl,q3,q4,q5,q6,q7,q8⟩
  |exit id=>
   have h2:ih (.c rest) st=some (x,st'):=h2
   rw[h1] at h2;cases h2
   exact⟨ρ1,D1,t1,w1,todo1,q1,q2.pass (by simp) (fun _ _=>rfl) (fun _ e=>by cases e),q3,q4,q5,q6,q7,q8⟩
  |ret=>
   have h2:ih (.c rest) st=some (x,st'):=h2
   rw[h1] at h2;cases h2
   exact⟨ρ1,D1,t1,w1,todo1,q1,q2.pass (by simp) (fun _ e=>by cases e) (fun _ e=>by cases e),q3,q4,q5,q6,q7,q8⟩
  |goto l=>
   have h2:Option.rec (motive:=fun _=>O) (ih (.c rest) st) (fun rest=>ih (.sc body rest) s1) (findLabel body l)=some (x,st'):=h2
   obtain⟨s,e1,e2⟩:=q2
   cases hfl:findLabel body l with
   |none=>
    rw[hfl] at h2
    have h2:ih (.c rest) st=some (x,st'):=h2
    rw[h1] at h2;cases h2
    refine⟨ρ1,D1,t1,w1,todo1,q1,⟨s,e1,e2.trans ?_⟩,q3,q4,q5,q6,q7,q8⟩
    simp only[gotoIn,hfl]
   |some r2=>
    rw[hfl] at h2
    have h2:ih (.sc body r2) s1=some (x,st'):=h2
    subst e1
    have hg:gotoIn l s=some (.code r2:: .inScope body::k):=by rw[e2];simp only[gotoIn,hfl]
    refine Lands.head (q1.trans (.one (g02 hg))) q5 ?_
    exact h N (.sc body r2) s1 x st' h2 (by simp only[a6H,Bool.and_eq_true];exact⟨hsl.1,a7Z hfl hsl.1⟩) {B with defers:=D1} k cs ρ1 w1 t1 q6 q3 q4 q7 q8
 |c c=>
  have hr:f0J c P T ih st=some (x,st'):=hr
  have hsl:y9 N c=true:=hsl
  cases c with
  |skip=>
   have hr:some (X.normal,st)=some (x,st'):=hr
   cases hr
   exact .stay (.one g05) rfl hsim hf hn hds har
  |label l=>
   have hr:some (X.normal,st)=some (x,st'):=hr
   cases hr
   exact .stay (.one f8r) rfl hsim hf hn hds har
  |region id ops d=>
   have hr:(ob (bc d (a0A P (V6 P T ih) ops st.fr st.m) (B9 (V6 P T ih) (E6 P ops.toList ops.toList) st.fr st.m)) fun q=>some (X.normal,St.mk q.1 q.2 st.ds st.ar))=some (x,st'):=hr
   obtain⟨⟨fr',m'⟩,h1,h2⟩:=d9 hr
   cases h2
   exact f7Z hP hcf hsl h1 hsim hf hn hds har
  |seq a b=>
   simp only[y9,Bool.and_eq_true] at hsl
   have hr:andThen (ih (.c a) st) (ih (.c b))=some (x,st'):=hr
   rcases b7E hr with⟨s1,h1,h2⟩|⟨hx,h1⟩
   ·obtain⟨ρ1,D1,t1,w1,todo1,q1,q2,q3,q4,q5,q6,q7,q8⟩:=h N (.c a) st .normal s1 h1 hsl.1 B (.code b::k) cs ρ w tmps hsim hf hn hds har
    cases q2
    exact Lands.head (.head e5v q1) q5 (h N (.c b) s1 x st' h2 hsl.2 {B with defers:=D1} k cs ρ1 w1 t1 q6 q3 q4 q7 q8)
   ·obtain⟨ρ1,D1,t1,w1,todo1,q1,q2,q3,q4,q5,q6,q7,q8⟩:=h N (.c a) st x st' h1 hsl.1 B (.code b::k) cs ρ w tmps hsim hf hn hds har
    exact⟨ρ1,D1,t1,w1,todo1,.head e5v q1,q2.pass hx (fun _ _=>rfl) (fun _ _=>rfl),q3,q4,q5,q6,q7,q8⟩
  |cond c a b=>
   simp only[y9,Bool.and_eq_true] at hsl
   have hr:elB none (fun t=>bc t (ih (.c a) st) (ih (.c b) st)) (ev (cO c) st.fr)=some (x,st'):=hr
   obtain⟨t,h1,h2⟩:=f9I hr
   have hv:=hf.opd B (.code (.cond c a b)::k) c hsl.1
   rw[h1,C2] at hv
   refine Lands.head (.one (g1e (Option.some.inj hv).symm)) ρ.le_refl ?_
   cases t with
   |true=>exact h N (.c a) st x st' h2 hsl.2.1 B k cs ρ w tmps hsim hf hn hds har
   |false=>exact h N (.c b) st x st' h2 hsl.2.2 B k cs ρ w tmps hsim hf hn hds har
  |block id b=>
   simp only[y9] at hsl
   have hr:a1F id (ih (.c b) st)=some (x,st'):=hr
   obtain⟨⟨x1,s1⟩,h1,h2⟩:=d9 hr
   obtain⟨ρ1,D1,t1,w1,todo1,q1,q2,q3,q4,q5,q6,q7,q8⟩:=h N (.c b) st x1 s1 h1 hsl B (.inBlock id::k) cs ρ w tmps hsim hf hn hds har
   cases x1 with
   |normal=>
    have h2:ih (.c b) st=some (x,st'):=h2
    rw[h1] at h2;cases h2
    cases q2
    exact⟨ρ1,D1,t1,w1,k,.head a2E (q1.trans (.one f6W)),rfl,q3,q4,q5,q6,q7,q8⟩
   |goto l=>
    have h2:ih (.c b) st=some (x,st'):=h2
    rw[h1] at h2;cases h2
    exact⟨ρ1,D1,t1,w1,todo1,.head a2E q1,q2.pass (by simp) (fun _ e=>by cases e) (fun _ _=>rfl),q3,q4,q5,q6,q7,q8⟩
   |ret=>
    have h2:ih (.c b) st=some (x,st'):=h2
    rw[h1] at h2;cases h2
    exact⟨ρ1,D1,t1,w1,todo1,.head a2E q1,q2.pass (by simp) (fun _ e=>by cases e) (fun _ e=>by cases e),q3,q4,q5,q6,q7,q8⟩
   |exit i=>
    have h2:bc (Nat.beq i id) (some (X.normal,s1)) (ih (.c b) st)=some (x,st'):=h2
    obtain⟨s,e1,e2⟩:=q2
    cases hb:Nat.beq i id with
    |true=>
     rw[hb,l9] at h2
     cases h2
     have hid:=Nat.eq_of_beq_eq_true hb
     subst hid e1
     refine⟨ρ1,D1,t1,w1,k,.head a2E (q1.trans (.one (f93 ?_))),rfl,q3,q4,q5,q6,q7,q8⟩
     rw[e2]
     simp[exitTo]
    |false=>
     rw[hb,u7,h1] at h2
     cases h2
     refine⟨ρ1,D1,t1,w1,todo1,.head a2E q1,⟨s,e1,e2.trans ?_⟩,q3,q4,q5,q6,q7,q8⟩
     have hne:¬id=i:=fun e=>by subst e;rw[Nat.beq_refl] at hb;cases hb
     simp[exitTo,hne]
  |loop b=>
   have hsl':y9 N b=true:=hsl
   have hr:andThen (ih (.c b) st) (ih (.c (.loop b)))=some (x,st'):=hr
   rcases b7E hr with⟨s1,h1,h2⟩|⟨hx,h1⟩
   ·obtain⟨ρ1,D1,t1,w1,todo1,q1,q2,q3,q4,q5,q6,q7,q8⟩:=h N (.c b) st .normal s1 h1 hsl' B (.inLoop b::k) cs ρ w tmps hsim hf hn hds har
    cases q2
    have hl:=h N (.c (.loop b)) s1 x st' h2 hsl {B with defers:=D1} k cs ρ1 w1 t1 q6 q3 q4 q7 q8
    exact Lands.head (.head b0O q1) q5 hl.again
   ·obtain⟨ρ1,D1,t1,w1,todo1,q1,q2,q3,q4,q5,q6,q7,q8⟩:=h N (.c b) st x st' h1 hsl' B (.inLoop b::k) cs ρ w tmps hsim hf hn hds har
    exact⟨ρ1,D1,t1,w1,todo1,.head b0O q1,q2.pass hx (fun _ _=>rfl) (fun _ _=>rfl),q3,q4,q5,q6,q7,q8⟩
  |rangeFunc f ps a b=>exact f5T hcf hr hsl hsim hf hn hds har
  |exit id=>
   have hr:some (X.exit id,st)=some (x,st'):=hr
   cases hr
   exact .stay (.refl _ _) ⟨k,rfl,rfl⟩ hsim hf hn hds har
  |scope b=>
   have hsl':y9 N b=true:=hsl
   have hr:ih (.sc b b) st=some (x,st'):=hr
   refine Lands.head (.one f81) ρ.le_refl ?_
   exact h N (.sc b b) st x st' hr (by simp only[a6H,hsl',Bool.and_self]) B k cs ρ w tmps hsim hf hn hds har
  |goto l=>
   have hr:some (X.goto l,st)=some (x,st'):=hr
   cases hr
   exact .stay (.refl _ _) ⟨k,rfl,rfl⟩ hsim hf hn hds har
  |ret=>
   have hr:some (X.ret,st)=some (x,st'):=hr
   cases hr
   exact .stay (.refl _ _) ⟨k,rfl⟩ hsim hf hn hds har
  |refuse s=>
   have hr:none=some (x,st'):=hr
   cases hr
theorem f9W{P:Program}{g:FuncId}{fn:Func}(h:A7 (pth g) (Q7 P)=some fn):P.funcs[g]? =some fn:=by
 unfold Q7 at h
 rw[T4] at h
 split at h
 ·simpa using h
 ·cases hg:pth g<;>rw[hg] at h<;>cases h
def a0r(tmps:Array Value):ResultVar→Sem Value
 | .tmp t=>pure (tmps.getD t undef)
 | .cell a t=>do loadVar t (←asAddr (tmps.getD a undef))
theorem b8v{P:Program}{tmps:Array Value}{r:ResultVar}{l:List ResultVar}{w:World}{u:Value}{us:List Value}(h:(a0r tmps r).run P w= .ok u w)(h':(l.mapM (a0r tmps)).run P w= .ok us w):((r::l).mapM (a0r tmps)).run P w= .ok (u::us) w:=by
 simp only[List.mapM_cons,Sem.run_bind,h,Result.andThen_ok,h',Sem.run_pure]
theorem b0G{st:St}{ρ:Ren}{w:World}{tmps:Array Value}(h:Sim P w0 ρ st.m w)(hf:FrRel ρ st.fr tmps):∀(l:List ResultVar) (xs:List AV),E3 P st l=some xs→
  ∃us,i8 ρ xs=some us∧(l.mapM (a0r tmps)).run P w= .ok us w
 | [],xs,hr=>by
  cases hr
  exact⟨[],o0 ρ,by simp⟩
 | .tmp t::l,xs,hr=>by
  obtain⟨ys,h1,h2⟩:=d9 hr
  cases h2
  obtain⟨us,h3,h4⟩:=b0G h hf l ys h1
  exact⟨_,o9.2 ⟨_,_,hf t,h3,rfl⟩,b8v rfl h4⟩
 | .cell a t::l,xs,hr=>by
  obtain⟨⟨y,m1⟩,h0,hr⟩:=d9 hr
  obtain⟨ys,h1,h2⟩:=d9 hr
  cases h2
  obtain⟨us,h3,h4⟩:=b0G h hf l ys h1
  have hcell:∃u,d6 ρ y=some u∧(a0r tmps (.cell a t)).run P w= .ok u w:=by
   unfold a0r
   split at h0
   ·rename_i n ht hs
    obtain⟨b,off,hx,h0⟩:=K4 h0
    obtain⟨z,hz,h0⟩:=d9 h0
    cases h0
    have hv:=hf a
    rw[d3V] at hx
    rw[hx] at hv
    obtain⟨r,hr1,e⟩:=E5 hv
    obtain⟨r',us,hr2,q1,q2,q3,q4⟩:=h.rdN hz
    rw[hr1] at hr2;cases hr2
    have hload:=run_loadCells_list (P:=P) w ⟨r.blk,r.sh+off,none⟩ us (fun j u hj=>by rw[Addr.add_mk];exact q4 j u hj)
    rw[q2] at hload
    exact⟨.agg us.toArray,by simp only[d6,q1,Option.bind_some,q3,if_true],by simp only[e];simp[asAddr,loadVar,X3 ht,H6 hs,hload]⟩
   ·rename_i n ht hs
    obtain⟨b,off,hx,h0⟩:=K4 h0
    obtain⟨z,hz,h0⟩:=d9 h0
    cases h0
    have hv:=hf a
    rw[d3V] at hx
    rw[hx] at hv
    obtain⟨r,hr1,e⟩:=E5 hv
    obtain⟨r',u,hr2,q1,_,q2⟩:=h.rd hz
    rw[hr1] at hr2;cases hr2
    exact⟨u,q1,by simp only[e];simp[asAddr,loadVar,X3 ht,q2]⟩
   ·cases h0
  obtain⟨u,h5,h6⟩:=hcell
  exact⟨_,o9.2 ⟨_,_,h5,h3,rfl⟩,b8v h6 h4⟩
theorem g4J{ρ:Ren}{xs:List AV}{us:List Value}(h:i8 ρ xs=some us):d6 ρ (one xs)=some (if h:us.toArray.size=1 then us.toArray[0] else .tuple us.toArray):=by
 cases xs with
 |nil=>rw[o0] at h;cases h;simp[one,d6,i8]
 |cons x xs=>
  obtain⟨v,vs,h1,h2,rfl⟩:=o9.1 h
  cases xs with
  |nil=>rw[o0] at h2;cases h2;simpa[one] using h1
  |cons y ys=>
   obtain⟨v2,vs2,h3,h4,rfl⟩:=o9.1 h2
   simp[one,d6,i8,h1,h3,h4]
theorem f6O{fn:Func}{st:St}{ρ:Ren}{w:World}{tmps:Array Value}(h:Sim P w0 ρ st.m w)(hf:FrRel ρ st.fr tmps){xs:List AV}(hr:E3 P st fn.results.toList=some xs):
  ∃u,d6 ρ (one xs)=some u∧(results fn tmps).run P w= .ok u w:=by
 obtain⟨us,h1,h2⟩:=b0G h hf fn.results.toList xs hr
 refine⟨_,g4J h1,?_⟩
 have e0:results fn tmps=(do let vs←fn.results.mapM (a0r tmps);pure (if h:vs.size=1 then vs[0] else .tuple vs)):=by
  unfold results
  congr 1
 have e:(fn.results.mapM (a0r tmps)).run P w= .ok us.toArray w:=by
  rw[Array.mapM_eq_mapM_toList]
  simp[h2]
 rw[e0,Sem.run_bind,e,Result.andThen_ok,Sem.run_pure]
theorem f8g{F:Frame}{cs:List Frame}{w:World}{b:Nat}{D:List Deferred}(hm:F.mode= .returning)(hd:F.defers={target:= .collected b,args:= #[]}::D)(hh:w.heap[b]? =some (.deferred (some []))):
  step P (lone F cs w)= .next (lone {F with defers:=D} cs (w.putObj b (.deferred none))):=
 step_lone_go (by simp[stepG,unwind,hm,hd,run_takeDeferred hh])
theorem b9L{cs:List Frame}:∀(ds:List Nat) (D:List Deferred) (ρ:Ren) (m:M) (w:World) (m2:M),DsOk ρ ds D→I7 ds m=some m2→Sim P w0 ρ m w→∀(F:Frame),F.mode= .returning→F.defers=D→
  ∃w',Steps P (lone F cs w) (lone {F with defers:= []} cs w')∧Sim P w0 ρ m2 w'
 | [],D,ρ,m,w,m2,hd,hc,hs,F,hm,hF=>by
  cases hc
  have hD:D= [] :=hd
  subst hD
  refine⟨w,?_,hs⟩
  have e:F={F with defers:= []}:=by cases F;simp only at hF;subst hF;rfl
  rw[←e]
  exact .refl _ _
 |d::ds,D,ρ,m,w,m2,⟨r,D',h1,h2,h3⟩,hc,hs,F,hm,hF=>by
  obtain⟨op,h4,hc⟩:=d9 hc
  obtain⟨hop,hc⟩:=l4 hc
  subst hop
  have hg:=M.dfr_some.1 h4
  obtain⟨r',hr',O,k1,k2,k3⟩:=hs.blk d _ hg
  rw[h1] at hr';cases hr'
  have k3:O= .deferred (some []):=k3
  subst k3
  have hs2:=hs.putObj (o':= .dfr false) (O':= .deferred none) hg h1 k1 (show ObOk ρ (.dfr true) (.deferred (some [])) from rfl) k2 (show ObOk ρ (.dfr false) (.deferred none) from rfl)
  obtain⟨w',h5,h6⟩:=b9L ds D' ρ _ _ m2 h3 hc hs2 {F with defers:=D'} hm rfl
  exact⟨w',.head (f8g hm (by rw[hF,h2]) k1) h5,h6⟩
theorem f6Y{r:O}{s:St}(h:a07 r=some s):r=some (.normal,s)∨r=some (.ret,s):=by
 obtain⟨⟨x,s1⟩,h1,h2⟩:=d9 h
 cases x with
 |normal=>cases h2;exact .inl h1
 |ret=>cases h2;exact .inr h1
 |exit id=>cases h2
 |goto l=>cases h2
structure TbOk(P:Program)(w0:World)(T:Tb):Prop where
 fs:T.fs=Q7 P
 it:∀ρ m w g args v m' vs cs,T.it g args m=some (some (v,m'))→i8 ρ args=some vs→Sim P w0 ρ m w→X9 P w0 ρ w g vs cs v m'
theorem e66:TbOk P w0 (tb0 P):=⟨rfl,fun _ _ _ _ _ _ _ _ _ h=>by cases h⟩
theorem f7t(hP:Good P){T:Tb}(hT:TbOk P w0 T){ih:Ex}(h:a2h P w0 ih){ρ:Ren}{m m':M}{w:World}{g:FuncId}{args:List AV}{v:AV}{vs:List Value}(cs:List Frame)
  (hr:G7 P T ih g args m=some (v,m')) (hv:i8 ρ args=some vs) (hsim:Sim P w0 ρ m w):X9 P w0 ρ w g vs cs v m':=by
 obtain⟨fn,h1,hr⟩:=d9 hr
 rw[hT.fs] at h1
 have hfn:=f9W h1
 cases hit:T.it g args m with
 |some r=>
  rw[hit] at hr
  have hr:r=some (v,m'):=hr
  subst hr
  exact hT.it ρ m w g args v m' vs cs hit hv hsim
 |none=>
 rw[hit] at hr
 cases hb:fn.body with
 |none=>
  rw[hb] at hr
  have hr:ext fn.name args m=some (v,m'):=hr
  obtain⟨ρ',u,w',h4,h5,h6,h7⟩:=hP.ext g fn args m m' v hfn hb hr w0 ρ vs w hv hsim
  exact⟨ρ',u,w',h5,h6,h7,.inl h4⟩
 |some c=>
  rw[hb] at hr
  have hr:bc (y9 fn.ntmps c&&Nat.ble args.length fn.ntmps) (ob (a07 (ih (.c c) ⟨v8 args (nat_lit 0) .leaf,m,[],none⟩)) fun s=>ob (I7 s.ds s.m) fun m2=>ob (E3 P ⟨s.fr,m2,[],none⟩ fn.results.toList) fun l=>some (one l,m2)) none=some (v,m'):=hr
  obtain⟨h2,hr⟩:=l4 hr
  obtain⟨s,h3,hr⟩:=d9 hr
  obtain⟨m2,hcl,hr⟩:=d9 hr
  obtain⟨xs,h4,hr⟩:=d9 hr
  cases hr
  simp only[Bool.and_eq_true] at h2
  have hlen:=I0 hv
  have hle:=Nat.le_of_ble_eq_true h2.2
  have hinit:FrRel ρ (v8 args (nat_lit 0) .leaf) (vs.toArray++Array.replicate (fn.ntmps-vs.toArray.size) undef):=by
   intro t
   rw[a0F,T4]
   by_cases ht:t<args.length
   ·rw[if_pos ⟨Nat.zero_le _,by simpa using ht⟩]
    obtain⟨u,h5,h6⟩:=S9 hv t args[t] (List.getElem?_eq_getElem ht)
    simp only[Nat.sub_zero,List.getElem?_eq_getElem ht,Option.getD_some,h6]
    have:t<vs.length:=by omega
    obtain⟨_,h7⟩:=List.getElem?_eq_some_iff.1 h5
    simp[Array.getElem?_append,this,h7]
   ·rw[if_neg (by simpa using ht)]
    have e0:(A7 (pth t) (Tr.leaf:Tr AV)).getD .undef=AV.undef:=by cases pth t<;>rfl
    rw[e0,I1]
    have:¬t<vs.length:=by omega
    simp only[Array.getD_eq_getD_getElem?,Array.getElem?_append,List.size_toArray,this,if_false,Array.getElem?_replicate]
    split<;>rfl
  have hmk:Frame.enter P g vs.toArray .normal=mk (Frame.enter P g vs.toArray .normal) (vs.toArray++Array.replicate (fn.ntmps-vs.toArray.size) undef) (a3T (.c c)++ []):=by
   simp[Frame.enter,mk,hfn,hb,a3T]
  have hsize:(vs.toArray++Array.replicate (fn.ntmps-vs.toArray.size) undef).size=fn.ntmps:=by simp;omega
  have hne:fn.name≠ "runtime.NumGoroutine" :=by
   intro e
   have:=hP.name g fn hfn
   rw[e] at this
   simp at this
  have hent:(callFunc g vs.toArray).run P w= .ok (.enter g vs.toArray) w:=by
   simp[callFunc,hfn,hne,hb]
  have go:∀(x:X),(x= .normal∨x= .ret)→ih (.c c) ⟨v8 args (nat_lit 0) .leaf,m,[],none⟩=some (x,s)→X9 P w0 ρ w g vs cs (one xs) m':=by
   intro x hx hrun
   obtain⟨ρ1,D1,t1,w1,todo1,q1,q2,q3,q4,q5,q6,q7,q8⟩:=h fn.ntmps (.c c) _ x s hrun h2.1 (Frame.enter P g vs.toArray .normal) [] cs ρ w _ hsim hinit hsize rfl rfl
   rw[←hmk] at q1
   --to the end,and through the marks
   have hend:step P (lone (mk {Frame.enter P g vs.toArray .normal with defers:=D1} t1 todo1) cs w1)= .next (lone {mk {Frame.enter P g vs.toArray .normal with defers:=D1} t1 todo1 with mode:= .returning} cs w1):=by
    rcases hx with rfl|rfl
    ·cases q2
     exact g2K rfl
    ·obtain⟨s',rfl⟩:=q2
     exact g3c rfl
   obtain⟨w2,h8,h9⟩:=b9L (cs:=cs) s.ds D1 ρ1 s.m w1 m' q7 hcl q6 {mk {Frame.enter P g vs.toArray .normal with defers:=D1} t1 todo1 with mode:= .returning} rfl rfl
   obtain⟨u,h6,h7⟩:=f6O (fn:=fn) (st:=⟨s.fr,m',[],none⟩) h9 q3 h4
   exact⟨ρ1,u,w2,h6,q5,h9,.inr ⟨hent,_,q1.trans (.head hend h8),rfl,rfl,rfl,rfl,fn,hfn,h7⟩⟩
  rcases f6Y h3 with h5|h5
  ·exact go _ (.inl rfl) h5
  ·exact go _ (.inr rfl) h5
theorem b94{ρ:Ren}:∀(ps:List Nat) (xs:List AV) (vs:List Value) (fr:Fr) (tmps:Array Value),i8 ρ xs=some vs→FrRel ρ fr tmps→(∀p∈ps,p<tmps.size)→
  FrRel ρ (a3E ps xs fr) ((ps.zip vs).foldl (fun t q=>t.setIfInBounds q.1 q.2) tmps)∧((ps.zip vs).foldl (fun t q=>t.setIfInBounds q.1 q.2) tmps).size=tmps.size
 | [],xs,vs,fr,tmps,_,hf,_=>by
  cases xs<;>exact⟨hf,rfl⟩
 |p::ps,[],vs,fr,tmps,hv,hf,_=>by
  rw[o0] at hv;cases hv
  exact⟨hf,rfl⟩
 |p::ps,x::xs,vs,fr,tmps,hv,hf,hp=>by
  obtain⟨v,us,h1,h2,rfl⟩:=o9.1 hv
  have hp0:=hp p (by simp)
  have hset:FrRel ρ (E1 x (pth p) fr) (tmps.setIfInBounds p v):=by
   intro t
   rw[a0F,a0E]
   by_cases hkt:t=p
   ·subst hkt
    rw[if_pos rfl]
    simp[hp0,h1]
   ·rw[if_neg hkt,←a0F,hf t]
    congr 1
    simp[Array.getElem?_setIfInBounds_ne (Ne.symm hkt)]
  have ih:=b94 ps xs us (E1 x (pth p) fr) (tmps.setIfInBounds p v) h2 hset (fun q hq=>by simpa using hp q (by simp[hq]))
  exact⟨ih.1,by simpa using ih.2⟩
theorem f7O{c F:Frame}{cs:List Frame}{w:World}{l:Nat}{x:X}{lp:Loop}(hm:F.mode= .run)(ha:Arr [] x F.todo)(hro:F.roundOf=some l)(hk:F.kind= .normal)(hh:w.heap[l]? =some (.loop lp)):
  step P (lone F (c::cs) w)= .next (lone (c.finish (.bool (B8 x).isNone)) cs (w.putObj l (.loop {lp with state:=if(B8 x).isNone then .ready else .done,pending:=B8 x}))):=by
 have e:F=F.atR ⟨F.tmps,F.defers⟩ F.todo:=by cases F;simp only at hm;subst hm;rfl
 rw[e]
 have hr:=run_endRound (P:=P) (B8 x) hh
 cases x with
 |normal=>
  rw[show F.todo= [] from ha]
  exact stepR_round_end hro hk hr
 |exit id=>
  obtain⟨s,h1,h2⟩:=ha
  rw[h1]
  exact stepR_round_exit hro hk h2 hr
 |goto t=>
  obtain⟨s,h1,h2⟩:=ha
  rw[h1]
  exact stepR_round_goto hro hk h2 hr
 |ret=>
  obtain⟨s,h1⟩:=ha
  rw[h1]
  exact stepR_round_ret hro hk hr
theorem f6N{x:X}{s s':St}(h:f0Z x s=some s'):x= .normal∧s'=s:=by
 cases x<;>cases h
 exact⟨rfl,rfl⟩
theorem f71{ih:Ex}(h:a2h P w0 ih){ρ:Ren}{m m':M}{w:World}{l:Nat}{r:RB}{args:List AV}{v:AV}{vs:List Value}(c:Frame)(cs:List Frame)
  (hr:a29 ih l args m=some (v,m')) (hv:i8 ρ args=some vs) (hl:ρ.loc l=some r) (hsim:Sim P w0 ρ m w):b9U P w0 ρ w r.blk vs c cs v m':=by
 obtain⟨L,h1,hr⟩:=d9 hr
 obtain⟨h2,hr⟩:=l4 hr
 obtain⟨⟨x1,s0⟩,h3,hr⟩:=d9 hr
 obtain⟨s1,h4,hr4⟩:=d9 hr
 clear hr
 obtain⟨hx1,hs1⟩:=f6N h4
 have hx1:x1= .normal:=hx1
 have hs1:s1=s0:=hs1
 subst hx1 hs1
 obtain⟨L1,h5,hr5⟩:=d9 hr4
 obtain⟨h6,hr6⟩:=l4 hr5
 obtain⟨⟨x2,s2⟩,h7,hr7⟩:=d9 hr6
 obtain⟨L2,h8,hr8⟩:=d9 hr7
 cases hr8
 obtain⟨r',lp,k1,k2,k3,k4⟩:=hsim.loopAt h1
 rw[hl] at k1;cases k1
 have hlen:=I0 hv
 have h2:=Nat.eq_of_beq_eq_true h2
 have h6:=Nat.eq_of_beq_eq_true h6
 have hsl:=k4.slots
 simp only[Bool.and_eq_true] at hsl
 --the round's frame
 obtain⟨hfr,hsz⟩:=b94 L.params args vs L.fr lp.tmps hv k4.fr k4.inb
 have hround:=run_yield (P:=P) (args:=vs.toArray) k2 (by rw[List.size_toArray,hlen,h2,←k4.params,Array.length_toList])
 have htm:((lp.params.zip vs.toArray).foldl (fun tmps (x:Tmp×Value)=>tmps.setIfInBounds x.1 x.2) lp.tmps)=(L.params.zip vs).foldl (fun t q=>t.setIfInBounds q.1 q.2) lp.tmps:=by
  rw[←k4.params,←Array.foldl_toList]
  simp
 refine ?_
 let F:Frame:=Frame.round r.blk lp.fn ((L.params.zip vs).foldl (fun t q=>t.setIfInBounds q.1 q.2) lp.tmps) lp.assign lp.body .normal
 have hF:F=mk F ((L.params.zip vs).foldl (fun t q=>t.setIfInBounds q.1 q.2) lp.tmps) (a3T (.c L.assign)++ [.beginRound,.code lp.body]):=by
  show F=_
  rw[←k4.assign]
  rfl
 obtain⟨ρ1,D1,t1,w1,todo1,q1,q2,q3,q4,q5,q6,q7,q8⟩:=h lp.tmps.size (.c L.assign) _ .normal s1 h3 hsl.1 F [.beginRound,.code lp.body] (c::cs) ρ w _ hsim hfr hsz rfl ⟨r,hl,rfl⟩
 cases q2
 rw[←hF] at q1
 obtain⟨r1,lp1,j1,j2,j3,j4⟩:=q6.loopAt h5
 have:=q5.1 _ _ hl
 rw[j1] at this;cases this
 have hbeg:=stepR_beginRound (P:=P) (b:=F) (a:=⟨t1,D1⟩) (k:= [.code lp.body]) (cs:=c::cs) (w:=w1) (l:=r.blk) rfl (run_beginRound j2 (by rw[j4.state,h6];rfl))
 have hs2:=q6.putLoop (L':={L1 with st:=1}) (lp':={lp1 with state:= .busy}) h5 j1 j2 j4 j3 ⟨rfl,j4.pend,j4.params,j4.assign,j4.body,j4.fr,j4.slots,j4.inb,j4.dfr⟩
 obtain⟨ρ2,D2,t2,w2,todo2,p1,p2,p3,p4,p5,p6,p7,p8⟩:=h lp.tmps.size (.c L.body) _ x2 s2 h7 hsl.2 {F with defers:=D1} [] (c::cs) ρ1 _ t1 hs2 q3 q4 q7 q8
 obtain⟨r2,lp2,i1,i2,i3,i4⟩:=p6.loopAt h8
 have:=p5.1 _ _ j1
 rw[i1] at this;cases this
 have hend:=f7O (P:=P) (c:=c) (cs:=cs) (F:=mk {F with defers:=D2} t2 todo2) (l:=r.blk) rfl p2 rfl rfl i2
 have hs3:=p6.putLoop (L':={L2 with st:=bc (B8 x2).isNone 0 2,pend:=B8 x2}) (lp':={lp2 with state:=if(B8 x2).isNone then .ready else .done,pending:=B8 x2}) h8 i1 i2 i4 i3
  ⟨by cases(B8 x2).isNone<;>rfl,rfl,i4.params,i4.assign,i4.body,i4.fr,i4.slots,i4.inb,i4.dfr⟩
 refine⟨ρ2,.bool (B8 x2).isNone,_,rfl,Ren.le_trans q5 p5,hs3,lp.fn,_,lp.assign,lp.body,hround,?_⟩
 have e0:Frame.round r.blk lp.fn ((lp.params.zip vs.toArray).foldl (fun tmps (x:Tmp×Value)=>tmps.setIfInBounds x.1 x.2) lp.tmps) lp.assign lp.body .normal=F:=by rw[htm]
 rw[e0]
 refine q1.trans (.head hbeg ?_)
 have e1:a3T (.c L.body)++ [] = [Item.code lp.body] :=by rw[k4.body];rfl
 rw[e1] at p1
 exact p1.trans (.one hend)
theorem b9o(hP:Good P){T:Tb}(hT:TbOk P w0 T){ih:Ex}(h:a2h P w0 ih):CfOk P w0 (V6 P T ih):={
 fn:=fun _ _ _ _ _ _ _ _ cs hr hv hs=>f7t hP hT h cs hr hv hs
 yl:=fun _ _ _ _ _ _ _ _ _ c cs hr hv hl hs=>f71 h c cs hr hv hl hs
 }
theorem a9M(hP:Good P){T:Tb}(hT:TbOk P w0 T):∀n,a2h P w0 (l8 P T n)
 |0=>by intro N K st x st' hr;cases hr
 |n+1=>f8B hP (a9M hP hT n) (b9o hP hT (a9M hP hT n))
theorem a2q(hP:Good P){T:Tb}(hT:TbOk P w0 T){n:Nat}{g:FuncId}{args:List AV}{m m':M}{v:AV}(hr:arun P T n g args m=some (v,m')){ρ:Ren}{vs:List Value}{w:World}(hv:i8 ρ args=some vs)(h:Sim P w0 ρ m w)
  {fn:Func} {c:Code} (hfn:P.funcs[g]? =some fn) (hb:fn.body=some c):
  Calls P g vs.toArray w fun e w'=>∃u ρ',e= .returned u∧d6 ρ' v=some u∧ρ.le ρ'∧Sim P w0 ρ' m' w':=by
 intro cs
 obtain⟨ρ',u,w',h1,h2,h3,h4⟩:=(b9o hP hT (a9M hP hT n)).fn ρ m w g args v m' vs cs hr hv h
 rcases h4 with h4|⟨_,fr,h5,h6,h7⟩
 ·have hne:fn.name≠ "runtime.NumGoroutine" :=by
   intro e
   have:=hP.name g fn hfn
   rw[e] at this
   simp at this
  simp[callFunc,hfn,hne,hb] at h4
 ·exact⟨.returned u,w',fr,⟨u,ρ',rfl,h1,h2,h3⟩,h5,h6,h7⟩
end
end Go.Am
