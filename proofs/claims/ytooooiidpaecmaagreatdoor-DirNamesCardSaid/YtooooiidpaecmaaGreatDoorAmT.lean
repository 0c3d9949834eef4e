import Derived.Test.YtooooiidpaecmaaGreatDoorAmR
import Derived.Lib.ConvBytes
import Derived.Laws.RangeString
/- The abstract machine: loops over maps, how far a slice goes, interfaces. -/
namespace Go.Am
open Go Go.RowKit Go.MapKept
section
variable {P:Program} {w0:World} {ρ:Ren} {m:M} {w:World}
theorem M.iter_some{b:Nat}{q:Nat×Option Nat×Nat×List Nat×Nat}:m.iter b=some q↔m.get b=some (.obj (.iter q.1 q.2.1 q.2.2.1 q.2.2.2.1 q.2.2.2.2)):=by
 obtain⟨i,b',s,l,n⟩:=q
 unfold M.iter
 cases h:m.get b with
 |none=>simp[ob]
 |some x=>
  cases x with
  |cells c=>simp[ob]
  |obj o=>cases o<;>simp[ob]
theorem f77(h:Sim P w0 ρ m w){t:TypeId}{q:Option IntKind×TypeId}{x:Operand}{a:Operand→Value}{fr:Fr}(ht:H1 P t=some q)(hx:d6 ρ (ev (cO x) fr)=some (a x)):
  Val P w0 (Instr.range t (a x)) ρ w (e6h (cO x) fr m):=by
 intro y m' hr
 obtain⟨kd,e⟩:=q
 obtain⟨kt,hu,_⟩:=a0y ht
 rcases a1h hr with⟨b,hxb,hr⟩|⟨_,hr⟩
 ·obtain⟨⟨es,st⟩,he,hr⟩:=d9 hr
  obtain⟨⟨bs,ck⟩,hst,hr⟩:=d9 hr
  have hst:st=some (bs,ck):=hst
  subst hst
  cases hr
  obtain⟨r,ents,clock,kvs,hr1,hheap,hown,hmok⟩:=h.map he
  rw[hxb] at hx
  obtain⟨r',hr',hax⟩:=a2x hx
  rw[hr1] at hr';cases hr'
  obtain⟨e1,e2⟩:=hmok.stamps bs ck rfl
  subst e2
  have hle:ρ.le (ρ.put m.next ⟨w.heap.size,0,0⟩):=Ren.put_le (h.next _ (Nat.le_refl _)).1
  have hnew:=h.new (.mapIter (some r.blk) clock #[] clock) (.obj (.iter m.next (some b) clock [] clock)) ⟨w.heap.size,0,0⟩ rfl
   ⟨_,(heap_alloc w _).1,h.base.size,⟨⟨w.heap.size,0,0⟩,Ren.put_same _ _ _,rfl⟩,r,hle.1 _ _ hr1,rfl⟩ (fun c hc=>by cases hc)
  refine⟨_,.pointer (some ⟨w.heap.size,0,none⟩),_,?_,?_,hnew.2,hnew.1⟩
  ·simp[Instr.range,hax,run_underlying hu,MapKept.run_getObj_map hheap,Result.andThen]
  ·simp only[d6,Ren.put_same,Option.map_some]
 ·split at hr
  ·rename_i hxe
   simp only[Option.some.injEq,Prod.mk.injEq] at hr
   obtain⟨rfl,rfl⟩:=hr
   rw[hxe,l7 rfl] at hx
   have hax:=(Option.some.inj hx).symm
   have hnew:=h.new (.mapIter none 0 #[] 0) (.obj (.iter m.next none 0 [] 0)) ⟨w.heap.size,0,0⟩ rfl
    ⟨_,(heap_alloc w _).1,h.base.size,⟨⟨w.heap.size,0,0⟩,Ren.put_same _ _ _,rfl⟩,_,_,_,rfl⟩ (fun c hc=>by cases hc)
   refine⟨_,.pointer (some ⟨w.heap.size,0,none⟩),_,?_,?_,hnew.2,hnew.1⟩
   ·simp[Instr.range,hax,run_underlying hu,Result.andThen]
   ·simp only[d6,Ren.put_same,Option.map_some]
  ·cases hr
theorem g0C(l:List Nat)(b:Nat):l.any (Nat.beq b)=l.toArray.contains b:=by
 rw[List.contains_toArray]
 induction l with
 |nil=>rfl
 |cons a l ih=>
  rw[List.any_cons,ih,List.contains_cons,A4]
  rfl
theorem a9P{since:Nat}{seen:List Nat}{old:Bool}:∀(es:List (AV×AV)) (ents:List MapEntry),i8 ρ (es.map (·.1))=some (ents.map (·.key))→i8 ρ (es.map (·.2))=some (ents.map (·.val))→
  ∃F,F=ents.filter (fun e=>(decide (e.born<since)==old)&& !seen.toArray.contains e.born)∧(Q8 since seen old es (ents.map (·.born))).map (·.2)=F.map (·.born)∧
   i8 ρ ((Q8 since seen old es (ents.map (·.born))).map (·.1.1))=some (F.map (·.key))∧i8 ρ ((Q8 since seen old es (ents.map (·.born))).map (·.1.2))=some (F.map (·.val))
 | [],ents,h1,_=>by
  cases ents with
  |nil=>exact⟨[],rfl,rfl,o0 ρ,o0 ρ⟩
  |cons a l=>simp[o0] at h1
 |e::es,[],h1,_=>by
  obtain⟨_,_,_,_,h⟩:=o9.1 h1
  simp at h
 |e::es,d::ents,h1,h2=>by
  obtain⟨u,us,p1,p2,p3⟩:=o9.1 h1
  obtain⟨x,xs,q1,q2,q3⟩:=o9.1 h2
  simp only[List.map_cons,List.cons.injEq] at p3 q3
  obtain⟨rfl,rfl⟩:=p3
  obtain⟨rfl,rfl⟩:=q3
  obtain⟨F,hF,f1,f2,f3⟩:=a9P (since:=since) (seen:=seen) (old:=old) es ents p2 q2
  have hc:(!seen.any (Nat.beq d.born)&&(Nat.ble (Nat.succ d.born) since==old))=((decide (d.born<since)==old)&& !seen.toArray.contains d.born):=by
   rw[g0C,Bool.and_comm]
   congr 2
   by_cases hlt:d.born<since
   ·rw[decide_eq_true hlt];exact Nat.ble_eq_true_of_le hlt
   ·rw[decide_eq_false hlt]
    cases hb:Nat.ble (Nat.succ d.born) since with
    |false=>rfl
    |true=>exact absurd (Nat.le_of_ble_eq_true hb) hlt
  unfold Q8
  simp only[List.map_cons]
  rw[hc,List.filter_cons]
  cases(decide (d.born<since)==old)&& !seen.toArray.contains d.born with
  |true=>
   refine⟨d::F,by rw[hF];rfl,?_,?_,?_⟩
   ·simp[l9,f1]
   ·exact o9.2 ⟨_,_,p1,f2,rfl⟩
   ·exact o9.2 ⟨_,_,q1,f3,rfl⟩
  |false=>exact⟨F,by rw[hF];rfl,f1,f2,f3⟩
theorem a4D{α:Type}(a:Array α)(p:α→Bool):(a.filter p).toList=a.toList.filter p:=by simp
theorem f9E(h:Sim P w0 ρ m w){ty:TypeId}{x:Operand}{a:Operand→Value}{fr:Fr}(hx:d6 ρ (ev (cO x) fr)=some (a x)):
  Val P w0 (Instr.next (a x) false ty) ρ w (f0R (cO x) fr m):=by
 intro y m' hr
 obtain⟨i,off,hxe,hr⟩:=K4 hr
 obtain⟨hoff,hr⟩:=l4 hr
 have hoff:=Nat.eq_of_beq_eq_true hoff
 subst hoff
 obtain⟨⟨self,ob',since,seen,last⟩,hi,hr⟩:=d9 hr
 obtain⟨hself,hr⟩:=l4 hr
 have hself:self=i:=Nat.eq_of_beq_eq_true hself
 subst hself
 have hget:=M.iter_some.1 hi
 obtain⟨r,hr1,O,k1,k2,k3⟩:=h.blk _ _ hget
 rw[hxe] at hx
 obtain⟨r',hr',hax⟩:=E5 hx
 rw[hr1] at hr';cases hr'
 have hov:∀m2,some (AV.tuple [.b false],m2)=some (y,m')→y= .tuple [.b false]∧m'=m2:=by intro m2 e;cases e;exact⟨rfl,rfl⟩
 have hcf:d6 ρ (.tuple [.b false])=some (.tuple #[.bool false]):=by simp[d6,i8]
 cases ob' with
 |none=>
  obtain⟨⟨q,q1,q2⟩,s,l,n,rfl⟩:=k3
  have q1:ρ.loc self=some q:=q1
  rw[hr1] at q1;cases q1
  rw[q2] at hax
  have hr:some (AV.tuple [.b false],m)=some (y,m'):=hr
  obtain⟨rfl,rfl⟩:=hov _ hr
  exact⟨ρ,.tuple #[.bool false],w,by simp[Instr.next,hax,getObj,Sem.run,k1,Result.andThen],hcf,ρ.le_refl,h⟩
 |some b=>
  obtain⟨⟨q,q1,q2⟩,rb,hrb,rfl⟩:=k3
  have q1:ρ.loc self=some q:=q1
  rw[hr1] at q1;cases q1
  rw[q2] at hax
  have hr:(ob (m.mapF b) fun s=>ob s.2 fun t=>bc (a7p seen last t.1) none (match Q8 since seen true s.1 t.1,Q8 since seen false s.1 t.1 with
   | [],[] =>some (.tuple [.b false],m)
   | [e],[] =>some (.tuple [.b true,e.1.1,e.1.2],m.put self (.obj (.iter self (some b) since (seen++ [e.2]) t.2)))
   |_,_=>none))=some (y,m'):=hr
  obtain⟨⟨es,st⟩,hb,hr⟩:=d9 hr
  obtain⟨⟨bs,ck⟩,hst,hr⟩:=d9 hr
  have hst:st=some (bs,ck):=hst
  subst hst
  obtain⟨hstale,hr⟩:=b0B hr
  obtain⟨rm,ents,clock,kvs,hrm,hheap,hown,hmok⟩:=h.map hb
  rw[hrb] at hrm;cases hrm
  obtain⟨e1,e2⟩:=hmok.stamps bs ck rfl
  subst e1 e2
  obtain⟨F1,hF1,f11,f12,f13⟩:=a9P (since:=since) (seen:=seen) (old:=true) es ents.toList (hmok.keysE rfl) (hmok.valsE rfl)
  obtain⟨F2,hF2,f21,f22,f23⟩:=a9P (since:=since) (seen:=seen) (old:=false) es ents.toList (hmok.keysE rfl) (hmok.valsE rfl)
  have hst2:(!seen.toArray.isEmpty&& !ents.isEmpty&&ents.all (fun e=>decide (e.born≥last)))=false:=by
   have:a7p seen last (ents.toList.map (·.born))=(!seen.toArray.isEmpty&& !ents.isEmpty&&ents.all (fun e=>decide (e.born≥last))):=by
    unfold a7p
    rw[Bool.and_assoc]
    congr 1
    ·cases seen<;>rfl
    ·congr 1
     ·cases ents using Array.rec with|_ l=>cases l<;>rfl
     ·rw[List.all_map,←Array.all_toList]
      congr 1
      funext e
      show Nat.ble last e.born=decide (e.born≥last)
      by_cases hlt:last≤e.born
      ·rw[decide_eq_true hlt];exact Nat.ble_eq_true_of_le hlt
      ·rw[decide_eq_false hlt]
       cases hb:Nat.ble last e.born with
       |false=>rfl
       |true=>exact absurd (Nat.le_of_ble_eq_true hb) hlt
   rw[←this];exact hstale
  have hold:((ents.filter fun e=> !seen.toArray.contains e.born).filter fun e=>decide (e.born<since))=F1.toArray:=by
   apply Array.ext'
   rw[a4D,a4D,List.filter_filter,hF1]
   simp
  have hnewE:((ents.filter fun e=> !seen.toArray.contains e.born).filter fun e=>decide (e.born≥since))=F2.toArray:=by
   apply Array.ext'
   rw[a4D,a4D,List.filter_filter,hF2]
   congr 1
   funext e
   by_cases hlt:e.born<since
   ·have:¬(e.born≥since):=by omega
    simp[hlt,this]
   ·have:e.born≥since:=by omega
    simp[hlt,this]
  obtain⟨qm,hrun⟩:∃qm,(Instr.next (a x) false ty).run P w=(do
    match(((if F1.toArray.isEmpty then #[none] else #[])++(F1.toArray++F2.toArray).map some):Array (Option MapEntry))[←choose (.mapNext ((if F1.toArray.isEmpty then #[none] else #[])++(F1.toArray++F2.toArray).map some:Array (Option MapEntry)).size)]? with
    |some (some e)=>
     setObj r.blk (.mapIter (some rb.blk) since (seen.toArray.push e.born) clock)
     pure (.tuple #[.bool true,e.key,e.val])
    |some none=>pure (.tuple #[.bool false])
    |none=>stuck qm:Sem Value).run P w:=by
   refine⟨?qm,?_⟩
   rotate_left
   have g1:(getObj r.blk).run P w= .ok (.mapIter (some rb.blk) since seen.toArray last) w:=by simp[getObj,Sem.run,k1]
   simp only[Instr.next,hax,Sem.run_bind,g1,Result.andThen_ok,MapKept.run_getObj_map hheap,hst2,hold,hnewE,Bool.false_eq_true,if_false]
   rfl
  revert hr
  split
  ·rename_i hl1 hl2
   intro hr
   obtain⟨rfl,rfl⟩:=hov _ hr
   rw[hl1] at f11
   rw[hl2] at f21
   have n1:F1= [] :=by cases F1 with|nil=>rfl|cons a l=>simp at f11
   have n2:F2= [] :=by cases F2 with|nil=>rfl|cons a l=>simp at f21
   refine⟨ρ,.tuple #[.bool false],w,?_,hcf,ρ.le_refl,h⟩
   rw[hrun,n1,n2]
   simp[choose,Sem.run,Question.forced,Result.andThen]
  ·rename_i e hl1 hl2
   intro hr
   simp only[Option.some.injEq,Prod.mk.injEq] at hr
   obtain⟨rfl,rfl⟩:=hr
   rw[hl1] at f11 f12 f13
   rw[hl2] at f21
   have n2:F2= [] :=by cases F2 with|nil=>rfl|cons a l=>simp at f21
   obtain⟨d,n1⟩:∃d,F1= [d] :=by
    cases F1 with
    |nil=>simp at f11
    |cons d l=>cases l with
     |nil=>exact⟨d,rfl⟩
     |cons _ _=>simp at f11
   rw[n1] at f11 f12 f13
   simp only[List.map_cons,List.map_nil,List.cons.injEq,and_true] at f11
   obtain⟨u1,_,g1,_,g2⟩:=o9.1 f12
   obtain⟨u2,_,g3,_,g4⟩:=o9.1 f13
   simp only[List.map_cons,List.map_nil,List.cons.injEq] at g2 g4
   obtain⟨rfl,_⟩:=g2
   obtain⟨rfl,_⟩:=g4
   have hput:=h.putObj (o':= .iter self (some b) since (seen++ [e.2]) clock) (O':= .mapIter (some rb.blk) since (seen.toArray.push d.born) clock) hget hr1 k1
    (show ObOk ρ (.iter self (some b) since seen last) _ from⟨⟨r,hr1,q2⟩,rb,hrb,rfl⟩) k2
    (show ObOk ρ (.iter self (some b) since (seen++ [e.2]) clock) _ from⟨⟨r,hr1,q2⟩,rb,hrb,by rw[f11];simp⟩)
   refine⟨ρ,.tuple #[.bool true,d.key,d.val],_,?_,?_,ρ.le_refl,hput⟩
   ·rw[hrun,n1,n2]
    simp[choose,setObj,Sem.run,Question.forced,Result.andThen,k1]
   ·simp[d6,i8,g1,g3]
  ·intro hr;cases hr
theorem g0J(h:Sim P w0 ρ m w){t ty e:TypeId}{x:Operand}{a:Operand→Value}{fr:Fr}(ht:F6 P t=some e)(hx:d6 ρ (ev (cO x) fr)=some (a x)):
  Val P w0 (Builtin.cap_ #[t] ty #[a x]) ρ w (a3W (cO x) fr m):=by
 intro y m' hr
 have hu:P.underlying t=some (.slice e):=by
  unfold F6 at ht
  split at ht
  ·rename_i e' h1;cases ht;exact h1
  ·cases ht
 unfold a3W at hr
 cases hxe:ev (cO x) fr with
 |slice b off len cap lim=>
  rw[hxe] at hr hx
  have hr:bc lim (some (AV.n cap,m)) (ob (m.cel b) fun c=>bc (c.mv.isNone&&c.exact) (some (.n cap,m)) none)=some (y,m'):=hr
  simp only[d6,Option.map_eq_some_iff] at hx
  obtain⟨r,hr1,hax⟩:=hx
  cases lim with
  |true=>
   cases hr
   exact⟨ρ,goInt cap,w,by simp[Builtin.cap_,←hax,run_underlying hu],F3 cap,ρ.le_refl,h⟩
  |false=>
   rw[u7] at hr
   obtain⟨c,hc,hr⟩:=d9 hr
   obtain⟨hcc,hr⟩:=l4 hr
   cases hr
   simp only[Bool.and_eq_true,Option.isNone_iff_eq_none] at hcc
   obtain⟨r',arr,fz,hr',k⟩:=h.cel hc
   rw[hr1] at hr';cases hr'
   have hext:=(k.exact hcc.1 hcc.2).1
   exact⟨ρ,goInt cap,w,by simp[Builtin.cap_,←hax,run_underlying hu,hext],F3 cap,ρ.le_refl,h⟩
 |p v=>
  rw[hxe] at hr hx
  have hr:(match AV.p v with| .p (.slice none _ c)=>some (AV.n c,m)|_=>none)=some (y,m'):=hr
  split at hr
  ·rename_i l c he
   cases he
   cases hr
   rw[l7 rfl] at hx
   have hax:=(Option.some.inj hx).symm
   exact⟨ρ,goInt c,w,by simp[Builtin.cap_,hax,run_underlying hu],F3 c,ρ.le_refl,h⟩
  ·cases hr
 |_=>rw[hxe] at hr;cases hr
theorem f9V(h:Sim P w0 ρ m w){t:TypeId}{d:TypeDesc}{x:Operand}{a:Operand→Value}{fr:Fr}(ht:P.underlying t=some d)(hd:∀l,d≠ .interface l)(hx:d6 ρ (ev (cO x) fr)=some (a x)):
  Val P w0 (Instr.makeInterface t (a x)) ρ w (a7G t (cO x) fr m):=by
 intro y m' hr
 cases hr
 refine⟨ρ,.iface t (a x),w,?_,by simp[d6,hx],ρ.le_refl,h⟩
 cases d<;>first
  |exact absurd rfl (hd _)
  |simp[Instr.makeInterface,run_underlying ht]
theorem b8u{k:TypeId→AV→R}{x:AV}{r:AV×M}(h:elIf none k x=some r):∃t v,x= .iface t v∧k t v=some r:=by
 cases x<;>simp only[elIf,reduceCtorEq] at h
 exact⟨_,_,rfl,h⟩
theorem g0G(h:Sim P w0 ρ m w){t s:TypeId}{d:TypeDesc}{ok:Bool}{x:Operand}{a:Operand→Value}{fr:Fr}(ht:P.underlying t=some d)(hd:∀l,d≠ .interface l)(hx:d6 ρ (ev (cO x) fr)=some (a x)):
  Val P w0 (Instr.typeAssert (a x) s t ok) ρ w (a7K t ok (cO x) fr m):=by
 intro y m' hr
 obtain⟨u,v,hxe,hr1⟩:=b8u hr
 obtain⟨hut,hr2⟩:=l4 hr1
 clear hr hr1
 have hut:=Nat.eq_of_beq_eq_true hut
 subst hut
 simp only[Option.some.injEq,Prod.mk.injEq] at hr2
 obtain⟨rfl,rfl⟩:=hr2
 rw[hxe] at hx
 simp only[d6,Option.map_eq_some_iff] at hx
 obtain⟨z,hz,hax⟩:=hx
 refine⟨ρ,if ok then .tuple #[z,.bool true] else z,w,?_,?_,ρ.le_refl,h⟩
 ·cases d<;>first
   |exact absurd rfl (hd _)
   |simp[Instr.typeAssert,run_underlying ht,←hax]
 ·cases ok with
  |true=>simp[l9,d6,i8,hz]
  |false=>simpa[u7] using hz
theorem f8E(h:Sim P w0 ρ m w){t:TypeId}{b:Nat}{q:List (AV×AV)×St2}{v:Value}(hq:m.mapF b=some q)(hv:d6 ρ (.iface t (.map b))=some v):
  ∃ρ' u w',(Extern.MapsClone.clone #[v]).run P w= .ok u w'∧d6 ρ' (.iface t (.map m.next))=some u∧ρ.le ρ'∧Sim P w0 ρ' (m.new (.obj (.map q.1 q.2))) w':=by
 obtain⟨r,ents,clock,kvs,hr1,hheap,hown,hmok⟩:=h.map hq
 simp only[d6,hr1,Option.map_some,Option.some.injEq] at hv
 subst hv
 have hle:ρ.le (ρ.put m.next ⟨w.heap.size,0,0⟩):=Ren.put_le (h.next _ (Nat.le_refl _)).1
 have hnew:=h.new (.map ents clock) (.obj (.map q.1 q.2)) ⟨w.heap.size,0,0⟩ rfl ⟨_,(heap_alloc w _).1,h.base.size,ents,clock,kvs,rfl,hmok.mono hle⟩ (fun c hc=>by cases hc)
 refine⟨_,.iface t (.map (some w.heap.size)),_,?_,?_,hnew.2,hnew.1⟩
 ·obtain⟨qm,e⟩:∃qm,Extern.MapsClone.clone #[.iface t (.map (some r.blk))] =(do
    let .map entries clock←getObj r.blk|stuck qm
    pure (.iface t (.map (some (←newObj (.map entries clock)))))):=⟨_,rfl⟩
  rw[e]
  simp[MapKept.run_getObj_map hheap,Result.andThen]
 ·simp only[d6,Ren.put_same,Option.map_some]
theorem Sim.mark(h:Sim P w0 ρ m w){b:Nat}{c:Cel}{r:RB}{arr:Array Value}{fz:Nat×Nat}{size:Nat}(hb:m.cel b=some c)(hr:ρ.loc b=some r)(k:CelOk P w0 ρ m w r c arr fz)(hmv:c.mv=none)(hro:c.ro=false)(hs:tsize P c.elem=some size):
  Sim P w0 ρ (m.put b (.cells ⟨c.elem,c.n,c.cs,c.zero,c.mv,c.dirty,false,c.ro⟩)) (w.freeze ⟨r.blk,arr.size,none⟩ 1):=by
 have hown:=k.own hmv hro
 refine h.refreeze hb hr k hmv hro arr.size 1 (by decide) rfl rfl rfl rfl (fun _=>rfl) (fun e=>by cases e) (fun _=> ?_) (fun _ fz' hfz=> ?_)
 ·cases hx:c.exact with
  |false=>exact k.spare hmv hx hro
  |true=>
   obtain⟨e1,e2⟩:=k.exact hmv hx
   have:=k.fit hmv
   exact⟨size,hs,by rw[e1,Nat.zero_mul];omega⟩
 ·unfold World.freeze at hfz
  rw[if_neg (by decide)] at hfz
  simp only[Array.getElem?_modify,k.heap,if_true,Option.map_some,Option.some.injEq,Obj.cells.injEq] at hfz
  rw[←hfz.2.2]
  right
  obtain⟨lo,hi⟩:=fz
  rcases hown.2 with e|e
  ·cases e;simp
  ·simp only at e
   split
   ·exact Nat.le_refl _
   ·exact Nat.le_min.2 ⟨e,Nat.le_refl _⟩
theorem f9o(h:Sim P w0 ρ m w){d e:TypeId}{x:Operand}{a:Operand→Value}{fr:Fr}(h2:P.underlying d=some (.slice e))(h3:P.underlying e=some (.int .u8))(hx:d6 ρ (ev (cO x) fr)=some (a x)):
  Val P w0 (convert d d (a x)) ρ w (f0g (tsize P) (cO x) fr m):=by
 intro y m' hr
 obtain⟨b,off,len,cap,lim,hxe,hr⟩:=b8q hr
 obtain⟨c,hc,hr⟩:=d9 hr
 obtain⟨hcc,hr⟩:=l4 hr
 cases hr
 simp only[Bool.and_eq_true,Option.isNone_iff_eq_none,Bool.not_eq_true'] at hcc
 obtain⟨hcc,hsz⟩:=hcc
 obtain⟨size,hsz⟩:=Option.isSome_iff_exists.1 hsz
 obtain⟨r,arr,fz,hr1,k⟩:=h.cel hc
 have hx0:=hx
 rw[hxe] at hx
 obtain⟨r',hr',hax⟩:=G2 hx
 rw[hr1] at hr';cases hr'
 have hsh:w.shape? r.blk=some (c.elem,arr.size):=by simp[World.shape?,k.heap]
 refine⟨ρ,a x,_,?_,hx0,ρ.le_refl,h.mark hc hr1 k hcc.1 hcc.2 hsz⟩
 simp[convert,hax,run_underlying h2,run_underlying h3,markStringish,hsh,Result.andThen]
theorem f6k{α:Type}(a:Array α)(x:α)(f:α→α):(a.push x).modify a.size f=a.push (f x):=by
 apply Array.ext_getElem?
 intro i
 simp only[Array.getElem?_modify,Array.getElem?_push]
 by_cases hi:a.size=i
 ·subst hi;simp
 ·rw[if_neg hi,if_neg (Ne.symm hi),if_neg (Ne.symm hi)]
theorem f5E(w:World)(e:TypeId)(s:ByteArray):Lib.bytesWorld w e s=w.drew.alloc (.cells (Lib.bytesCells w e s) e ((Lib.bytesCells w e s).size,(Lib.bytesCells w e s).size+1)):=by
 have hh:(w.drew.alloc (.cells (Lib.bytesCells w e s) e)).heap=w.heap.push (.cells (Lib.bytesCells w e s) e):=rfl
 unfold Lib.bytesWorld World.freeze
 rw[if_neg (by decide)]
 simp only[hh,f6k]
 simp only[World.alloc]
 rfl
theorem g1G(h:Sim P w0 ρ m w){s d e:TypeId}{u:TypeDesc}{x:Operand}{a:Operand→Value}{fr:Fr}(h1:P.underlying s=some u)(h2:P.underlying d=some (.slice e))(h3:P.underlying e=some (.int .u8))(hs:tsize P e=some 1)(hx:d6 ρ (ev (cO x) fr)=some (a x)):
  Val P w0 (convert s d (a x)) ρ w (f2u e (cO x) fr m):=by
 intro y m' hr
 obtain⟨t,ht,hr⟩:=d9 hr
 rw[z7] at hr
 cases hr
 have hax:=J5 ht hx
 have hge:=a8X (w:=w) t.size 0 e
 generalize hc:(⟨e,t.data.size,v8 (t.data.toList.map fun c=>AV.y c.toNat) 0 .leaf,[],none,false,false,false⟩:Cel)=c
 have hcn:c.n=t.data.size:=by rw[←hc]
 have hsz:(Lib.bytesCells w e t).size=t.data.size+(grownCap w t.size 0 e-t.size):=by simp[Lib.bytesCells]
 have hts:t.size=t.data.size:=rfl
 have hle:ρ.le (ρ.put m.next ⟨w.heap.size,0,grownCap w t.size 0 e-t.size⟩):=Ren.put_le (h.next _ (Nat.le_refl _)).1
 have he:c.elem=e:=by rw[←hc]
 have hx1:c.exact=false:=by rw[←hc]
 have hm1:c.mv=none:=by rw[←hc]
 have hcs:c.cs=v8 (t.data.toList.map fun c=>AV.y c.toNat) 0 .leaf:=by rw[←hc]
 have hB:a3A P w0 (ρ.put m.next ⟨w.heap.size,0,grownCap w t.size 0 e-t.size⟩) (m.new (.cells c)) (w.drew.alloc (.cells (Lib.bytesCells w e t) e ((Lib.bytesCells w e t).size,(Lib.bytesCells w e t).size+1))) ⟨w.heap.size,0,grownCap w t.size 0 e-t.size⟩ (.cells c):=by
  refine⟨Lib.bytesCells w e t,((Lib.bytesCells w e t).size,(Lib.bytesCells w e t).size+1),?_,?_,?_,?_,?_,fun _ e1=>by(rw[hx1] at e1;cases e1),?_⟩
  ·rw[he];exact(heap_alloc w.drew _).1
  ·intro _ _;exact⟨h.base.size,.inr (Nat.le_refl _)⟩
  ·intro _
   show 0+c.n≤_
   omega
  ·intro _ e1;rw[hx1] at e1;cases e1
  ·intro _ _ _
   refine⟨1,by rw[he];exact hs,?_⟩
   show 0+c.n+(grownCap w t.size 0 e-t.size)*1≤_
   omega
  ·intro _ i hi
   rw[hcn] at hi
   refine⟨.int .u8 (t.data[i].toNat:Int),?_,rfl,?_⟩
   ·rw[b2j c _ hcs i,List.getElem?_eq_getElem (by simpa using hi)]
    simp only[List.getElem_map,Array.getElem_toList,Option.getD_some]
    exact U6 _
   ·rw[Nat.zero_add]
    have hi2:i<t.size:=hi
    simp[Lib.bytesCells,Array.getElem?_append,hi2]
 have hnew:=h.drew.new _ (.cells c) ⟨w.heap.size,0,grownCap w t.size 0 e-t.size⟩ rfl hB (fun c' e1=>by cases e1;exact hm1)
 refine⟨_,.slice (some ⟨w.heap.size,0,none⟩) t.size (grownCap w t.size 0 e),_,?_,?_,hnew.2,hnew.1⟩
 ·rw[hax,Lib.run_convert_string_bytes w s d e t h1 h2 h3,f5E]
 ·rw[O5 (Ren.put_same _ _ _)]
  simp only[Bool.false_eq_true,if_false,Nat.add_zero,Option.some.injEq,Value.slice.injEq,true_and]
  refine⟨hts.symm,?_⟩
  omega
theorem g1O(h:Sim P w0 ρ m w){t e n size:Nat}{x:RO}{lo hi mx:Option RO}{vlo vhi vmx:Option Value}{fr:Fr}{v:Value}(hu:P.underlying t=some (.array n e))(hs:tsize P e=some size)(hmx:(!mx.isSome||hi.isSome)=true)(hv:d6 ρ (ev x fr)=some v)
  (ea:∀y,lo=some y→∃v,vlo=some v∧d6 ρ (ev y fr)=some v) (na:lo=none→vlo=none) (eb:∀y,hi=some y→∃v,vhi=some v∧d6 ρ (ev y fr)=some v) (nb:hi=none→vhi=none)
  (ec:∀y,mx=some y→∃v,vmx=some v∧d6 ρ (ev y fr)=some v) (nc:mx=none→vmx=none):
  Val P w0 (Instr.sliceAt t v vlo vhi vmx) ρ w (a2e n size x lo hi mx fr m):=by
 have hmx':mx.isSome=true→hi.isSome=true:=by cases mx<;>cases hi<;>simp_all
 intro y m' hr
 obtain⟨b,off,hxe,hr⟩:=K4 hr
 obtain⟨c,hc,hr⟩:=d9 hr
 obtain⟨hh,hh1,hr⟩:=d9 hr
 obtain⟨l,hl,hr⟩:=d9 hr
 obtain⟨hcc,hr⟩:=l4 hr
 simp only[z7] at hr
 cases hr
 simp only[Bool.and_eq_true] at hcc
 have h1:=Nat.le_of_ble_eq_true hcc.1
 have h2:=Nat.le_of_ble_eq_true hcc.2
 rw[hxe] at hv
 obtain⟨r,hr1,rfl⟩:=E5 hv
 obtain⟨hb,hlh,hcn⟩:=b8Y (P:=P) (w:=w) (sl:=false) hc hh1 hl ea na eb nb ec nc (Nat.le_refl n) hmx' h2
 have hm:(if mx.isSome=true then c else n)=c:=by
  cases hs:mx.isSome with
  |true=>simp
  |false=>simpa using(hcn hs).symm
 rw[hm] at hb
 have hne:¬c=l:=by omega
 refine⟨ρ,_,w,?_,O5 hr1,ρ.le_refl,h⟩
 simp[Instr.sliceAt,run_underlying hu,Instr.sureAddr,hb,H6 hs,hne,Addr.add_mk,Nat.add_assoc]
theorem f63{t:TypeId}(h:a0e P t=true):∃e i,P.underlying t=some (.pointer e)∧P.info? e=some i∧i.size≠0:=by
 unfold a0e at h
 split at h
 ·rename_i e hu
  split at h
  ·rename_i n hs
   obtain⟨i,hi,rfl⟩:=G5 hs
   exact⟨e,i,hu,hi,fun e0=>by rw[e0] at h;cases h⟩
  ·cases h
 ·cases h
theorem e9y(h:Sim P w0 ρ m w){neg:Bool}{t:TypeId}{x y:Operand}{a:Operand→Value}{fr:Fr}(ht:a0e P t=true)(hx:d6 ρ (ev (cO x) fr)=some (a x))(hy:d6 ρ (ev (cO y) fr)=some (a y)):
  Val P w0 (do eqGuard (if neg then .neq else .eql) t x y (a x) (a y);binOp (if neg then .neq else .eql) t (a x) (a y)) ρ w (M4 neg (d8 P (if neg then .neq else .eql) t) (cO x) (cO y) fr m):=by
 have slow:Val P w0 (do eqGuard (if neg then .neq else .eql) t x y (a x) (a y);binOp (if neg then .neq else .eql) t (a x) (a y)) ρ w (rto m (d8 P (if neg then .neq else .eql) t (ev (cO x) fr) (ev (cO y) fr))):=by
  refine Val.pureO h fun z hz=> ?_
  obtain⟨⟨u,h1,h2⟩,h3⟩:=c7b (w:=w) hz hx hy
  exact⟨u,by simp[h3 x y,h1],h2⟩
 by_cases hp:∃b i c j,ev (cO x) fr= .ptr b i∧ev (cO y) fr= .ptr c j∧b≠c
 ·obtain⟨b,i,c,j,h1,h2,hbc⟩:=hp
  intro z m' hr
  have hb:Nat.beq b c=false:=by
   cases hb:Nat.beq b c with
   |false=>rfl
   |true=>exact absurd (Nat.eq_of_beq_eq_true hb) hbc
  have hr:(ob (m.cel b) fun p=>ob (m.cel c) fun q=>bc (p.mv.isNone&&(p.exact&&(!p.ro&&(q.mv.isNone&&(q.exact&& !q.ro))))) (some (AV.b neg,m)) none)=some (z,m'):=by
   have:M4 neg (d8 P (if neg then .neq else .eql) t) (cO x) (cO y) fr m=(ob (m.cel b) fun p=>ob (m.cel c) fun q=>bc (p.mv.isNone&&(p.exact&&(!p.ro&&(q.mv.isNone&&(q.exact&& !q.ro))))) (some (AV.b neg,m)) none):=by
    unfold M4
    rw[h1,h2]
    show bc (Nat.beq b c) _ _=_
    rw[hb,u7]
   rw[←this];exact hr
  obtain⟨p,hp,hr⟩:=d9 hr
  obtain⟨q,hq,hr⟩:=d9 hr
  obtain⟨hcc,hr⟩:=l4 hr
  cases hr
  simp only[Bool.and_eq_true,Option.isNone_iff_eq_none,Bool.not_eq_true'] at hcc
  obtain⟨p1,p2,p3,q1,q2,q3⟩:=hcc
  obtain⟨r,arr,fz,hr1,k⟩:=h.cel hp
  obtain⟨r',arr',fz',hr1',k'⟩:=h.cel hq
  have f1:=k.whole p1 p2 p3
  have f2:=k'.whole q1 q2 q3
  subst f1 f2
  rw[h1] at hx
  rw[h2] at hy
  obtain⟨s,hs,hax⟩:=E5 hx
  obtain⟨s',hs',hay⟩:=E5 hy
  rw[hr1] at hs;cases hs
  rw[hr1'] at hs';cases hs'
  have hne:r.blk≠r'.blk:=by
   intro e
   have hre:=h.own b p c q r r' hp hq q1 hr1 hr1' e (k.own p1 p3).1
   cases hre with
   |refl=>exact hbc rfl
   |step hc hm _=>rw[hp] at hc;cases hc;rw[p1] at hm;cases hm
  obtain⟨e,inf,hu,hi,hsz⟩:=f63 ht
  have hadr:(⟨r.blk,r.sh+i,none⟩:Addr)≠⟨r'.blk,r'.sh+j,none⟩:=fun e=>hne (congrArg Addr.block e)
  have hq9:∀d:Nat,(Op.equalIn (d+1) t (.pointer (some ⟨r.blk,r.sh+i,none⟩)) (.pointer (some ⟨r'.blk,r'.sh+j,none⟩))).run P w= .ok false w:=fun d=>by
   simp[Op.equalIn,run_underlying hu,sizeOf,typeInfo,hi,hsz,run_sameAddr_other w hadr k.heap k'.heap]
  have he:(Op.equal t (a x) (a y)).run P w= .ok false w:=by rw[hax,hay];exact hq9 9999
  cases neg with
  |false=>
   refine⟨ρ,.bool false,w,?_,C2 _,ρ.le_refl,h⟩
   simp only[hax,hay] at he⊢
   simp[eqGuard,binOp,he]
  |true=>
   refine⟨ρ,.bool true,w,?_,C2 _,ρ.le_refl,h⟩
   simp only[hax,hay] at he⊢
   simp[eqGuard,binOp,he]
 ·have e:M4 neg (d8 P (if neg then .neq else .eql) t) (cO x) (cO y) fr m=rto m (d8 P (if neg then .neq else .eql) t (ev (cO x) fr) (ev (cO y) fr)):=by
   unfold M4
   cases hx1:ev (cO x) fr<;>simp only[elPtr]
   cases hy1:ev (cO y) fr<;>simp only[]
   rename_i b i c j
   by_cases hbc:b=c
   ·subst hbc
    rw[Nat.beq_refl,l9]
   ·exact absurd ⟨b,i,c,j,hx1,hy1,hbc⟩ hp
  rw[e]
  exact slow
theorem f6r{t:TypeId}(h:a0Y P t=true):P.underlying t=some .string:=by
 unfold a0Y at h
 split at h
 ·assumption
 ·cases h
theorem M.sit_some{b:Nat}{q:Nat×ByteArray×Nat}:m.sit b=some q↔m.get b=some (.obj (.sit q.1 q.2.1 q.2.2)):=by
 obtain⟨i,s,p⟩:=q
 unfold M.sit
 cases h:m.get b with
 |none=>simp[ob]
 |some x=>
  cases x with
  |cells c=>simp[ob]
  |obj o=>cases o<;>simp[ob]
theorem f6v(h:Sim P w0 ρ m w){t:TypeId}{x:Operand}{a:Operand→Value}{fr:Fr}(ht:a0Y P t=true)(hx:d6 ρ (ev (cO x) fr)=some (a x)):
  Val P w0 (Instr.range t (a x)) ρ w (a5c (cO x) fr m):=by
 intro y m' hr
 obtain⟨s,hs,hr⟩:=d9 hr
 cases hr
 have hax:=J5 hs hx
 have hnew:=h.new (.stringIter s 0) (.obj (.sit m.next s 0)) ⟨w.heap.size,0,0⟩ rfl ⟨_,(heap_alloc w _).1,h.base.size,⟨⟨w.heap.size,0,0⟩,Ren.put_same _ _ _,rfl⟩,rfl⟩ (fun c hc=>by cases hc)
 refine⟨_,.pointer (some ⟨w.heap.size,0,none⟩),_,?_,?_,hnew.2,hnew.1⟩
 ·simp[Instr.range,hax,run_underlying (f6r ht),Result.andThen]
 ·simp only[d6,Ren.put_same,Option.map_some]
theorem f7x(h:Sim P w0 ρ m w){ty:TypeId}{x:Operand}{a:Operand→Value}{fr:Fr}(hx:d6 ρ (ev (cO x) fr)=some (a x)):
  Val P w0 (Instr.next (a x) true ty) ρ w (a20 (cO x) fr m):=by
 intro y m' hr
 obtain⟨i,off,hxe,hr⟩:=K4 hr
 obtain⟨hoff,hr⟩:=l4 hr
 have hoff:=Nat.eq_of_beq_eq_true hoff
 subst hoff
 obtain⟨⟨self,s,pos⟩,hi,hr⟩:=d9 hr
 obtain⟨hself,hr⟩:=l4 hr
 have hself:self=i:=Nat.eq_of_beq_eq_true hself
 subst hself
 have hget:=M.sit_some.1 hi
 obtain⟨r,hr1,O,k1,k2,k3⟩:=h.blk _ _ hget
 rw[hxe] at hx
 obtain⟨r',hr',hax⟩:=E5 hx
 rw[hr1] at hr';cases hr'
 obtain⟨⟨q,q1,q2⟩,hO⟩:=k3
 have q1:ρ.loc self=some q:=q1
 rw[hr1] at q1;cases q1
 have hO:O= .stringIter s pos:=hO
 subst hO
 rw[q2] at hax
 have g1:(getObj r.blk).run P w= .ok (.stringIter s pos) w:=by simp[getObj,Sem.run,k1]
 have hr:(match s.data.toList[pos]? with
  |none=>some (AV.tuple [.b false],m)
  |some c=>bc (Nat.ble c.toNat 127) (some (.tuple [.b true,.n pos,.p (.int .i32 (Int.ofNat c.toNat))],m.put self (.obj (.sit self s (Nat.succ pos))))) none)=some (y,m'):=hr
 split at hr
 ·rename_i hn
  cases hr
  have hlt:¬pos<s.size:=by
   have:=List.getElem?_eq_none_iff.1 hn
   simp only[Array.length_toList] at this
   exact Nat.not_lt.2 this
  refine⟨ρ,.tuple #[.bool false],w,?_,by simp[d6,i8],ρ.le_refl,h⟩
  simp only[Instr.next,hax,Sem.run_bind,g1,Result.andThen_ok,hlt,if_false,Sem.run_pure]
 ·rename_i c hc
  obtain⟨hle,hr⟩:=l4 hr
  cases hr
  have hle:=Nat.le_of_ble_eq_true hle
  obtain⟨hlt,hcc⟩:=List.getElem?_eq_some_iff.1 hc
  simp only[Array.length_toList] at hlt
  have hsz:pos<s.size:=hlt
  have hsp:s[pos]'hsz=c:=by
   have h1:s.data[pos]? =some c:=by simpa using hc
   have h2:=(Array.getElem?_eq_some_iff.1 h1).2
   exact h2
  have hdec:Utf8.decode s pos=(c.toNat,1):=by
   have:=decode_ascii s pos hsz (by rw[hsp];omega)
   rw[hsp] at this
   exact this
  have hput:=h.putObj (o':= .sit self s (pos+1)) (O':= .stringIter s (pos+1)) hget hr1 k1 (show ObOk ρ (.sit self s pos) _ from⟨⟨r,hr1,q2⟩,rfl⟩) k2 (show ObOk ρ (.sit self s (pos+1)) _ from⟨⟨r,hr1,q2⟩,rfl⟩)
  refine⟨ρ,.tuple #[.bool true,goInt pos,.int .i32 c.toNat],_,?_,?_,ρ.le_refl,hput⟩
  ·have hlt':pos<s.size:=hlt
   simp only[Instr.next,hax,Sem.run_bind,g1,Result.andThen_ok,hlt',if_true,hdec]
   simp[setObj,Sem.run,k1,Result.andThen]
  ·have h32:d6 ρ (.p (.int .i32 (Int.ofNat c.toNat)))=some (.int .i32 c.toNat):=l7 rfl
   simp only[d6,i8,Option.bind_some,Option.map_some]
   rfl
end
end Go.Am
