import Derived.Test.YtooooiidpaecmaaGreatDoorAmWk
/- The abstract machine: functions that range over functions, in any place behind other code; rounds whose body is any code. -/
namespace Go.Am
open Go Go.RowKit
def a6e(f:Option Func):Code:=match f with
 |some f=>f.body.getD .skip
 |none=> .skip
def sL:Code→Code
 | .seq a _=>a
 |_=> .skip
def sR:Code→Code
 | .seq _ b=>b
 |_=> .skip
def bB:Code→Code
 | .block _ b=>b
 |_=> .skip
def rF:Code→Operand
 | .rangeFunc f _ _ _=>f
 |_=> .tmp 0
def rPs:Code→Array Tmp
 | .rangeFunc _ p _ _=>p
 |_=> #[]
def rAs:Code→Code
 | .rangeFunc _ _ a _=>a
 |_=> .skip
def rBd:Code→Code
 | .rangeFunc _ _ _ b=>b
 |_=> .skip
section
variable {P:Program} {T:Tb}
def WpS(P:Program)(T:Tb)(c:Code)(ds:List Nat)(ar:Option Nat)(fr:Fr)(m:M)(Q:X→Fr→M→List Nat→Prop):Prop:=
 ∃N x fr' m' ds',(∀n,N≤n→l8 P T n (.c c) ⟨fr,m,ds,ar⟩=some (x,⟨fr',m',ds',ar⟩))∧Q x fr' m' ds'
variable {ds:List Nat} {ar:Option Nat} {fr:Fr} {m:M}
theorem WpS.mono{c:Code}{Q Q':X→Fr→M→List Nat→Prop}(h:WpS P T c ds ar fr m Q)(k:∀x f m d,Q x f m d→Q' x f m d):WpS P T c ds ar fr m Q':=by
 obtain⟨N,x,f,m',d,h1,h2⟩:=h
 exact⟨N,x,f,m',d,h1,k _ _ _ _ h2⟩
theorem WpS.code{c:Code}{cc:CC}(hc:j9 P c=cc){Q:X→Fr→M→List Nat→Prop}(h:GX P T cc (fun x f m=>Q x f m ds) fr m):WpS P T c ds ar fr m Q:=by
 obtain⟨N,x,f,m',h1,h2⟩:=M0 h c hc ds ar
 exact⟨N,x,f,m',ds,h1,h2⟩
theorem WpS.seq{a b:Code}{Q:X→Fr→M→List Nat→Prop}(h:WpS P T a ds ar fr m fun x f1 m1 d1=>match x with| .normal=>WpS P T b d1 ar f1 m1 Q|x=>Q x f1 m1 d1):WpS P T (.seq a b) ds ar fr m Q:=by
 obtain⟨N,x,f,m',d,h1,h2⟩:=h
 have e:∀n,N≤n→a0Z P T (l8 P T n) (.c (.seq a b)) ⟨fr,m,ds,ar⟩=andThen (some (x,⟨f,m',d,ar⟩)) (l8 P T n (.c b)):=fun n hn=>by
  show andThen (l8 P T n (.c a) ⟨fr,m,ds,ar⟩) (l8 P T n (.c b))=_
  rw[h1 n hn]
 cases x with
 |normal=>
  obtain⟨N2,x2,f2,m2,d2,h3,h4⟩:=h2
  exact⟨max N N2+1,x2,f2,m2,d2,up (fun n=>rfl) (fun n hn=>(e n (by omega)).trans (h3 n (by omega))),h4⟩
 |exit id=>exact⟨N+1,_,f,m',d,up (fun n=>rfl) e,h2⟩
 |goto id=>exact⟨N+1,_,f,m',d,up (fun n=>rfl) e,h2⟩
 |ret=>exact⟨N+1,_,f,m',d,up (fun n=>rfl) e,h2⟩
theorem WpS.block{id:Nat}{b:Code}{Q:X→Fr→M→List Nat→Prop}(h:WpS P T b ds ar fr m fun x f1 m1 d1=>match x with| .exit i=>if i=id then Q .normal f1 m1 d1 else Q (.exit i) f1 m1 d1|x=>Q x f1 m1 d1):WpS P T (.block id b) ds ar fr m Q:=by
 obtain⟨N,x,f,m',d,h1,h2⟩:=h
 have e:∀n,N≤n→a0Z P T (l8 P T n) (.c (.block id b)) ⟨fr,m,ds,ar⟩=a1F id (some (x,⟨f,m',d,ar⟩)):=fun n hn=>by
  show a1F id (l8 P T n (.c b) ⟨fr,m,ds,ar⟩)=_
  rw[h1 n hn]
 cases x with
 |normal=>exact⟨N+1,_,f,m',d,up (fun n=>rfl) e,h2⟩
 |goto l=>exact⟨N+1,_,f,m',d,up (fun n=>rfl) e,h2⟩
 |ret=>exact⟨N+1,_,f,m',d,up (fun n=>rfl) e,h2⟩
 |exit j=>
  by_cases hj:j=id
  ·subst hj
   have h2:Q .normal f m' d:=by simpa using h2
   exact⟨N+1,.normal,f,m',d,up (fun n=>rfl) (fun n hn=>(e n hn).trans (by show bc (Nat.beq j j) _ _=_;rw[Nat.beq_refl];rfl)),h2⟩
  ·have h2:Q (.exit j) f m' d:=by simpa[hj] using h2
   exact⟨N+1,.exit j,f,m',d,up (fun n=>rfl) (fun n hn=>(e n hn).trans (by show bc (Nat.beq j id) _ _=_;rw[A4,decide_eq_false hj];rfl)),h2⟩
theorem WpS.range{f:Operand}{ps:Array Tmp}{as bd:Code}{h:FuncId}{caps:List AV}{Q:X→Fr→M→List Nat→Prop}(hev:ev (cO f) fr= .func h caps)
  (hF:WpF P T h (.yield (m.new (.obj (.dfr true))).next::caps) ((m.new (.obj (.dfr true))).new (.obj (.loop ⟨0,none,fr,ps.toList,as,bd,m.next⟩))) fun _ m2=>
   ∃L x,m2.loop (m.new (.obj (.dfr true))).next=some L∧L.st≠1∧a3G L.pend=some x∧Q x fr (m2.put (m.new (.obj (.dfr true))).next (.obj (.loop {L with st:=3}))) (m.next::ds)):WpS P T (.rangeFunc f ps as bd) ds none fr m Q:=by
 obtain⟨N,v,m2,k,L,x,hL,hst,hx,hQ⟩:=hF
 refine⟨N+1,x,fr,_,_,up (fun n=>rfl) (fun n hn=> ?_),hQ⟩
 show(ob (elFunc none (fun g caps=>G7 P T (l8 P T n) g (.yield (m.new (.obj (.dfr true))).next::caps) ((m.new (.obj (.dfr true))).new (.obj (.loop ⟨0,none,fr,ps.toList,as,bd,m.next⟩)))) (ev (cO f) fr)) fun r=>
  ob (r.2.loop (m.new (.obj (.dfr true))).next) fun L=>bc (Nat.beq L.st 1) none (ob (a3G L.pend) fun x=>some (x,(⟨fr,r.2.put (m.new (.obj (.dfr true))).next (.obj (.loop {L with st:=3})),m.next::ds,none⟩:St))))=_
 rw[hev]
 show(ob (G7 P T (l8 P T n) h (.yield (m.new (.obj (.dfr true))).next::caps) _) _)=_
 rw[k n hn]
 show(ob (m2.loop (m.new (.obj (.dfr true))).next) _)=_
 rw[hL]
 show bc (Nat.beq L.st 1) none (ob (a3G L.pend) _)=_
 rw[hx,A4,decide_eq_false hst];rfl
theorem WpF.body{g:FuncId}{fn:Func}(hf:A7 (pth g) T.fs=some fn){c:Code}(hbd:fn.body=some c)(hs:y9 fn.ntmps c=true){args:List AV}(hn:Nat.ble args.length fn.ntmps=true){rs:List ResultVar}(hr:fn.results.toList=rs){m:M}(hit:T.it g args m=none){Q:AV→M→Prop}
  (h:WpS P T c [] none (v8 args (nat_lit 0) .leaf) m fun x f m' d=>(x= .normal∨x= .ret)∧∃m2,I7 d m'=some m2∧∃l,E3 P ⟨f,m2,[],none⟩ rs=some l∧Q (one l) m2):WpF P T g args m Q:=by
 obtain⟨N,x,f,m',d,k1,k2,m2,hd,l,k3,k4⟩:=h
 subst hr
 refine⟨N,one l,m2,fun n hn'=> ?_,k4⟩
 unfold G7
 rw[hf]
 show Option.rec (motive:=fun _=>R) _ (fun r=>r) (T.it g args m)=_
 rw[hit]
 show Option.rec (motive:=fun _=>R) _ _ fn.body=_
 rw[hbd]
 show bc (y9 fn.ntmps c&&Nat.ble args.length fn.ntmps) _ none=_
 rw[hs,hn]
 show(ob (a07 (l8 P T n (.c c) ⟨v8 args (nat_lit 0) .leaf,m,[],none⟩)) _)=_
 rw[k1 n hn']
 have e:a07 (some (x,⟨f,m',d,none⟩))=some ⟨f,m',d,none⟩:=by rcases k2 with rfl|rfl<;>rfl
 rw[e]
 show(ob (I7 d m') fun m2=>ob (E3 P ⟨f,m2,[],none⟩ fn.results.toList) fun l=>some (one l,m2))=_
 rw[hd]
 show(ob (E3 P ⟨f,m2,[],none⟩ fn.results.toList) fun l=>some (one l,m2))=_
 rw[k3];rfl
theorem WpY.code{l:Nat}{L:ALoop}{args:List AV}{m:M}{Q:AV→M→Prop}(hL:m.loop l=some L)(hn:args.length=L.params.length){ca cb:CC}(ha:j9 P L.assign=ca)(hb:j9 P L.body=cb)
  (h:GX P T ca (fun x fr1 m1=>x= .normal∧∃L1,m1.loop l=some L1∧L1.st=0∧
   GX P T cb (fun x2 _ m2=>∃L2,m2.loop l=some L2∧Q (.b (B8 x2).isNone) (m2.put l (.obj (.loop {L2 with st:=bc (B8 x2).isNone 0 2,pend:=B8 x2})))) fr1 (m1.put l (.obj (.loop {L1 with st:=1})))) (a3E L.params args L.fr) m):WpY P T l args m Q:=by
 obtain⟨N1,x1,f1,m1,k1,rfl,L1,hL1,h0,h2⟩:=M0 h _ ha [] (some l)
 obtain⟨N2,x2,f2,m2,k2,L2,hL2,hQ⟩:=M0 h2 _ hb [] (some l)
 refine⟨max N1 N2,_,_,fun n hn'=> ?_,hQ⟩
 unfold a29
 rw[hL]
 show bc (Nat.beq args.length L.params.length) (ob (l8 P T n (.c L.assign) ⟨a3E L.params args L.fr,m,[],some l⟩) _) none=_
 rw[hn,Nat.beq_refl,l9,k1 n (by omega)]
 show(ob (m1.loop l) fun L1=>bc (Nat.beq L1.st 0) (ob (l8 P T n (.c L.body) ⟨f1,m1.put l (.obj (.loop {L1 with st:=1})),[],some l⟩) _) none)=_
 rw[hL1]
 show bc (Nat.beq L1.st 0) (ob (l8 P T n (.c L.body) ⟨f1,m1.put l (.obj (.loop {L1 with st:=1})),[],some l⟩) _) none=_
 rw[h0,Nat.beq_refl,l9,k2 n (by omega)]
 show(ob (m2.loop l) fun L2=>some (AV.b (B8 x2).isNone,m2.put l (.obj (.loop {L2 with st:=bc (B8 x2).isNone 0 2,pend:=B8 x2}))))=_
 rw[hL2];rfl
end
end Go.Am
