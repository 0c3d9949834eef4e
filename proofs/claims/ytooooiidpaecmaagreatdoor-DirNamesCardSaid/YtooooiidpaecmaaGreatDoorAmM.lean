import Derived.Test.YtooooiidpaecmaaGreatDoorAmL
/- The abstract machine: what hangs on memory, and what changes it. -/
namespace Go.Am
open Go Go.RowKit
section
variable {P:Program}
def Ind(f:M→R):Prop:=∀m m2 x m',f m=some (x,m')→m'=m∧f m2=some (x,m2)
theorem Ind.ret(a:AV):Ind fun m=>some (a,m):=by
 intro m m2 x m' h
 simp only[Option.some.injEq,Prod.mk.injEq] at h
 exact⟨h.2.symm,by rw[h.1]⟩
theorem Ind.none:Ind fun _=>Option.none:=by intro m m2 x m' h;cases h
theorem Ind.ob{α:Type}(y:Option α){k:M→α→R}(h:∀a,Ind fun m=>k m a):Ind fun m=>ob y (k m):=by
 cases y with
 |none=>exact Ind.none
 |some a=>exact h a
theorem Ind.bc(c:Bool){f g:M→R}(hf:Ind f)(hg:Ind g):Ind fun m=>bc c (f m) (g m):=by cases c;exact hg;exact hf
theorem Ind.fc(n:Nat){k:M→Nat→R}(h:∀a,Ind fun m=>k m a):Ind fun m=>fc n (k m):=by
 have e:(fun m=>Am.fc n (k m))=fun m=>k m n:=by funext m;exact z7 n (k m)
 rw[e]
 exact h n
theorem Ind.rto(y:Option AV):Ind fun m=>rto m y:=by
 cases y with
 |none=>exact Ind.none
 |some a=>exact Ind.ret a
theorem Ind.rtb(c:Bool):Ind fun m=>rtb m c:=by cases c;exact Ind.ret _;exact Ind.ret _
theorem Ind.rtn(n:Nat){f:M→R}(hf:Ind f):Ind fun m=>rtn m n (f m):=Ind.fc n fun _a=>Ind.bc _ (Ind.ret _) hf
theorem Ind.elN{f:M→R}{k:M→Nat→R}(hf:Ind f)(hk:∀a,Ind fun m=>k m a)(x:AV):Ind fun m=>elN (f m) (k m) x:=by cases x<;>first|exact hf|exact hk _
theorem Ind.elB{f:M→R}{k:M→Bool→R}(hf:Ind f)(hk:∀a,Ind fun m=>k m a)(x:AV):Ind fun m=>elB (f m) (k m) x:=by cases x<;>first|exact hf|exact hk _
theorem Ind.elPtr{f:M→R}{k:M→Nat→Nat→R}(hf:Ind f)(hk:∀a b,Ind fun m=>k m a b)(x:AV):Ind fun m=>elPtr (f m) (k m) x:=by cases x<;>first|exact hf|exact hk _ _
theorem Ind.elSl{f:M→R}{k:M→Nat→Nat→Nat→Nat→Bool→R}(hf:Ind f)(hk:∀a b c d e,Ind fun m=>k m a b c d e)(x:AV):Ind fun m=>elSl (f m) (k m) x:=by cases x<;>first|exact hf|exact hk _ _ _ _ _
theorem Ind.elFunc{f:M→R}{k:M→FuncId→List AV→R}(hf:Ind f)(hk:∀a b,Ind fun m=>k m a b)(x:AV):Ind fun m=>elFunc (f m) (k m) x:=by cases x<;>first|exact hf|exact hk _ _
theorem Ind.elBnd{f:M→R}{k:M→FuncId→List AV→R}(hf:Ind f)(hk:∀a b,Ind fun m=>k m a b)(x:AV):Ind fun m=>elBnd (f m) (k m) x:=by cases x<;>first|exact hf|exact hk _ _
theorem Ind.elAgg{f:M→R}{k:M→List AV→R}(hf:Ind f)(hk:∀a,Ind fun m=>k m a)(x:AV):Ind fun m=>elAgg (f m) (k m) x:=by cases x<;>first|exact hf|exact hk _
theorem Ind.elTup{f:M→R}{k:M→List AV→R}(hf:Ind f)(hk:∀a,Ind fun m=>k m a)(x:AV):Ind fun m=>elTup (f m) (k m) x:=by cases x<;>first|exact hf|exact hk _
theorem Ind.elIf{f:M→R}{k:M→TypeId→AV→R}(hf:Ind f)(hk:∀a b,Ind fun m=>k m a b)(x:AV):Ind fun m=>elIf (f m) (k m) x:=by cases x<;>first|exact hf|exact hk _ _
theorem Ind.q2(x y:RO)(fr:Fr){f:M→R}{k:M→Nat→Nat→R}(hf:Ind f)(hk:∀a b,Ind fun m=>k m a b):Ind fun m=>q2 x y fr (f m) (k m):=
 Ind.elN hf (fun a=>Ind.elN hf (fun b=>hk a b) _) _
theorem g4H{o:OP}(h0:o.cls=0)(fr:Fr):Ind (run o fr):=by
 cases o<;>try exact absurd h0 (by unfold OP.cls;exact Nat.succ_ne_zero _)
 case none=>exact Ind.none
 all_goals first
  |(show Ind (rMv _ fr);unfold rMv)
  |(show Ind (b3j _ _ _ fr);unfold b3j)
  |(show Ind (a3w _ _ fr);unfold a3w)
  |(show Ind (a3X _ fr);unfold a3X)
  |(show Ind (b3e _ _ _ fr);unfold b3e)
  |(show Ind (a7M _ _ _ fr);unfold a7M)
  |(show Ind (a7R _ _ _ fr);unfold a7R)
  |(show Ind (a7S _ _ _ fr);unfold a7S)
  |(show Ind (a7H _ _ _ fr);unfold a7H)
  |(show Ind (a7v _ _ _ fr);unfold a7v)
  |(show Ind (a7I _ _ _ fr);unfold a7I)
  |(show Ind (rLt _ _ _ fr);unfold rLt)
  |(show Ind (rLe _ _ _ fr);unfold rLe)
  |(show Ind (rGt _ _ _ fr);unfold rGt)
  |(show Ind (rGe _ _ _ fr);unfold rGe)
  |(show Ind (rEq _ _ _ fr);unfold rEq)
  |(show Ind (rNe _ _ _ fr);unfold rNe)
  |(show Ind (rUn _ _ fr);unfold rUn)
  |(show Ind (Z8 _ _ fr);unfold Z8)
  |(show Ind (a6J _ _ fr);unfold a6J)
  |(show Ind (a2K _ _ fr);unfold a2K)
  |(show Ind (a3M _ _ fr);unfold a3M)
  |(show Ind (a3D _ fr);unfold a3D)
  |(show Ind (a3y _ fr);unfold a3y)
  |(show Ind (a7N _ _ _ fr);unfold a7N)
  |(show Ind (rFa _ _ fr);unfold rFa)
  |(show Ind (a7O _ _ fr);unfold a7O)
  |(show Ind (a61 _ _ _ fr);unfold a61)
  |(show Ind (a2i _ _ _ fr);unfold a2i)
  |(show Ind (a2j _ _ _ _ fr);unfold a2j)
  |(show Ind (W6 _ _ fr);unfold W6)
  |(show Ind (a7P _ _ fr);unfold a7P)
  |(show Ind (rFn _ _ fr);unfold rFn)
  |(show Ind (b30 _ _ fr);unfold b30)
  |(show Ind (a2e _ _ _ _ _ _ fr);unfold a2e)
  |(show Ind (a7E _ _ fr);unfold a7E)
  |(show Ind (a2c _ _ fr);unfold a2c)
  |(show Ind (a2g _ _ fr);unfold a2g)
  |(show Ind (a2d _ fr);unfold a2d)
  |(show Ind (a7G _ _ fr);unfold a7G)
  |(show Ind (a7K _ _ _ fr);unfold a7K)
 all_goals repeat' first
  |exact Ind.none
  |exact Ind.ret _
  |exact Ind.rto _
  |exact Ind.rtb _
  |apply Ind.q2
  |apply Ind.rtn
  |apply Ind.ob
  |apply Ind.bc
  |apply Ind.fc
  |apply Ind.elN
  |apply Ind.elB
  |apply Ind.elPtr
  |apply Ind.elSl
  |apply Ind.elFunc
  |apply Ind.elBnd
  |apply Ind.elAgg
  |apply Ind.elTup
  |apply Ind.elIf
  |split
  |(intro _)
def Kp(m:M)(r:R):Prop:=∀x m',r=some (x,m')→m'=m
theorem Kp.ret{m:M}(a:AV):Kp m (some (a,m)):=by
 intro x m' h
 simp only[Option.some.injEq,Prod.mk.injEq] at h
 exact h.2.symm
theorem Kp.none{m:M}:Kp m Option.none:=by intro x m' h;cases h
theorem Kp.ob{m:M}{α:Type}(y:Option α){k:α→R}(h:∀a,Kp m (k a)):Kp m (ob y k):=by
 cases y with
 |none=>exact Kp.none
 |some a=>exact h a
theorem Kp.orec{m:M}{α:Type}{f:R}{k:α→R}(hf:Kp m f)(hk:∀a,Kp m (k a))(y:Option α):Kp m (Option.rec (motive:=fun _=>R) f k y):=by
 cases y with
 |none=>exact hf
 |some a=>exact hk a
theorem Kp.bc{m:M}(c:Bool){f g:R}(hf:Kp m f)(hg:Kp m g):Kp m (bc c f g):=by cases c;exact hg;exact hf
theorem Kp.fc{m:M}(n:Nat){k:Nat→R}(h:∀a,Kp m (k a)):Kp m (fc n k):=by rw[z7];exact h n
theorem Kp.rto{m:M}(y:Option AV):Kp m (rto m y):=by
 cases y with
 |none=>exact Kp.none
 |some a=>exact Kp.ret a
theorem Kp.elPtr{m:M}{f:R}{k:Nat→Nat→R}(hf:Kp m f)(hk:∀a b,Kp m (k a b))(x:AV):Kp m (elPtr f k x):=by cases x<;>first|exact hf|exact hk _ _
theorem Kp.elSl{m:M}{f:R}{k:Nat→Nat→Nat→Nat→Bool→R}(hf:Kp m f)(hk:∀a b c d e,Kp m (k a b c d e))(x:AV):Kp m (elSl f k x):=by cases x<;>first|exact hf|exact hk _ _ _ _ _
theorem Kp.slEnd{m:M}(b off adv:Nat)(lim:Bool):Kp m (slEnd m b off adv lim):=by
 unfold Am.slEnd
 exact Kp.bc _ (Kp.ret _) (Kp.ob _ fun _=>Kp.bc _ (Kp.bc _ (Kp.ret _) (Kp.ret _)) Kp.none)
theorem g29{o:OP}(h1:o.cls=1)(fr:Fr)(m:M):Kp m (run o fr m):=by
 cases o<;>try exact absurd h1 (by unfold OP.cls;first|exact Nat.zero_ne_one|exact(by decide:¬2=1))
 all_goals first
  |(show Kp m (R5 _ _ _ _ _ fr m);unfold R5)
  |(show Kp m (a3C _ fr m);unfold a3C)
  |(show Kp m (a0a _ fr m);unfold a0a)
  |(show Kp m (Y8 _ _ fr m);unfold Y8)
  |(show Kp m (a1b _ fr m);unfold a1b)
  |(show Kp m (rSl _ _ _ _ _ _ fr m);unfold rSl)
  |(show Kp m (a4b _ fr m);unfold a4b)
  |(show Kp m (a3W _ fr m);unfold a3W)
  |(show Kp m (M4 _ _ _ _ fr m);unfold M4)
  |(show Kp m (a3Y _ _ _ fr m);unfold a3Y)
 all_goals repeat' first
  |exact Kp.none
  |exact Kp.ret _
  |exact Kp.rto _
  |exact Kp.slEnd _ _ _ _
  |apply Kp.orec
  |apply Kp.ob
  |apply Kp.bc
  |apply Kp.fc
  |apply Kp.elPtr
  |apply Kp.elSl
  |split
  |(intro _)
theorem b7O{cf:CF}{co:CO}(h0:co.cls=0){fr:Fr}:Ind fun m=>H9 cf co fr m:=by
 cases co with
 |op d g o=>
  simp only[a4T]
  exact Ind.ob _ fun t=>Ind.bc t (g4H h0 fr) (Ind.ret _)
 |call d g f args=>cases h0
theorem b7S{cf:CF}{co:CO}(h0:co.cls=1){fr:Fr}{m:M}:Kp m (H9 cf co fr m):=by
 cases co with
 |op d g o=>
  simp only[a4T]
  exact Kp.ob _ fun t=>Kp.bc t (g29 h0 fr m) (Kp.ret _)
 |call d g f args=>cases h0
theorem c7d:∀{a b:List UInt8},F8 a b=true→a=b
 | [],[],_=>rfl
 |a::l,b::k,h=>by
  simp only[F8,Bool.and_eq_true,Nat.beq_eq] at h
  rw[UInt8.toNat_inj.1 h.1,c7d h.2]
 | [],_::_,h=>by cases h
 |_::_,[],h=>by cases h
theorem g2T{x y:Value}(h:veq x y=true):x=y:=by
 unfold veq at h
 split at h<;>try simp only[Bool.and_eq_true,decide_eq_true_eq,beq_iff_eq,Nat.beq_eq,Bool.false_eq_true] at h
 ·rw[h.1,h.2]
 ·rw[h]
 ·rename_i a b
  have:=c7d h
  cases a;cases b
  simp only[Array.toList_inj] at this
  simpa using this
 ·rfl
 ·rw[h.1,h.2]
 ·rw[h.1,h.2.1,h.2.2]
 ·rfl
 ·rfl
 ·rfl
theorem a2G{f:AV→AV→Bool}(hf:∀x y,f x y=true→x=y):∀{l k:List AV},a05 f l k=true→l=k
 | [],[],_=>rfl
 |x::l,y::k,h=>by
  simp only[a05,Bool.and_eq_true] at h
  rw[hf _ _ h.1,a2G hf h.2]
 | [],_::_,h=>by cases h
 |_::_,[],h=>by cases h
theorem N8:∀{n:Nat} {x y:AV},v6 n x y=true→x=y
 |0,_,_,h=>by cases h
 |n+1,x,y,h=>by
  unfold v6 at h
  split at h<;>try simp only[Bool.and_eq_true,beq_iff_eq,Nat.beq_eq,Bool.false_eq_true] at h
  ·rw[h]
  ·rw[h]
  ·rw[h]
  ·rw[g2T h]
  ·rw[h.1,h.2]
  ·obtain⟨h1,h2,h3,h4,h5⟩:=h;rw[h1,h2,h3,h4,h5]
  ·obtain⟨h1,h2,h3⟩:=h;rw[h1,h2,h3]
  ·rw[h]
  ·rw[h]
  ·rw[a2G (fun _ _=>N8) h]
  ·rw[a2G (fun _ _=>N8) h]
  ·rw[a2G (fun _ _=>N8) h]
  ·rw[h.1,a2G (fun _ _=>N8) h.2]
end
end Go.Am
