import Derived.Test.YtooooiidpaecmaaGreatDoorAmC
import Derived.Laws.StructEq
/- The abstract machine: structs and arrays compared, leaf by leaf. -/
namespace Go.Am
open Go Go.RowKit
section
variable {P:Program} {w:World}
theorem G5{t n:Nat}(h:tsize P t=some n):∃i,P.info? t=some i∧i.size=n:=by
 unfold tsize at h
 simpa[Option.map_eq_some_iff] using h
theorem H6{t n:Nat}(h:tsize P t=some n):(sizeOf t).run P w= .ok n w:=by
 obtain⟨i,hi,rfl⟩:=G5 h
 simp[sizeOf,typeInfo,hi]
theorem X3{t:Nat}{c:Bool}(h:A8 P t=some c):(isAgg t).run P w= .ok c w:=by
 unfold A8 at h
 simp only[Option.map_eq_some_iff] at h
 obtain⟨d,hd,h⟩:=h
 simp only[isAgg,Sem.run_bind,run_underlying hd,Result.andThen_ok]
 rw[←h]
 cases d<;>simp
def W7(k:Nat)(u v:Value):Option Bool:=match k,u,v with
 |0,.int k a,.int k' b=>if k=k' then some (a==b) else none
 |1,.string a,.string b=>some (a==b)
 |2,.bool a,.bool b=>some (a==b)
 |3,.complex k a b,.complex k' c d=>if k=k' then some (Op.floatEq k a c&&Op.floatEq k b d) else none
 |_,_,_=>none
def M2(xs ys:Array Value):List (Nat×Nat)→Option Bool
 | [] =>some true
 |q::l=>(xs[q.1]?).bind fun u=>(ys[q.1]?).bind fun v=>(W7 q.2 u v).bind fun r=>(M2 xs ys l).map fun s=>r&&s
theorem a8S{xs ys:Array Value}:∀{l1 l2:List (Nat×Nat)} {r:Bool},M2 xs ys (l1++l2)=some r→∃r1 r2,M2 xs ys l1=some r1∧M2 xs ys l2=some r2∧r=(r1&&r2)
 | [],l2,r,h=>⟨true,r,rfl,h,rfl⟩
 |q::l1,l2,r,h=>by
  simp only[List.cons_append,M2,Option.bind_eq_some_iff,Option.map_eq_some_iff] at h
  obtain⟨u,h1,v,h2,r0,h3,s,h4,rfl⟩:=h
  obtain⟨r1,r2,h5,h6,rfl⟩:=a8S h4
  exact⟨r0&&r1,r2,by simp[M2,h1,h2,h3,h5],h6,by rw[Bool.and_assoc]⟩
def IsPart(P:Program)(t:TypeId)(xs:Array Value)(off:Nat)(X:Value):Prop:=
 (A8 P t=some true∧∃s,tsize P t=some s∧X= .agg (xs.extract off (off+s))∧off+s≤xs.size)∨(A8 P t=some false∧xs[off]? =some X)
theorem IsPart.agg{t:TypeId}{xs:Array Value}{off s:Nat}{X:Value}(h:IsPart P t xs off X)(ha:A8 P t=some true)(hs:tsize P t=some s):X= .agg (xs.extract off (off+s))∧off+s≤xs.size:=by
 rcases h with⟨_,s',h1,h2,h3⟩|⟨h,_⟩
 ·rw[hs] at h1;cases h1;exact⟨h2,h3⟩
 ·rw[ha] at h;cases h
theorem IsPart.leaf{t:TypeId}{xs:Array Value}{off:Nat}{X:Value}(h:IsPart P t xs off X)(ha:A8 P t=some false):xs[off]? =some X:=by
 rcases h with⟨h,_⟩|⟨_,h⟩
 ·rw[ha] at h;cases h
 ·exact h
theorem a5s{t:TypeId}{xs:Array Value}{off s0 o sz:Nat}{u:Bool}(ha:A8 P t=some u)(hs:tsize P t=some sz)(hsz:u=false→sz=1)(hin:o+sz≤s0)(hx:off+s0≤xs.size):
  ∃X,(part t (xs.extract off (off+s0)) o).run P w= .ok X w∧IsPart P t xs (off+o) X:=by
 cases u with
 |true=>
  refine⟨.agg (xs.extract (off+o) (off+o+sz)),?_,.inl ⟨ha,sz,hs,rfl,by omega⟩⟩
  have e:(xs.extract off (off+s0)).extract o (o+sz)=xs.extract (off+o) (off+o+sz):=by
   rw[Array.extract_extract]
   congr 1
   omega
  simp only[part,Sem.run_bind,X3 ha,H6 hs,Result.andThen_ok,if_true,Sem.run_pure,e]
 |false=>
  have h1:=hsz rfl
  subst h1
  have hlt:off+o<xs.size:=by omega
  refine⟨xs[off+o],?_,.inr ⟨ha,Array.getElem?_eq_getElem hlt⟩⟩
  have e:(xs.extract off (off+s0))[o]? =some xs[off+o] :=by
   rw[Array.getElem?_extract]
   have:o<min (off+s0) xs.size-off:=by omega
   simp[this,hlt]
  simp[part,X3 ha,e]
theorem a9n:∀(n:Nat) (t:TypeId) (off:Nat) (l:List (Nat×Nat)),Y6 P n t off=some l→∀(e:Nat) (xs ys:Array Value) (X Y:Value) (r:Bool),IsPart P t xs off X→IsPart P t ys off Y→M2 xs ys l=some r→
  (Op.equalIn (n+e) t X Y).run P w= .ok r w
 |0,_,_,_,h=>by cases h
 |n+1,t,off,l,h=>by
  intro e xs ys X Y r hX hY hr
  have hne:n+1+e=(n+e)+1:=by omega
  rw[hne]
  unfold Y6 at h
  have leaf:∀(k:Nat) (d:TypeDesc),P.underlying t=some d→A8 P t=some false→l= [(off,k)]→(∀u v r,W7 k u v=some r→(Op.equalIn ((n+e)+1) t u v).run P w= .ok r w)→(Op.equalIn ((n+e)+1) t X Y).run P w= .ok r w:=by
   intro k d hu ha hl hk
   subst hl
   simp only[M2,Option.bind_eq_some_iff,Option.map_eq_some_iff] at hr
   obtain⟨u,h1,v,h2,r0,h3,s,h4,rfl⟩:=hr
   cases h4
   have hx:=hX.leaf ha
   have hy:=hY.leaf ha
   rw[hx] at h1;cases h1
   rw[hy] at h2;cases h2
   rw[Bool.and_true]
   exact hk _ _ _ h3
  split at h
  ·rename_i k hu
   refine leaf 0 _ hu (by simp[A8,hu]) (by cases h;rfl) ?_
   intro u v r hv
   unfold W7 at hv
   split at hv
   ·split at hv
    ·rename_i hk;subst hk;cases hv;simp[Op.equalIn,run_underlying hu]
    ·cases hv
   ·rename_i h0;cases h0
   ·rename_i h0;cases h0
   ·rename_i h0;cases h0
   ·cases hv
  ·rename_i hu
   refine leaf 1 _ hu (by simp[A8,hu]) (by cases h;rfl) ?_
   intro u v r hv
   unfold W7 at hv
   split at hv
   ·rename_i h0;cases h0
   ·cases hv;simp[Op.equalIn,run_underlying hu]
   ·rename_i h0;cases h0
   ·rename_i h0;cases h0
   ·cases hv
  ·rename_i hu
   refine leaf 2 _ hu (by simp[A8,hu]) (by cases h;rfl) ?_
   intro u v r hv
   unfold W7 at hv
   split at hv
   ·rename_i h0;cases h0
   ·rename_i h0;cases h0
   ·cases hv;simp[Op.equalIn,run_underlying hu]
   ·rename_i h0;cases h0
   ·cases hv
  ·rename_i k hu
   refine leaf 3 _ hu (by simp[A8,hu]) (by cases h;rfl) ?_
   intro u v r hv
   unfold W7 at hv
   split at hv
   ·rename_i h0;cases h0
   ·rename_i h0;cases h0
   ·rename_i h0;cases h0
   ·split at hv
    ·rename_i hk;subst hk;cases hv;simp[Op.equalIn,run_underlying hu]
    ·cases hv
   ·cases hv
  ·rename_i fs hu
   have ha:A8 P t=some true:=by simp[A8,hu]
   obtain⟨s0,hs0,h⟩:=d9 h
   obtain⟨hst,h⟩:=l4 h
   obtain⟨rfl,hx⟩:=hX.agg ha hs0
   obtain⟨rfl,hy⟩:=hY.agg ha hs0
   have hfo:P.fieldsOf t=fs:=by simp[Program.fieldsOf,hu]
   rw[run_equalIn_struct w (n+e) t _ _ (by rw[hfo];exact hu) (by simpa using hst),hfo]
   --field by field
   have key:∀(fl:List Field) (l:List (Nat×Nat)) (r:Bool),a2R P (Y6 P n) s0 off fl=some l→M2 xs ys l=some r→(Op.eqFields (n+e) (xs.extract off (off+s0)) (ys.extract off (off+s0)) fl).run P w= .ok r w:=by
    intro fl
    induction fl with
    |nil=>intro l r hl hr;cases hl;cases hr;simp[Op.eqFields]
    |cons f fl ih=>
     intro l r hl hr
     unfold a2R at hl
     by_cases hname:f.name= "_"
     ·rw[if_pos hname] at hl
      simp only[Op.eqFields,hname,ne_eq,not_true_eq_false,if_false]
      exact ih l r hl hr
     ·rw[if_neg hname] at hl
      split at hl
      ·rename_i u sz hu2 hs2
       obtain⟨hc,hl⟩:=l4 hl
       obtain⟨a,ha1,hl⟩:=d9 hl
       obtain⟨b,hb1,hl⟩:=d9 hl
       cases hl
       simp only[Bool.and_eq_true,Bool.or_eq_true] at hc
       have hin:f.offset+sz≤s0:=Nat.le_of_ble_eq_true hc.1
       have hone:u=false→sz=1:=fun e=>by subst e;rcases hc.2 with h|h;cases h;exact Nat.eq_of_beq_eq_true h
       obtain⟨r1,r2,hr1,hr2,rfl⟩:=a8S hr
       obtain⟨A,hA,hA'⟩:=a5s (P:=P) (w:=w) hu2 hs2 hone hin hx
       obtain⟨B,hB,hB'⟩:=a5s (P:=P) (w:=w) hu2 hs2 hone hin hy
       have hAB:=a9n n f.type (off+f.offset) a ha1 e xs ys A B r1 hA' hB' hr1
       simp only[Op.eqFields,hname,ne_eq,not_false_eq_true,if_true,Sem.run_bind,hA,hB,hAB,Result.andThen_ok]
       cases r1 with
       |true=>simp only[Bool.not_true,Bool.false_eq_true,if_false,Bool.true_and];exact ih b r2 hb1 hr2
       |false=>simp
      ·cases hl
   exact key fs.toList l r h hr
  ·rename_i len el hu
   have ha:A8 P t=some true:=by simp[A8,hu]
   obtain⟨s0,hs0,h⟩:=d9 h
   obtain⟨rfl,hx⟩:=hX.agg ha hs0
   obtain⟨rfl,hy⟩:=hY.agg ha hs0
   split at h
   ·rename_i u sz hu2 hs2
    obtain⟨hc,h⟩:=l4 h
    simp only[Bool.or_eq_true] at hc
    have hone:u=false→sz=1:=fun e=>by subst e;rcases hc with h|h;cases h;exact Nat.eq_of_beq_eq_true h
    have key:∀(m i:Nat) (l:List (Nat×Nat)) (r:Bool),a5d (Y6 P n) el sz s0 off m i=some l→M2 xs ys l=some r→
      (forIn (List.range' i m) ((none,()):Option Bool×Unit) (fun i _=>do
       let a←part el (xs.extract off (off+s0)) (i*sz)
       let b←part el (ys.extract off (off+s0)) (i*sz)
       let r←Op.equalIn (n+e) el a b
       if(!r)=true then pure (ForInStep.done (some false,())) else pure (ForInStep.yield (none,()))):Sem (Option Bool×Unit)).run P w= .ok (if r then(none,()) else(some false,())) w:=by
     intro m
     induction m with
     |zero=>intro i l r hl hr;cases hl;cases hr;simp
     |succ m ih=>
      intro i l r hl hr
      unfold a5d at hl
      obtain⟨hcc,hl⟩:=l4 hl
      obtain⟨a,ha1,hl⟩:=d9 hl
      obtain⟨b,hb1,hl⟩:=d9 hl
      cases hl
      have hin:i*sz+sz≤s0:=Nat.le_of_ble_eq_true hcc
      obtain⟨r1,r2,hr1,hr2,rfl⟩:=a8S hr
      obtain⟨A,hA,hA'⟩:=a5s (P:=P) (w:=w) hu2 hs2 hone hin hx
      obtain⟨B,hB,hB'⟩:=a5s (P:=P) (w:=w) hu2 hs2 hone hin hy
      have hAB:=a9n n el (off+i*sz) a ha1 e xs ys A B r1 hA' hB' hr1
      simp only[List.range'_succ,List.forIn_cons,Sem.run_bind,hA,hB,hAB,Result.andThen_ok]
      cases r1 with
      |true=>simp only[Bool.not_true,Bool.false_eq_true,if_false,Bool.true_and,Sem.run_pure,Result.andThen_ok];exact ih (i+1) b r2 hb1 hr2
      |false=>simp
    have:=key len 0 l r h hr
    simp only[Op.equalIn,Sem.run_bind,run_underlying hu,H6 hs2,Result.andThen_ok]
    rw[Std.Legacy.Range.forIn_eq_forIn_range']
    simp only[Std.Legacy.Range.size,Nat.sub_zero,Nat.add_sub_cancel,Nat.div_one]
    rw[this]
    cases r<;>simp
   ·cases h
  ·cases h
end
end Go.Am
