import Derived.Test.YtooooiidpaecmaaGreatDoorAmA
import Derived.Laws.CopyRow
import Derived.Below
/- The abstract machine: trees, the reading of its values in the model's world, memory. -/
namespace Go.Am
open Go
theorem l9{β:Type}(t e:β):bc true t e=t:=rfl
theorem u7{β:Type}(t e:β):bc false t e=e:=rfl
theorem A6{β:Type}(c:Bool)(t e:β):bc c t e=if c then t else e:=by cases c<;>rfl
theorem z7{β:Type}(n:Nat)(k:Nat→β):fc n k=k n:=by cases n<;>rfl
theorem g5w{α β:Type}(x:Option α)(k:α→Option β):ob x k=x.bind k:=by cases x<;>rfl
theorem d9{α β:Type}{x:Option α}{k:α→Option β}{r:β}(h:ob x k=some r):∃a,x=some a∧k a=some r:=by
  cases x with
  |none=>simp[ob] at h
  |some a=>exact⟨a,rfl,h⟩
theorem l4{β:Type}{c:Bool}{t:Option β}{r:β}(h:bc c t none=some r):c=true∧t=some r:=by
  cases c with
  |true=>exact⟨rfl,h⟩
  |false=>simp[bc] at h
theorem b0B{β:Type}{c:Bool}{t:Option β}{r:β}(h:bc c none t=some r):c=false∧t=some r:=by
  cases c with
  |false=>exact⟨rfl,h⟩
  |true=>simp[bc] at h
theorem A4(a b:Nat):Nat.beq a b=decide (a=b):=by
  cases h:Nat.beq a b
  · simp[Nat.ne_of_beq_eq_false h]
  · simp[Nat.eq_of_beq_eq_true h]
theorem A1(a b:Nat):Nat.ble a b=decide (a≤b):=by
  cases h:Nat.ble a b
  · symm;rw[decide_eq_false_iff_not];intro h2;rw[Nat.ble_eq_true_of_le h2] at h;cases h
  · simp[Nat.le_of_ble_eq_true h]
section
variable {α:Type}
theorem f8J(t:Tr α):A7 [] t=match t with| .leaf=>none| .node _ v _=>v:=by cases t<;>rfl
theorem a9m(b:Bool)(p:List Bool)(t:Tr α):A7 (b::p) t=match t with| .leaf=>none| .node l _ r=>if b then A7 p l else A7 p r:=by cases t<;>cases b<;>rfl
theorem f8v(x:α)(t:Tr α):E1 x [] t=match t with| .leaf=> .node .leaf (some x) .leaf| .node l _ r=> .node l (some x) r:=by cases t<;>rfl
theorem a9s(x:α)(b:Bool)(p:List Bool)(t:Tr α):E1 x (b::p) t=
    match t with
    | .leaf=>if b then .node (E1 x p .leaf) none .leaf else .node .leaf none (E1 x p .leaf)
    | .node l v r=>if b then .node (E1 x p l) v r else .node l v (E1 x p r):=by cases t<;>cases b<;>rfl
theorem X2(p:List Bool):A7 p (.leaf:Tr α)=none:=by cases p<;>rfl
theorem b6Z(x:α):∀(p:List Bool) (t:Tr α),A7 p (E1 x p t)=some x
  | [],t=>by cases t<;>rfl
  | b::p,t=>by
    rw[a9s]
    cases t<;>cases b<;>simp[a9m,b6Z x p]
theorem b7B(x:α):∀(p q:List Bool) (t:Tr α),p≠q→A7 q (E1 x p t)=A7 q t
  | [],[],_,h=>absurd rfl h
  | [],c::q,t,_=>by cases t<;>cases c<;>simp[f8v,a9m,X2]
  |b::p,[],t,_=>by cases t<;>cases b<;>simp[a9s,f8J]
  | b::p,c::q,t,h=>by
    rw[a9s]
    have hpq:b=c→p≠q:=fun e e'=>h (by rw[e,e'])
    cases t<;>cases b<;>cases c<;>simp[a9m,X2] <;>first
      |(rw[b7B x p q _ (hpq rfl)];try rw[X2])
      |skip
end
def dec:List Bool→Nat
  | [] =>0
  |true::l=>2*dec l+1
  |false::l=>2*dec l+2
theorem a9G:∀(f n:Nat),n≤f→dec (a3Z f n)=n
  | 0,n,h=>by
    have:n=0:=by omega
    subst this;rfl
  | f+1,n,h=>by
    have e:a3Z (f+1) n=bc (Nat.beq n 0) [] (bc (Nat.beq (n % 2) 1) (true::a3Z f (n/2)) (false::a3Z f (n/2-1))):=rfl
    rw[e,A6,A6]
    by_cases h0:n=0
    · subst h0;rfl
    · have hb:Nat.beq n 0=false:=by rw[A4];simpa using h0
      rw[hb]
      by_cases h1:n % 2=1
      · have hb1:Nat.beq (n % 2) 1=true:=by rw[A4];simpa using h1
        rw[hb1]
        simp only[Bool.false_eq_true,if_false,if_true,dec]
        rw[a9G f (n/2) (by omega)];omega
      · have hb1:Nat.beq (n % 2) 1=false:=by rw[A4];simpa using h1
        rw[hb1]
        simp only[Bool.false_eq_true,if_false,dec]
        rw[a9G f (n/2-1) (by omega)];omega
theorem b1c(n:Nat):dec (pth n)=n:=a9G n n (Nat.le_refl _)
theorem g1x{a b:Nat}(h:pth a=pth b):a=b:=by rw[←b1c a,←b1c b,h]
theorem d8p{a b:Nat}(h:a≠b):pth a≠pth b:=fun e=>h (g1x e)
theorem a0E{α:Type}(t:Tr α)(i j:Nat)(x:α):A7 (pth j) (E1 x (pth i) t)=if j=i then some x else A7 (pth j) t:=by
  by_cases h:j=i
  · subst h;simp[b6Z]
  · rw[if_neg h,b7B];exact d8p (Ne.symm h)
theorem b7Z{α:Type}(v:α)(l:List α)(i:Nat)(t:Tr α):v8 (v::l) i t=v8 l (i+1) (E1 v (pth i) t):=by
  show fc (Nat.succ i) _=_
  rw[z7];rfl
theorem T4{α:Type}:∀(l:List α) (i:Nat) (t:Tr α) (j:Nat),A7 (pth j) (v8 l i t)=if i≤j∧j<i+l.length then l[j-i]? else A7 (pth j) t
  | [],i,t,j=>by
    have:¬(i≤j∧j<i+([] :List α).length):=by simp
    rw[if_neg this];rfl
  | v::l,i,t,j=>by
    rw[b7Z,T4 l (i+1) _ j,a0E]
    by_cases h:j=i
    · subst h
      have h1:¬(j+1≤j∧j<j+1+l.length):=by omega
      simp[h1]
    · by_cases h2:i+1≤j∧j<i+1+l.length
      · have h3:i≤j∧j<i+(v::l).length:=by simp;omega
        rw[if_pos h2,if_pos h3]
        obtain⟨k,hk⟩:∃k,j-i=k+1:=⟨j-i-1,by omega⟩
        rw[hk,List.getElem?_cons_succ]
        congr 1;omega
      · have h3:¬(i≤j∧j<i+(v::l).length):=by simp;omega
        rw[if_neg h2,if_neg h3,if_neg h]
structure RB where
  blk:Nat
  sh:Nat
  ext:Nat
structure Ren where
  loc:Nat→Option RB
  sym:Nat→Value
def Ren.le(ρ ρ':Ren):Prop:=(∀b r,ρ.loc b=some r→ρ'.loc b=some r)∧ρ'.sym=ρ.sym
theorem Ren.le_refl(ρ:Ren):ρ.le ρ:=⟨fun _ _ h=>h,rfl⟩
theorem Ren.le_trans{a b c:Ren}(h:a.le b)(k:b.le c):a.le c:=⟨fun _x _r e=>k.1 _ _ (h.1 _ _ e),k.2.trans h.2⟩
def a1T(i:Nat)(v:Value):Bool:=match i % 4,v with
  |0,.int .u8 (.ofNat _)=>true
  |1,.int .i64 (.negSucc _)=>true
  |2,.int .i64 (.ofNat k)=>decide (i/4<k)
  |_,_=>false
def bytesOf:List Value→Option (List UInt8)
  | [] =>some []
  | .int .u8 (.ofNat n)::l=>(bytesOf l).map (UInt8.ofNat n::·)
  |_=>none
mutual
def d6(ρ:Ren):AV→Option Value
  | .n a=>some (.int .i64 (.ofNat a))
  | .y a=>some (.int .u8 (.ofNat a))
  | .b c=>some (.bool c)
  | .p v=>if v.oneCell' then some v else none
  | .ptr b off=>(ρ.loc b).map fun r=> .pointer (some ⟨r.blk,r.sh+off,none⟩)
  | .slice b off len cap lim=>(ρ.loc b).map fun r=> .slice (some ⟨r.blk,r.sh+off,none⟩) len (if lim then cap else cap+r.ext)
  | .sliceE b off adv=>(ρ.loc b).map fun r=> .slice (some ⟨r.blk,r.sh+off+(if r.ext=0 then 0 else adv),none⟩) 0 r.ext
  | .map b=>(ρ.loc b).map fun r=> .map (some r.blk)
  | .func f caps=>(i8 ρ caps).map fun vs=> .func (.func f) #[] vs.toArray
  | .yield l=>(ρ.loc l).map fun r=> .func (.yield r.blk) #[] #[]
  | .iface t v=>(d6 ρ v).map fun u=> .iface t u
  | .agg cs=>(i8 ρ cs).bind fun vs=>if vs.all Value.oneCell' then some (.agg vs.toArray) else none
  | .tuple vs=>(i8 ρ vs).map fun us=> .tuple us.toArray
  | .sym i=>if a1T i (ρ.sym i) then some (ρ.sym i) else none
  | .bnd f first=>(i8 ρ first).map fun vs=> .func (.func f) vs.toArray #[]
  | .txt l=>(i8 ρ l).bind fun vs=>(bytesOf vs).map fun s=> .string ⟨s.toArray⟩
def i8(ρ:Ren):List AV→Option (List Value)
  | [] =>some []
  |a::l=>(d6 ρ a).bind fun v=>(i8 ρ l).map fun vs=>v::vs
end
mutual
theorem K5{ρ ρ':Ren}(h:ρ.le ρ'):∀(x:AV) (v:Value),d6 ρ x=some v→d6 ρ' x=some v
  | .n _,_,e| .y _,_,e| .b _,_,e| .p _,_,e=>by simpa[d6] using e
  | .sym i,v,e=>by rw[d6,h.2];simpa[d6] using e
  | .ptr b off,v,e=>by
    simp only[d6,Option.map_eq_some_iff] at e⊢
    obtain⟨r,hr,e⟩:=e;exact⟨r,h.1 _ _ hr,e⟩
  | .slice b off len cap lim,v,e=>by
    simp only[d6,Option.map_eq_some_iff] at e⊢
    obtain⟨r,hr,e⟩:=e;exact⟨r,h.1 _ _ hr,e⟩
  | .map b,v,e=>by
    simp only[d6,Option.map_eq_some_iff] at e⊢
    obtain⟨r,hr,e⟩:=e;exact⟨r,h.1 _ _ hr,e⟩
  | .sliceE b off adv,v,e=>by
    simp only[d6,Option.map_eq_some_iff] at e⊢
    obtain⟨r,hr,e⟩:=e;exact⟨r,h.1 _ _ hr,e⟩
  | .yield b,v,e=>by
    simp only[d6,Option.map_eq_some_iff] at e⊢
    obtain⟨r,hr,e⟩:=e;exact⟨r,h.1 _ _ hr,e⟩
  | .func f caps,v,e=>by
    simp only[d6,Option.map_eq_some_iff] at e⊢
    obtain⟨r,hr,e⟩:=e;exact⟨r,P2 h caps r hr,e⟩
  | .iface t x,v,e=>by
    simp only[d6,Option.map_eq_some_iff] at e⊢
    obtain⟨r,hr,e⟩:=e;exact⟨r,K5 h x r hr,e⟩
  | .bnd f first,v,e=>by
    simp only[d6,Option.map_eq_some_iff] at e⊢
    obtain⟨r,hr,e⟩:=e;exact⟨r,P2 h first r hr,e⟩
  | .txt l,v,e=>by
    simp only[d6,Option.bind_eq_some_iff] at e⊢
    obtain⟨r,hr,e⟩:=e;exact⟨r,P2 h l r hr,e⟩
  | .agg cs,v,e=>by
    simp only[d6,Option.bind_eq_some_iff] at e⊢
    obtain⟨r,hr,e⟩:=e;exact⟨r,P2 h cs r hr,e⟩
  | .tuple vs,v,e=>by
    simp only[d6,Option.map_eq_some_iff] at e⊢
    obtain⟨r,hr,e⟩:=e;exact⟨r,P2 h vs r hr,e⟩
theorem P2{ρ ρ':Ren}(h:ρ.le ρ'):∀(l:List AV) (vs:List Value),i8 ρ l=some vs→i8 ρ' l=some vs
  | [],vs,e=>by simpa[i8] using e
  | x::l,vs,e=>by
    simp only[i8,Option.bind_eq_some_iff,Option.map_eq_some_iff] at e⊢
    obtain⟨v,hv,us,hus,e⟩:=e
    exact⟨v,K5 h x v hv,us,P2 h l us hus,e⟩
end
theorem o0(ρ:Ren):i8 ρ [] =some [] :=by simp[i8]
theorem o9{ρ:Ren}{x:AV}{l:List AV}{vs:List Value}:i8 ρ (x::l)=some vs↔∃v us,d6 ρ x=some v∧i8 ρ l=some us∧vs=v::us:=by
  simp only[i8,Option.bind_eq_some_iff,Option.map_eq_some_iff]
  constructor
  · rintro⟨v,hv,us,hus,rfl⟩;exact⟨v,us,hv,hus,rfl⟩
  · rintro⟨v,us,hv,hus,rfl⟩;exact⟨v,hv,us,hus,rfl⟩
theorem I0{ρ:Ren}:∀{l:List AV} {vs:List Value},i8 ρ l=some vs→vs.length=l.length
  | [],vs,h=>by rw[o0] at h;cases h;rfl
  | x::l,vs,h=>by
    obtain⟨v,us,_,hus,rfl⟩:=o9.1 h
    simp[I0 hus]
theorem M7{ρ:Ren}:∀{l m:List AV} {us vs:List Value},i8 ρ l=some us→i8 ρ m=some vs→i8 ρ (l++m)=some (us++vs)
  | [],m,us,vs,h,k=>by rw[o0] at h;cases h;simpa using k
  | x::l,m,us,vs,h,k=>by
    obtain⟨v,us,hv,hus,rfl⟩:=o9.1 h
    exact o9.2 ⟨v,us++vs,hv,M7 hus k,rfl⟩
theorem S9{ρ:Ren}:∀{l:List AV} {vs:List Value},i8 ρ l=some vs→∀(i:Nat) (x:AV),l[i]? =some x→∃v,vs[i]? =some v∧d6 ρ x=some v
  | [],vs,h,i,x,e=>by simp at e
  | a::l,vs,h,i,x,e=>by
    obtain⟨v,us,hv,hus,rfl⟩:=o9.1 h
    cases i with
    |zero=>simp at e;subst e;exact⟨v,rfl,hv⟩
    |succ i=>simp at e⊢;exact S9 hus i x e
theorem a8H{ρ:Ren}:∀{l:List AV} {vs:List Value},l.length=vs.length→(∀i (h:i<l.length) (h':i<vs.length),d6 ρ l[i] =some vs[i])→i8 ρ l=some vs
  | [],[],_,_=>o0 ρ
  |a::l,v::vs,hl,h=>o9.2 ⟨v,vs,h 0 (by simp) (by simp),a8H (by simpa using hl) (fun i hi hi'=>by have:=h (i+1) (by simpa using hi) (by simpa using hi');simpa using this),rfl⟩
  | [],_::_,hl,_=>by simp at hl
  |_::_,[],hl,_=>by simp at hl
theorem a88{ρ:Ren}:∀(n:Nat) {l:List AV} {vs:List Value},i8 ρ l=some vs→i8 ρ (l.take n)=some (vs.take n)
  |0,l,vs,_=>by simp[o0]
  |n+1,[],vs,h=>by rw[o0] at h;cases h;simp[o0]
  | n+1,a::l,vs,h=>by
    obtain⟨v,us,hv,hus,rfl⟩:=o9.1 h
    exact o9.2 ⟨v,us.take n,hv,a88 n hus,rfl⟩
theorem a86{ρ:Ren}:∀(n:Nat) {l:List AV} {vs:List Value},i8 ρ l=some vs→i8 ρ (l.drop n)=some (vs.drop n)
  |0,l,vs,h=>by simpa using h
  |n+1,[],vs,h=>by rw[o0] at h;cases h;simp[o0]
  | n+1,a::l,vs,h=>by
    obtain⟨v,us,hv,hus,rfl⟩:=o9.1 h
    simpa using a86 n hus
theorem M9(ρ:Ren)(v:Value)(h:v.oneCell'=true):d6 ρ (cv1 v)=some v:=by
  unfold cv1
  split<;>simp_all [d6]
theorem a2s(ρ:Ren):∀(l:List Value),l.all Value.oneCell'=true→i8 ρ (l.map cv1)=some l
  | [],_=>o0 ρ
  | v::l,h=>by
    simp only[List.all_cons,Bool.and_eq_true] at h
    exact o9.2 ⟨v,l,M9 ρ v h.1,a2s ρ l h.2,rfl⟩
theorem b0g(ρ:Ren)(v:Value)(h:okV v=true):d6 ρ (cv v)=some v:=by
  unfold cv
  split
  · rename_i cs
    simp only[okV] at h
    rw[d6,a2s ρ _ (by simpa using h)]
    simp only[Option.bind_some]
    rw[if_pos (by simpa using h)]
  · rename_i vs
    simp only[okV] at h
    rw[d6,a2s ρ _ (by simpa using h)]
    simp
  · rename_i h1 h2
    exact M9 ρ v (by cases v<;>first|rfl|exact(h1 _ rfl).elim|exact(h2 _ rfl).elim)
theorem G0(ρ:Ren)(k:IntKind)(i:Int):d6 ρ (ofI k i)=some (.int k i):=M9 ρ _ rfl
theorem f7U{i:Nat}{v:Value}(h:a1T i v=true):v.oneCell'=true:=by
  cases v<;>first
    |rfl
    |exact absurd h (by unfold a1T;split<;>first|simp_all|(rename_i h0;cases h0))
theorem a9u{ρ:Ren}{l:List AV}{v:Value}(h:d6 ρ (.txt l)=some v):∃vs s,i8 ρ l=some vs∧bytesOf vs=some s∧v= .string ⟨s.toArray⟩:=by
  simp only[d6,Option.bind_eq_some_iff,Option.map_eq_some_iff] at h
  obtain⟨vs,h1,s,h2,h3⟩:=h
  exact⟨vs,s,h1,h2,h3.symm⟩
theorem a9C{ρ:Ren}{i:Nat}{v:Value}(h:d6 ρ (.sym i)=some v):a1T i v=true∧v=ρ.sym i:=by
  simp only[d6] at h
  split at h
  · cases h;exact⟨by assumption,rfl⟩
  · cases h
theorem a8V{ρ:Ren}{x:AV}{v:Value}{cs:List AV}(hx:d6 ρ x=some v)(h:C1 x=some cs):
    i8 ρ cs=some v.cells.toList∧v.cells.toList.all Value.oneCell'=true:=by
  cases x<;>simp only[C1,elAgg,elTup,Option.some.injEq,reduceCtorEq] at h<;>subst h
  case agg l=>
    simp only[d6,Option.bind_eq_some_iff] at hx
    obtain⟨vs,hvs,e⟩:=hx
    split at e
    · rename_i hall;cases e;exact⟨by simpa[Value.cells] using hvs,by simpa[Value.cells] using hall⟩
    · cases e
  all_goals
    have key:v.oneCell'=true:=by
      first
        |exact f7U (a9C hx).1
        |(obtain⟨_,_,_,_,rfl⟩:=a9u hx;rfl)
        | (simp only[d6,Option.map_eq_some_iff,Option.some.injEq] at hx
           first
             |(subst hx;rfl)
             |(split at hx<;>simp_all)
             |(obtain⟨_,_,rfl⟩:=hx;rfl))
    have hc:v.cells= #[v] :=by cases v<;>simp_all [Value.cells,Value.oneCell']
    rw[hc]
    exact⟨o9.2 ⟨v,[],hx,o0 ρ,rfl⟩,by simp[key]⟩
end Go.Am
