import Derived.Calls
import Derived.Laws.Sem
import Derived.Orders
/- The abstract machine: definitions. -/
namespace Go.Am
open Go
inductive Tr(α:Type) where
 |leaf
 |node (l:Tr α) (v:Option α) (r:Tr α)
noncomputable section
def bc{β:Type}(c:Bool)(t e:β):β:=Bool.rec (motive:=fun _=>β) e t c
def fc{β:Type}(n:Nat)(k:Nat→β):β:=Nat.rec (motive:=fun _=>β) (k (nat_lit 0)) (fun m _=>k (Nat.succ m)) n
def ob{α β:Type}(x:Option α)(k:α→Option β):Option β:=Option.rec (motive:=fun _=>Option β) none k x
def a3Z(f:Nat):Nat→List Bool:=
 Nat.rec (motive:=fun _=>Nat→List Bool) (fun _=> [])
  (fun _ ih n=>bc (Nat.beq n (nat_lit 0)) [] (bc (Nat.beq (Nat.mod n (nat_lit 2)) (nat_lit 1)) (true::ih (Nat.div n (nat_lit 2))) (false::ih (Nat.sub (Nat.div n (nat_lit 2)) (nat_lit 1))))) f
def pth(n:Nat):List Bool:=a3Z n n
def A7{α:Type}(p:List Bool):Tr α→Option α:=
 List.rec (motive:=fun _=>Tr α→Option α) (fun t=>Tr.rec (motive:=fun _=>Option α) none (fun _ v _ _ _=>v) t)
  (fun b _ ih t=>Tr.rec (motive:=fun _=>Option α) none (fun l _ r _ _=>Bool.rec (motive:=fun _=>Option α) (ih r) (ih l) b) t) p
def E1{α:Type}(x:α)(p:List Bool):Tr α→Tr α:=
 List.rec (motive:=fun _=>Tr α→Tr α) (fun t=>Tr.rec (motive:=fun _=>Tr α) (.node .leaf (some x) .leaf) (fun l _ r _ _=> .node l (some x) r) t)
  (fun b _ ih t=>Tr.rec (motive:=fun _=>Tr α) (Bool.rec (motive:=fun _=>Tr α) (.node .leaf none (ih .leaf)) (.node (ih .leaf) none .leaf) b)
   (fun l v r _ _=>Bool.rec (motive:=fun _=>Tr α) (.node l v (ih r)) (.node (ih l) v r) b) t) p
def v8{α:Type}(l:List α):Nat→Tr α→Tr α:=
 List.rec (motive:=fun _=>Nat→Tr α→Tr α) (fun _ t=>t) (fun v _ ih i t=>fc (Nat.succ i) fun j=>ih j (E1 v (pth i) t)) l
inductive AV where
 |n (a:Nat)
 |y (a:Nat)
 |b (c:Bool)
 |p (v:Value)
 |ptr (b off:Nat)
 |slice (b off len cap:Nat) (lim:Bool)
 |sliceE (b off adv:Nat)
 |map (b:Nat)
 |func (f:FuncId) (caps:List AV)
 |yield (l:Nat)
 |iface (t:TypeId) (v:AV)
 |agg (cs:List AV)
 |tuple (vs:List AV)
 |sym (i:Nat)
 |bnd (f:FuncId) (first:List AV)
 |txt (l:List AV)
def AV.undef:AV:= .tuple []
section
variable {β:Type}
def elN(d:β)(k:Nat→β)(x:AV):β:=AV.casesOn x k (fun _=>d) (fun _=>d) (fun _=>d) (fun _ _=>d) (fun _ _ _ _ _=>d) (fun _ _ _=>d) (fun _=>d) (fun _ _=>d) (fun _=>d) (fun _ _=>d) (fun _=>d) (fun _=>d) (fun _=>d) (fun _ _=>d) (fun _=>d)
def elB(d:β)(k:Bool→β)(x:AV):β:=AV.casesOn x (fun _=>d) (fun _=>d) k (fun _=>d) (fun _ _=>d) (fun _ _ _ _ _=>d) (fun _ _ _=>d) (fun _=>d) (fun _ _=>d) (fun _=>d) (fun _ _=>d) (fun _=>d) (fun _=>d) (fun _=>d) (fun _ _=>d) (fun _=>d)
def elPtr(d:β)(k:Nat→Nat→β)(x:AV):β:=AV.casesOn x (fun _=>d) (fun _=>d) (fun _=>d) (fun _=>d) k (fun _ _ _ _ _=>d) (fun _ _ _=>d) (fun _=>d) (fun _ _=>d) (fun _=>d) (fun _ _=>d) (fun _=>d) (fun _=>d) (fun _=>d) (fun _ _=>d) (fun _=>d)
def elSl(d:β)(k:Nat→Nat→Nat→Nat→Bool→β)(x:AV):β:=AV.casesOn x (fun _=>d) (fun _=>d) (fun _=>d) (fun _=>d) (fun _ _=>d) k (fun _ _ _=>d) (fun _=>d) (fun _ _=>d) (fun _=>d) (fun _ _=>d) (fun _=>d) (fun _=>d) (fun _=>d) (fun _ _=>d) (fun _=>d)
def a0b(d:β)(k:Nat→β)(x:AV):β:=AV.casesOn x (fun _=>d) (fun _=>d) (fun _=>d) (fun _=>d) (fun _ _=>d) (fun _ _ _ _ _=>d) (fun _ _ _=>d) k (fun _ _=>d) (fun _=>d) (fun _ _=>d) (fun _=>d) (fun _=>d) (fun _=>d) (fun _ _=>d) (fun _=>d)
def elFunc(d:β)(k:FuncId→List AV→β)(x:AV):β:=AV.casesOn x (fun _=>d) (fun _=>d) (fun _=>d) (fun _=>d) (fun _ _=>d) (fun _ _ _ _ _=>d) (fun _ _ _=>d) (fun _=>d) k (fun _=>d) (fun _ _=>d) (fun _=>d) (fun _=>d) (fun _=>d) (fun _ _=>d) (fun _=>d)
def c95(d:β)(k:Nat→β)(x:AV):β:=AV.casesOn x (fun _=>d) (fun _=>d) (fun _=>d) (fun _=>d) (fun _ _=>d) (fun _ _ _ _ _=>d) (fun _ _ _=>d) (fun _=>d) (fun _ _=>d) k (fun _ _=>d) (fun _=>d) (fun _=>d) (fun _=>d) (fun _ _=>d) (fun _=>d)
def elBnd(d:β)(k:FuncId→List AV→β)(x:AV):β:=AV.casesOn x (fun _=>d) (fun _=>d) (fun _=>d) (fun _=>d) (fun _ _=>d) (fun _ _ _ _ _=>d) (fun _ _ _=>d) (fun _=>d) (fun _ _=>d) (fun _=>d) (fun _ _=>d) (fun _=>d) (fun _=>d) (fun _=>d) k (fun _=>d)
def elAgg(d:β)(k:List AV→β)(x:AV):β:=AV.casesOn x (fun _=>d) (fun _=>d) (fun _=>d) (fun _=>d) (fun _ _=>d) (fun _ _ _ _ _=>d) (fun _ _ _=>d) (fun _=>d) (fun _ _=>d) (fun _=>d) (fun _ _=>d) k (fun _=>d) (fun _=>d) (fun _ _=>d) (fun _=>d)
def elTup(d:β)(k:List AV→β)(x:AV):β:=AV.casesOn x (fun _=>d) (fun _=>d) (fun _=>d) (fun _=>d) (fun _ _=>d) (fun _ _ _ _ _=>d) (fun _ _ _=>d) (fun _=>d) (fun _ _=>d) (fun _=>d) (fun _ _=>d) (fun _=>d) k (fun _=>d) (fun _ _=>d) (fun _=>d)
end
def cv1:Value→AV
 | .int .i64 (.ofNat a)=> .n a
 | .int .u8 (.ofNat a)=> .y a
 | .bool c=> .b c
 |v=> .p v
def cv:Value→AV
 | .agg cs=> .agg (cs.toList.map cv1)
 | .tuple vs=> .tuple (vs.toList.map cv1)
 |v=>cv1 v
def okV:Value→Bool
 | .agg cs=>cs.toList.all fun v=>v.oneCell'
 | .tuple vs=>vs.toList.all fun v=>v.oneCell'
 |_=>true
def toI:AV→Option (IntKind×Int)
 | .n a=>some (.i64,.ofNat a)
 | .y a=>some (.u8,.ofNat a)
 | .p (.int k i)=>some (k,i)
 |_=>none
def ofI(k:IntKind)(i:Int):AV:=cv1 (.int k i)
def toS:AV→Option ByteArray
 | .p (.string s)=>some s
 |_=>none
def C1(x:AV):Option (List AV):=elAgg (elTup (some [x]) (fun _=>none) x) some x
structure Cel where
 elem:TypeId
 n:Nat
 cs:Tr AV
 zero:List AV
 mv:Option Nat
 dirty:Bool
 exact:Bool
 ro:Bool
structure ALoop where
 st:Nat
 pend:Option Code
 fr:Tr AV
 params:List Nat
 assign:Code
 body:Code
 dfr:Nat
abbrev St2:=Option (List Nat×Nat)
inductive OB where
 |map (es:List (AV×AV)) (st:St2)
 |loop (L:ALoop)
 |dfr (op:Bool)
 |iter (self:Nat) (b:Option Nat) (since:Nat) (seen:List Nat) (last:Nat)
 |sit (self:Nat) (s:ByteArray) (pos:Nat)
inductive Blk where
 |cells (c:Cel)
 |obj (o:OB)
structure M where
 tab:Tr Blk
 next:Nat
abbrev R:=Option (AV×M)
abbrev Fr:=Tr AV
structure St where
 fr:Fr
 m:M
 ds:List Nat
 ar:Option Nat
inductive X where
 |normal
 |exit (id:Nat)
 |goto (l:Nat)
 |ret
def U3(zs:List AV)(i:Nat):AV:=
 List.rec (motive:=fun _=>AV) AV.undef (fun z t _=>List.rec (motive:=fun _=>AV) z (fun _ _ _=>zs.getD (i % zs.length) AV.undef) t) zs
def Cel.rd(c:Cel)(i:Nat):AV:=Option.rec (motive:=fun _=>AV) (U3 c.zero i) (fun v=>v) (A7 (pth i) c.cs)
def M.get(m:M)(b:Nat):Option Blk:=A7 (pth b) m.tab
def M.cel(m:M)(b:Nat):Option Cel:=ob (m.get b) fun x=>Blk.casesOn x some (fun _=>none)
def M.put(m:M)(b:Nat)(x:Blk):M:=⟨E1 x (pth b) m.tab,m.next⟩
def M.new(m:M)(x:Blk):M:=fc (Nat.succ m.next) fun nx=>⟨E1 x (pth m.next) m.tab,nx⟩
def M.clean(m:M):Nat→Nat→Bool
 |0,_=>false
 |n+1,b=>match m.cel b with
  |some c=> !c.dirty&&(match c.mv with|none=>true|some h=>M.clean m n h)
  |none=>false
def M.readable(m:M)(c:Cel):Bool:=Option.rec (motive:=fun _=>Bool) true (fun h=>m.clean 100000 h) c.mv
def rdL(c:Cel)(n:Nat):Nat→List AV:=Nat.rec (motive:=fun _=>Nat→List AV) (fun _=> []) (fun _ ih i=>c.rd i::fc (Nat.succ i) ih) n
def M.rdN(m:M)(b i n:Nat):Option (List AV):=ob (m.cel b) fun c=>bc (Nat.ble (Nat.add i n) c.n&&m.readable c) (some (rdL c n i)) none
def M.rd(m:M)(b i:Nat):Option AV:=ob (m.cel b) fun c=>bc (Nat.ble (Nat.succ i) c.n&&m.readable c) (some (c.rd i)) none
def M.wr(m:M)(b i:Nat)(vs:List AV):Option M:=ob (m.cel b) fun c=>
 bc (Nat.ble (Nat.add i vs.length) c.n&&(c.mv.isNone&& !c.ro)) (some (m.put b (.cells ⟨c.elem,c.n,v8 vs i c.cs,c.zero,none,true,c.exact,c.ro⟩))) none
def tsize(P:Program)(t:TypeId):Option Nat:=(P.info? t).map (·.size)
def N9(P:Program)(t:TypeId):Option Nat:=(P.info? t).map (·.bytes)
def E8(P:Program)(t:TypeId):Option (List AV):=(P.info? t).bind fun i=>i.zero.bind fun z=>if z.cells.toList.all Value.oneCell'&&Nat.beq z.cells.size i.size then some (z.cells.toList.map cv1) else none
def A8(P:Program)(t:TypeId):Option Bool:=(P.underlying t).map fun d=>match d with| .struct _| .array .. =>true|_=>false
def F6(P:Program)(t:TypeId):Option TypeId:=match P.underlying t with|some (.slice e)=>some e|_=>none
def Z4(P:Program)(t:TypeId)(f:Nat):Option Field:=match P.underlying t with|some (.struct fs)=>fs[f]?|_=>none
inductive RO where
 |tmp (p:List Bool)
 |cst (v:AV)
def E9(p:List Bool)(fr:Fr):AV:=Option.rec (motive:=fun _=>AV) AV.undef (fun v=>v) (A7 p fr)
def ev(x:RO)(fr:Fr):AV:=RO.rec (motive:=fun _=>AV) (fun p=>Option.rec (motive:=fun _=>AV) AV.undef (fun v=>v) (A7 p fr)) (fun v=>v) x
def cO:Operand→RO
 | .tmp t=> .tmp (pth t)
 | .const v=> .cst (cv v)
 | .global g=> .cst (.p (.pointer (some ⟨g,0,none⟩)))
 | .func g=> .cst (.func g [])
def cOl:List Operand→List RO
 | [] => []
 |x::l=>cO x::cOl l
def evs(l:List RO)(fr:Fr):List AV:=List.rec (motive:=fun _=>List AV) [] (fun x _ ih=>ev x fr::ih) l
def evo(x:Option RO)(fr:Fr):Option AV:=Option.rec (motive:=fun _=>Option AV) none (fun x=>some (ev x fr)) x
def rt(m:M)(x:AV):R:=some (x,m)
def rto(m:M)(x:Option AV):R:=ob x fun v=>some (v,m)
def rtb(m:M)(c:Bool):R:=bc c (some (.b true,m)) (some (.b false,m))
def F4(op:BinOp)(k:IntKind)(a b:Int):Option AV:=
 match op with
 | .add=>some (ofI k (k.wrap (a+b)))
 | .sub=>some (ofI k (k.wrap (a-b)))
 | .mul=>some (ofI k (k.wrap (a*b)))
 | .quo=>if b=0 then none else some (ofI k (k.wrap (a.tdiv b)))
 | .rem=>if b=0 then none else some (ofI k (a.tmod b))
 | .and=>some (ofI k (k.wrap (BitVec.ofInt k.bits a&&&BitVec.ofInt k.bits b).toNat))
 | .or=>some (ofI k (k.wrap (BitVec.ofInt k.bits a|||BitVec.ofInt k.bits b).toNat))
 | .xor=>some (ofI k (k.wrap (BitVec.ofInt k.bits a^^^BitVec.ofInt k.bits b).toNat))
 | .andNot=>some (ofI k (k.wrap (BitVec.ofInt k.bits a&&& ~~~BitVec.ofInt k.bits b).toNat))
 | .eql=>some (.b (a==b))
 | .neq=>some (.b (a !=b))
 | .lss=>some (.b (decide (a<b)))
 | .leq=>some (.b (decide (a≤b)))
 | .gtr=>some (.b (decide (a>b)))
 | .geq=>some (.b (decide (a≥b)))
 |_=>none
def a7C(op:BinOp)(k:IntKind)(a b:Int):Option AV:=
 if b<0 then none else
 match op with
 | .shl=>some (ofI k (k.wrap (a*2^min b.toNat k.bits)))
 | .shr=>some (ofI k (a.fdiv (2^min b.toNat k.bits)))
 |_=>none
def a3e(op:BinOp)(k:IntKind)(a:Int)(k':IntKind)(b:Int):Option AV:=
 match op with
 | .shl| .shr=>a7C op k a b
 |_=>if k=k' then F4 op k a b else none
def F8:List UInt8→List UInt8→Bool
 | [],[] =>true
 |a::l,b::m=>Nat.beq a.toNat b.toNat&&F8 l m
 |_,_=>false
def u6:List UInt8→List UInt8→Bool
 |_,[] =>false
 | [],_::_=>true
 |a::l,b::m=>Nat.ble (Nat.succ a.toNat) b.toNat||(Nat.beq a.toNat b.toNat&&u6 l m)
def a7i(op:BinOp)(a b:ByteArray):Option AV:=
 match op with
 | .add=>bc (Nat.ble (a.data.size+b.data.size) 9223372036854775807) (some (.p (.string ⟨(a.data.toList++b.data.toList).toArray⟩))) none
 | .eql=>some (.b (F8 a.data.toList b.data.toList))
 | .neq=>some (.b (!F8 a.data.toList b.data.toList))
 | .lss=>some (.b (u6 a.data.toList b.data.toList))
 | .leq=>some (.b (u6 a.data.toList b.data.toList||F8 a.data.toList b.data.toList))
 | .gtr=>some (.b (!(u6 a.data.toList b.data.toList||F8 a.data.toList b.data.toList)))
 | .geq=>some (.b (!u6 a.data.toList b.data.toList))
 |_=>none
def R3(P:Program)(d:Option TypeDesc)(x y:AV):Option Bool:=
 match d with
 |some .bool=>match x,y with
  | .b a,.b b=>some (a==b)
  |_,_=>none
 |some (.pointer e)=>match x,y with
  | .p (.pointer none),.p (.pointer none)=>some true
  | .p (.pointer none),.ptr _ _=>some false
  | .ptr _ _,.p (.pointer none)=>some false
  | .ptr b i,.ptr c j=>match tsize P e with
   |some n=>bc (!Nat.beq n 0&&Nat.beq b c) (some (Nat.beq i j)) none
   |none=>none
  |_,_=>none
 |some (.slice _)=>match x,y with
  | .p (.slice none _ _),.p (.slice none _ _)=>some true
  | .p (.slice none _ _),.slice .. =>some false
  | .slice ..,.p (.slice none _ _)=>some false
  | .p (.slice none _ _),.sliceE .. =>some false
  | .sliceE ..,.p (.slice none _ _)=>some false
  |_,_=>none
 |some (.map _ _)=>match x,y with
  | .p (.map none),.p (.map none)=>some true
  | .p (.map none),.map _=>some false
  | .map _,.p (.map none)=>some false
  |_,_=>none
 |some (.func ..)=>match x,y with
  | .p .nilFunc,.p .nilFunc=>some true
  | .p .nilFunc,.func .. =>some false
  | .func ..,.p .nilFunc=>some false
  |_,_=>none
 |_=>none
def a2R(P:Program)(lv:TypeId→Nat→Option (List (Nat×Nat)))(s0 off:Nat):List Field→Option (List (Nat×Nat))
 | [] =>some []
 |f::fl=>if f.name= "_" then a2R P lv s0 off fl else match A8 P f.type,tsize P f.type with
  |some u,some sz=>bc (Nat.ble (f.offset+sz) s0&&(u||Nat.beq sz 1)) (ob (lv f.type (off+f.offset)) fun a=>ob (a2R P lv s0 off fl) fun b=>some (a++b)) none
  |_,_=>none
def a5d(lv:TypeId→Nat→Option (List (Nat×Nat)))(el:TypeId)(sz s0 off:Nat):Nat→Nat→Option (List (Nat×Nat))
 |0,_=>some []
 |m+1,i=>bc (Nat.ble (i*sz+sz) s0) (ob (lv el (off+i*sz)) fun a=>ob (a5d lv el sz s0 off m (i+1)) fun b=>some (a++b)) none
def Y6(P:Program):Nat→TypeId→Nat→Option (List (Nat×Nat))
 |0,_,_=>none
 |n+1,t,off=>match P.underlying t with
  |some (.int _)=>some [(off,0)]
  |some .string=>some [(off,1)]
  |some .bool=>some [(off,2)]
  |some (.complex _)=>some [(off,3)]
  |some (.struct fs)=>ob (tsize P t) fun s0=>bc (!P.stoodInHeld t) (a2R P (Y6 P n) s0 off fs.toList) none
  |some (.array len el)=>ob (tsize P t) fun s0=>match A8 P el,tsize P el with
   |some u,some sz=>bc (u||Nat.beq sz 1) (a5d (Y6 P n) el sz s0 off len 0) none
   |_,_=>none
  |_=>none
def ceq(k:Nat)(x y:AV):Option Bool:=match k with
 |0=>match toI x,toI y with
  |some (k,a),some (k',b)=>if k=k' then some (decide (a=b)) else none
  |_,_=>none
 |1=>match toS x,toS y with
  |some a,some b=>some (F8 a.data.toList b.data.toList)
  |_,_=>none
 |2=>elB none (fun a=>elB none (fun b=>some (a==b)) y) x
 |3=>match x,y with
  | .p (.complex k a b),.p (.complex k' c d)=>if k=k' then some (Op.floatEq k a c&&Op.floatEq k b d) else none
  |_,_=>none
 |_=>none
def b33(xs ys:List AV):List (Nat×Nat)→Option Bool
 | [] =>some true
 |q::l=>ob xs[q.1]? fun u=>ob ys[q.1]? fun v=>ob (ceq q.2 u v) fun r=>ob (b33 xs ys l) fun s=>some (r&&s)
def b3u(P:Program)(t:TypeId)(x y:AV):Option Bool:=elAgg none (fun xs=>elAgg none (fun ys=>bc (!P.eqGuardType P.depth t)
 (ob (tsize P t) fun s=>bc (Nat.beq xs.length s&&(Nat.beq ys.length s&&(A8 P t==some true))) (ob (Y6 P 40 t 0) fun l=>b33 xs ys l) none) none) y) x
def a39:List AV→List AV→Bool
 | [],[] =>true
 | .y a::l,.y b::k=>Nat.beq a b&&a39 l k
 | .sym i::l,.sym j::k=>Nat.beq i j&&a39 l k
 |_,_=>false
def a7d(x y:AV):Option Bool:=match x,y with
 | .txt l,.txt k=>bc (a39 l k) (some true) none
 |_,_=>none
def b1E(op:BinOp)(x y:AV):Option Bool:=match x,y with
 | .sym i,.n a=>bc (Nat.ble a (i/4)) (match i % 4,op with
  |1,.lss|1,.leq|2,.gtr|2,.geq=>some true
  |1,.gtr|1,.geq|2,.lss|2,.leq=>some false
  |_,_=>none) none
 |_,_=>none
def a0p{α:Type}(s:Sem α):Option α:=match s with
 | .pure a=>some a
 |_=>none
def b4e(op:BinOp)(x y:AV):Option AV:=match x,y with
 | .p (.float k a),.p (.float k' b)=>bc (decide (k=k')) (match op with
  | .add| .sub| .mul| .quo=>ob (a0p (Op.floatArith op k a b)) fun v=>bc v.oneCell' (some (cv1 v)) none
  |_=>ob (a0p (Op.floatCmp op k a b)) fun v=>bc v.oneCell' (some (cv1 v)) none) none
 | .p (.complex k a b),.p (.complex k' c d)=>bc (decide (k=k')) (ob (a0p (Op.complexOp op k a b c d)) fun v=>bc v.oneCell' (some (cv1 v)) none) none
 |_,_=>none
def d8(P:Program)(op:BinOp)(t:TypeId)(x y:AV):Option AV:=
 match toI x,toI y with
 |some (k,a),some (k',b)=>a3e op k a k' b
 |_,_=>match toS x,toS y with
  |some a,some b=>a7i op a b
  |_,_=>match b4e op x y with
   |some z=>some z
   |none=>match op with
   | .eql=>(((R3 P (P.underlying t) x y).or (b3u P t x y)).or (a7d x y)).map .b
   | .neq=>(((R3 P (P.underlying t) x y).or (b3u P t x y)).or (a7d x y)).map fun c=> .b (!c)
   |op=>(b1E op x y).map .b
def unS(op:UnOp)(x:AV):Option AV:=
 match op,x with
 | .not,.b c=>some (.b (!c))
 | .neg,x=>match toI x with|some (k,n)=>some (ofI k (k.wrap (0-n)))|none=>none
 | .xor,x=>match toI x with|some (k,n)=>some (ofI k (k.wrap (BitVec.ofInt k.bits (if k.signed then-1 else k.max)^^^BitVec.ofInt k.bits n).toNat))|none=>none
 |_,_=>none
def q2(x y:RO)(fr:Fr)(slow:R)(k:Nat→Nat→R):R:=elN slow (fun a=>elN slow (fun b=>k a b) (ev y fr)) (ev x fr)
def top:Nat:=9223372036854775807
def rtn(m:M)(s:Nat)(slow:R):R:=fc s fun s=>bc (Nat.ble s (nat_lit 9223372036854775807)) (some (.n s,m)) slow
def a7M(sl:AV→AV→Option AV)(x y:RO)(fr:Fr)(m:M):R:=q2 x y fr (rto m (sl (ev x fr) (ev y fr))) fun a b=>rtn m (Nat.add a b) (rto m (sl (ev x fr) (ev y fr)))
def a7R(sl:AV→AV→Option AV)(x y:RO)(fr:Fr)(m:M):R:=q2 x y fr (rto m (sl (ev x fr) (ev y fr))) fun a b=>bc (Nat.ble b a) (rtn m (Nat.sub a b) (rto m (sl (ev x fr) (ev y fr)))) (rto m (sl (ev x fr) (ev y fr)))
def a7S(sl:AV→AV→Option AV)(x y:RO)(fr:Fr)(m:M):R:=q2 x y fr (rto m (sl (ev x fr) (ev y fr))) fun a b=>rtn m (Nat.mul a b) (rto m (sl (ev x fr) (ev y fr)))
def a7H(sl:AV→AV→Option AV)(x y:RO)(fr:Fr)(m:M):R:=q2 x y fr (rto m (sl (ev x fr) (ev y fr))) fun a b=>bc (Nat.beq b (nat_lit 0)) none (rtn m (Nat.div a b) (rto m (sl (ev x fr) (ev y fr))))
def a7v(sl:AV→AV→Option AV)(x y:RO)(fr:Fr)(m:M):R:=q2 x y fr (rto m (sl (ev x fr) (ev y fr))) fun a b=>bc (Nat.beq b (nat_lit 0)) none (rtn m (Nat.mod a b) (rto m (sl (ev x fr) (ev y fr))))
def a7I(sl:AV→AV→Option AV)(x y:RO)(fr:Fr)(m:M):R:=q2 x y fr (rto m (sl (ev x fr) (ev y fr))) fun a b=>bc (Nat.ble a (nat_lit 9223372036854775807)&&Nat.ble b (nat_lit 9223372036854775807)) (rtn m (Nat.land a b) (rto m (sl (ev x fr) (ev y fr)))) (rto m (sl (ev x fr) (ev y fr)))
def rLt(sl:AV→AV→Option AV)(x y:RO)(fr:Fr)(m:M):R:=q2 x y fr (rto m (sl (ev x fr) (ev y fr))) fun a b=>rtb m (Nat.ble (Nat.succ a) b)
def rLe(sl:AV→AV→Option AV)(x y:RO)(fr:Fr)(m:M):R:=q2 x y fr (rto m (sl (ev x fr) (ev y fr))) fun a b=>rtb m (Nat.ble a b)
def rGt(sl:AV→AV→Option AV)(x y:RO)(fr:Fr)(m:M):R:=q2 x y fr (rto m (sl (ev x fr) (ev y fr))) fun a b=>rtb m (Nat.ble (Nat.succ b) a)
def rGe(sl:AV→AV→Option AV)(x y:RO)(fr:Fr)(m:M):R:=q2 x y fr (rto m (sl (ev x fr) (ev y fr))) fun a b=>rtb m (Nat.ble b a)
def rEq(sl:AV→AV→Option AV)(x y:RO)(fr:Fr)(m:M):R:=q2 x y fr (rto m (sl (ev x fr) (ev y fr))) fun a b=>rtb m (Nat.beq a b)
def rNe(sl:AV→AV→Option AV)(x y:RO)(fr:Fr)(m:M):R:=q2 x y fr (rto m (sl (ev x fr) (ev y fr))) fun a b=>bc (Nat.beq a b) (some (.b false,m)) (some (.b true,m))
def b3e(sl:AV→AV→Option AV)(x y:RO)(fr:Fr)(m:M):R:=rto m (sl (ev x fr) (ev y fr))
def M4(neg:Bool)(sl:AV→AV→Option AV)(x y:RO)(fr:Fr)(m:M):R:=
 elPtr (rto m (sl (ev x fr) (ev y fr))) (fun b _=>elPtr (rto m (sl (ev x fr) (ev y fr))) (fun c _=>bc (Nat.beq b c) (rto m (sl (ev x fr) (ev y fr)))
  (ob (m.cel b) fun p=>ob (m.cel c) fun q=>bc (p.mv.isNone&&(p.exact&&(!p.ro&&(q.mv.isNone&&(q.exact&& !q.ro))))) (some (.b neg,m)) none)) (ev y fr)) (ev x fr)
def f2Y(e:TypeId)(x:RO)(fr:Fr)(m:M):R:=ob (C1 (ev x fr)) fun cs=>some (.ptr m.next (nat_lit 0),m.new (.cells ⟨e,cs.length,v8 cs (nat_lit 0) .leaf,[],none,false,true,false⟩))
def d9r(e n:Nat)(z:List AV)(_:Fr)(m:M):R:=some (.ptr m.next (nat_lit 0),m.new (.cells ⟨e,n,.leaf,z,none,false,true,false⟩))
def H8:List (Nat×Nat×AV)→List AV→Option (List AV)
 | [],cells=>some cells
 |(off,size,v)::rest,cells=>ob (C1 v) fun cs=>bc (Nat.beq cs.length size&&Nat.ble (off+size) cells.length) (H8 rest (cells.take off++cs++cells.drop (off+size))) none
def B4:Nat→List AV→List AV
 |0,_=> []
 |n+1,z=>z++B4 n z
def parts(place:Nat→Option (Nat×Nat)):List (Nat×Operand)→Option (List (Nat×Nat×RO))
 | [] =>some []
 |(i,x)::l=>match place i,parts place l with
  |some (off,size),some r=>some ((off,size,cO x)::r)
  |_,_=>none
def P5(ps:List (Nat×Nat×RO))(fr:Fr):List (Nat×Nat×AV):=ps.map fun q=>(q.1,q.2.1,ev q.2.2 fr)
def a3w(z:List AV)(ps:List (Nat×Nat×RO))(fr:Fr)(m:M):R:=ob (H8 (P5 ps fr) z) fun l=>some (.agg l,m)
def d2I(e len n:Nat)(z:List AV)(ps:List (Nat×Nat×RO))(fr:Fr)(m:M):R:=
 ob (H8 (P5 ps fr) (B4 len z)) fun l=>some (.slice m.next (nat_lit 0) len len false,m.new (.cells ⟨e,n,v8 l (nat_lit 0) .leaf,[],none,false,true,false⟩))
def a0a(x:RO)(fr:Fr)(m:M):R:=elPtr none (fun b off=>rto m (m.rd b off)) (ev x fr)
def Y8(n:Nat)(x:RO)(fr:Fr)(m:M):R:=elPtr none (fun b off=>ob (m.rdN b off n) fun l=>some (.agg l,m)) (ev x fr)
def e1d(n:Nat)(a x:RO)(fr:Fr)(m:M):R:=
 elPtr none (fun b off=>ob (C1 (ev x fr)) fun cs=>bc (Nat.beq cs.length n) (ob (m.wr b off cs) fun m=>some (.undef,m)) none) (ev a fr)
def a3X(x:RO)(fr:Fr)(m:M):R:=(fun x=>elPtr (elFunc (elBnd none (fun _ _=>some (x,m)) x) (fun _ _=>some (x,m)) x) (fun _ _=>some (x,m)) x) (ev x fr)
def b3j(c x y:RO)(fr:Fr)(m:M):R:=elB none (fun c=>bc c (some (ev x fr,m)) (some (ev y fr,m))) (ev c fr)
def rMv(x:RO)(fr:Fr)(m:M):R:=some (ev x fr,m)
def rFa(off:Nat)(x:RO)(fr:Fr)(m:M):R:=elPtr none (fun b o=>fc (Nat.add o off) fun o=>some (.ptr b o,m)) (ev x fr)
def a7O(off:Nat)(x:RO)(fr:Fr)(m:M):R:=elAgg none (fun cs=>rto m cs[off]?) (ev x fr)
def a61(off n:Nat)(x:RO)(fr:Fr)(m:M):R:=elAgg none (fun cs=>some (.agg ((cs.drop off).take n),m)) (ev x fr)
def a1S(x:AV):Option Nat:=elN (match toI x with|some (_,.ofNat a)=>some a|_=>none) some x
def a2i(size:Nat)(x i':RO)(fr:Fr)(m:M):R:=
 elSl none (fun b off len _ _=>ob (a1S (ev i' fr)) fun i=>bc (Nat.ble (Nat.succ i) len) (fc (Nat.add off (Nat.mul i size)) fun o=>some (.ptr b o,m)) none) (ev x fr)
def a2j(len size:Nat)(x i':RO)(fr:Fr)(m:M):R:=
 elPtr none (fun b off=>ob (a1S (ev i' fr)) fun i=>bc (Nat.ble (Nat.succ i) len) (fc (Nat.add off (Nat.mul i size)) fun o=>some (.ptr b o,m)) none) (ev x fr)
def W6(x i':RO)(fr:Fr)(m:M):R:=ob (a1S (ev i' fr)) fun i=>ob (toS (ev x fr)) fun s=>ob (s.data.toList[i]?) fun c=>some (.y c.toNat,m)
def a7P(i:Nat)(x:RO)(fr:Fr)(m:M):R:=elTup none (fun vs=>rto m vs[i]?) (ev x fr)
def rUn(op:UnOp)(x:RO)(fr:Fr)(m:M):R:=rto m (unS op (ev x fr))
def Z8(k:IntKind)(x:RO)(fr:Fr)(m:M):R:=ob (toI (ev x fr)) fun q=>some (ofI k (k.wrap q.2),m)
def a6J(k:FloatKind)(x:RO)(fr:Fr)(m:M):R:=ob (toI (ev x fr)) fun q=>some (.p (.float k (k.nearest q.2)),m)
def a2K(k:IntKind)(x:RO)(fr:Fr)(m:M):R:=match ev x fr with
 | .p (.float j a)=>ob (a0p (Conv.floatToInt j a k)) fun v=>bc v.oneCell' (some (cv1 v,m)) none
 |_=>none
def a3M(x y:RO)(fr:Fr)(m:M):R:=match ev x fr,ev y fr with
 | .p (.float k a),.p (.float k' b)=>bc (decide (k=k')) (some (.p (.complex k a b),m)) none
 |_,_=>none
def a3D(x:RO)(fr:Fr)(m:M):R:=match ev x fr with
 | .p (.complex k a _)=>some (.p (.float k a),m)
 |_=>none
def a3y(x:RO)(fr:Fr)(m:M):R:=match ev x fr with
 | .p (.complex k _ b)=>some (.p (.float k b),m)
 |_=>none
def P7:List AV→Option (List UInt8)
 | [] =>some []
 | .y a::l=>(P7 l).map (UInt8.ofNat a::·)
 |_=>none
def a4c(x:AV):Bool:=match x with
 | .y _=>true
 | .sym i=>Nat.beq (i % 4) 0
 |_=>false
def a1b(x:RO)(fr:Fr)(m:M):R:=
 elSl (match ev x fr with| .p (.slice none _ _)=>some (.p (.string ⟨#[]⟩),m)| .sliceE .. =>some (.p (.string ⟨#[]⟩),m)|_=>none)
  (fun b off len _ _=>bc (Nat.beq len 0) (some (.p (.string ⟨#[]⟩),m)) (ob (m.rdN b off len) fun l=>Option.rec (motive:=fun _=>R) (bc (l.all a4c) (some (.txt l,m)) none) (fun s=>some (.p (.string ⟨s.toArray⟩),m)) (P7 l))) (ev x fr)
def f2u(e:TypeId)(x:RO)(fr:Fr)(m:M):R:=ob (toS (ev x fr)) fun s=>fc s.data.size fun n=>
 some (.slice m.next (nat_lit 0) n n false,m.new (.cells ⟨e,n,v8 (s.data.toList.map fun c=> .y c.toNat) (nat_lit 0) .leaf,[],none,false,false,false⟩))
def f0g(ts:TypeId→Option Nat)(x:RO)(fr:Fr)(m:M):R:=elSl none (fun b _ _ _ _=>ob (m.cel b) fun c=>bc ((c.mv.isNone&& !c.ro)&&(ts c.elem).isSome) (some (ev x fr,m.put b (.cells ⟨c.elem,c.n,c.cs,c.zero,c.mv,c.dirty,false,c.ro⟩))) none) (ev x fr)
def a0X(e size bytes:Nat)(z:List AV)(l' k':RO)(fr:Fr)(m:M):R:=
 elN none (fun l=>elN none (fun c=>bc (Nat.ble l c&&(Nat.ble c 1099511627776&&Nat.ble (c*bytes) 1099511627776)) (fc (Nat.mul c size) fun n=>some (.slice m.next (nat_lit 0) l c false,m.new (.cells ⟨e,n,.leaf,z,none,false,true,false⟩))) none) (ev k' fr)) (ev l' fr)
def bnd(x:Option AV)(d top:Nat):Option Nat:=
 Option.rec (motive:=fun _=>Option Nat) (some d) (fun v=>elN none (fun n=>bc (Nat.ble n top) (some n) none) v) x
def a7N(x:RO)(lo hi:Option RO)(fr:Fr)(m:M):R:=
 ob (toS (ev x fr)) fun s=>ob (bnd (evo hi fr) s.size s.size) fun h=>ob (bnd (evo lo fr) 0 h) fun l=>some (.p (.string ⟨((s.data.toList.take h).drop l).toArray⟩),m)
def slEnd(m:M)(b off adv:Nat)(lim:Bool):R:=
 bc lim (some (.slice b off (nat_lit 0) (nat_lit 0) true,m)) (ob (m.cel b) fun c=>bc c.mv.isNone (bc c.exact (some (.slice b off (nat_lit 0) (nat_lit 0) false,m)) (some (.sliceE b off adv,m))) none)
def rSl(size:Nat)(isMx:Bool)(x:RO)(lo hi mx:Option RO)(fr:Fr)(m:M):R:=
 elSl (match ev x fr with
   | .p (.slice none 0 0)=>ob (bnd (evo mx fr) 0 0) fun _=>ob (bnd (evo hi fr) 0 0) fun _=>ob (bnd (evo lo fr) 0 0) fun _=>some (.p (.slice none 0 0),m)
   | .sliceE b off adv=>bc isMx none (ob (bnd (evo hi fr) 0 0) fun _=>ob (bnd (evo lo fr) 0 0) fun _=>some (.sliceE b off adv,m))
   |_=>none)
  (fun b off len cap lim=>ob (bnd (evo mx fr) cap cap) fun c=>ob (bnd (evo hi fr) (bc isMx 0 len) c) fun h=>ob (bnd (evo lo fr) 0 h) fun l=>bc (Nat.ble h c) (
   bc (Nat.beq c l&& !Nat.beq l 0) (fc (Nat.mul l size) fun adv=>slEnd m b off adv (lim||isMx))
   (fc (Nat.add off (Nat.mul l size)) fun o=>fc (Nat.sub h l) fun n=>fc (Nat.sub c l) fun k=>some (.slice b o n k (lim||isMx),m))) none) (ev x fr)
def a2e(n size:Nat)(x:RO)(lo hi mx:Option RO)(fr:Fr)(m:M):R:=
 elPtr none (fun b off=>ob (bnd (evo mx fr) n n) fun c=>ob (bnd (evo hi fr) (bc mx.isSome 0 n) c) fun h=>ob (bnd (evo lo fr) 0 h) fun l=>bc (Nat.ble (l+1) c&&Nat.ble h c)
  (fc (Nat.add off (Nat.mul l size)) fun o=>fc (Nat.sub h l) fun n=>fc (Nat.sub c l) fun k=>some (.slice b o n k true,m)) none) (ev x fr)
def rFn(g:FuncId)(caps:List RO)(fr:Fr)(m:M):R:=some (.func g (evs caps fr),m)
def b30(g:FuncId)(first:List RO)(fr:Fr)(m:M):R:=some (.bnd g (evs first fr),m)
def lenA(x:AV):Option Nat:=elSl (match x with| .p (.slice none 0 _)=>some 0| .p (.string s)=>some s.data.size| .sliceE .. =>some 0|_=>none) (fun _ _ n _ _=>some n) x
def E4(str:Bool)(x:AV):Option Nat:=bc str (elSl (match x with| .p (.string s)=>some s.data.size|_=>none) (fun _ _ _ _ _=>none) x) (elSl (match x with| .p (.slice _ 0 _)=>some 0| .sliceE .. =>some 0|_=>none) (fun _ _ n _ _=>some n) x)
def a7E(str:Bool)(x:RO)(fr:Fr)(m:M):R:=ob (E4 str (ev x fr)) fun n=>some (.n n,m)
def G8(m:M)(size n:Nat)(x:AV):Option (List AV):=
 elSl (match x with| .p (.slice none 0 _)=>bc (Nat.beq n 0) (some []) none| .sliceE .. =>bc (Nat.beq n 0) (some []) none| .p (.string s)=>bc (Nat.beq size 1) (some ((s.data.toList.take n).map fun c=> .y c.toNat)) none|_=>none) (fun b off _ _ _=>bc (Nat.beq n 0) (some []) (m.rdN b off (Nat.mul n size))) x
def F9(need bytes:Nat):Bool:=Nat.ble (Nat.mul need bytes) 140737488355328&&(Nat.ble need 140737488355328&&Nat.ble bytes 68719476736)
def J0(e size:Nat)(z:List AV)(m:M)(need:Nat)(cs:List AV):R:=
 fc (Nat.mul need size) fun n=>some (.slice m.next (nat_lit 0) need need false,m.new (.cells ⟨e,n,v8 cs (nat_lit 0) .leaf,z,none,false,false,false⟩))
def N7(e size:Nat)(z:List AV)(m:M)(b off n' need:Nat)(c:Cel)(old new:List AV):R:=
 fc (Nat.mul need size) fun n=>some (.slice m.next (nat_lit 0) need need false,
  (m.put b (.cells ⟨c.elem,n',c.cs,c.zero,some m.next,c.dirty|| !Nat.beq n' c.n,c.exact,c.ro⟩)).new
   (.cells ⟨e,n,bc (Nat.beq off 0) (v8 new n' c.cs) (v8 (old++new) (nat_lit 0) .leaf),bc (Nat.beq off 0) c.zero z,none,false,false,false⟩))
def H7(e size bytes:Nat)(z:List AV)(m:M)(s:AV)(k:Nat)(new:List AV):R:=
 elSl (match s with
  | .p (.slice none 0 0)=>bc (Nat.beq k 0) (some (s,m)) (bc (F9 k bytes) (J0 e size z m k new) none)
  | .sliceE b off adv=>bc (Nat.beq k 0) (some (s,m)) (bc (F9 k bytes) (ob (m.cel b) fun c=>
    bc (c.mv.isNone&&(!c.ro&&(!c.exact&&(Nat.beq c.elem e&&Nat.beq (off+adv) c.n)))) (N7 e size z m b (off+adv) c.n k c [] new) none) none)
  |_=>none)
  (fun b off len cap lim=>fc (Nat.add len k) fun need=>
   bc (Nat.ble need cap) (bc (Nat.beq k 0) (some (.slice b off need cap lim,m)) (fc (Nat.add off (Nat.mul len size)) fun at'=>ob (m.wr b at' new) fun m=>some (.slice b off need cap lim,m)))
   (bc (F9 need bytes) (ob (m.cel b) fun c=>ob (m.rdN b off (Nat.mul len size)) fun old=>
    bc (lim||(c.mv.isNone&&c.exact)) (J0 e size z m need (old++new))
     (bc (c.mv.isNone&&(!c.ro&&(Nat.beq c.elem e&&(Nat.ble len cap&&Nat.beq (off+cap*size) c.n))))
      (fc (Nat.add off (Nat.mul len size)) fun n'=>N7 e size z m b off n' need c old new) none)) none)) s
def M5(e size bytes:Nat)(z:List AV)(s x:RO)(fr:Fr)(m:M):R:=
 ob (lenA (ev x fr)) fun k=>ob (G8 m size k (ev x fr)) fun new=>H7 e size bytes z m (ev s fr) k new
def a7m(e size bytes:Nat)(z:List AV)(s x:RO)(fr:Fr)(m:M):R:=
 elN none (fun k=>bc (Nat.ble k 1099511627776&&Nat.ble (k*bytes) 281474976710656) (H7 e size bytes z m (ev s fr) k (B4 k z)) none) (ev x fr)
def isK(kd:Option IntKind)(x:AV):Bool:=match kd with
 |none=>(toS x).isSome
 |some k=>match toI x with
  |some (k',_)=>decide (k=k')
  |none=>false
def a0u(x y:AV):Bool:=match toI x,toI y with
 |some (_,a),some (_,b)=>decide (a=b)
 |_,_=>match toS x,toS y with
  |some a,some b=>F8 a.data.toList b.data.toList
  |_,_=>false
def keq(x y:AV):Bool:=elN (a0u x y) (fun a=>elN (a0u x y) (fun b=>Nat.beq a b) y) x
def D4(k:AV):Nat→List (AV×AV)→Option (Nat×AV)
 |_,[] =>none
 |i,e::es=>bc (keq k e.1) (some (i,e.2)) (D4 k (i+1) es)
def M.mapF(m:M)(b:Nat):Option (List (AV×AV)×St2):=ob (m.get b) fun x=>Blk.casesOn x (fun _=>none) (fun o=>OB.casesOn o (fun es st=>some (es,st)) (fun _=>none) (fun _=>none) (fun _ _ _ _ _=>none) (fun _ _ _=>none))
def M.map(m:M)(b:Nat):Option (List (AV×AV)):=ob (m.mapF b) fun q=>some q.1
def M.iter(m:M)(b:Nat):Option (Nat×Option Nat×Nat×List Nat×Nat):=ob (m.get b) fun x=>Blk.casesOn x (fun _=>none) (fun o=>OB.casesOn o (fun _ _=>none) (fun _=>none) (fun _=>none) (fun i b s l n=>some (i,b,s,l,n)) (fun _ _ _=>none))
def M.sit(m:M)(b:Nat):Option (Nat×ByteArray×Nat):=ob (m.get b) fun x=>Blk.casesOn x (fun _=>none) (fun o=>OB.casesOn o (fun _ _=>none) (fun _=>none) (fun _=>none) (fun _ _ _ _ _=>none) (fun i s p=>some (i,s,p)))
def mapOf(m:M)(x:AV):Option (List (AV×AV)):=a0b (match x with| .p (.map none)=>some [] |_=>none) (fun b=>m.map b) x
def Q2(kd:Option IntKind)(k:AV)(es:List (AV×AV)):Bool:=isK kd k&&es.all fun e=>isK kd e.1
def d4X(h:Option RO)(fr:Fr)(m:M):R:=ob (match evo h fr with|none=>some ()|some x=>(toI x).map fun _=>()) fun _=>some (.map m.next,m.new (.obj (.map [] (some ([],0)))))
def R5(kd:Option IntKind)(z:AV)(ok:Bool)(x k:RO)(fr:Fr)(m:M):R:=ob (mapOf m (ev x fr)) fun es=>bc (Q2 kd (ev k fr) es)
 (match D4 (ev k fr) 0 es with
  |some q=>some (bc ok (.tuple [q.2,.b true]) q.2,m)
  |none=>some (bc ok (.tuple [z,.b false]) z,m)) none
def b1C(st:St2):St2:=Option.rec (motive:=fun _=>St2) none (fun q=>some (q.1++ [q.2],Nat.succ q.2)) st
def b3n(st:St2)(i:Nat):St2:=Option.rec (motive:=fun _=>St2) none (fun q=>some (q.1.eraseIdx i,q.2)) st
def f1f(st:St2):St2:=Option.rec (motive:=fun _=>St2) none (fun q=>some ([],q.2)) st
def a0t(q:List (AV×AV)×St2)(k v:AV):OB:=match D4 k 0 q.1 with
 |some z=> .map (q.1.set z.1 (k,v)) q.2
 |none=> .map (q.1++ [(k,v)]) (b1C q.2)
def mdel(q:List (AV×AV)×St2)(k:AV):OB:=match D4 k 0 q.1 with
 |some z=> .map (q.1.eraseIdx z.1) (b3n q.2 z.1)
 |none=> .map q.1 q.2
def V5(kd:Option IntKind)(x k v:RO)(fr:Fr)(m:M):R:=a0b none (fun b=>ob (m.mapF b) fun q=>bc (Q2 kd (ev k fr) q.1) (some (AV.undef,m.put b (.obj (a0t q (ev k fr) (ev v fr))))) none) (ev x fr)
def a1V(kd:Option IntKind)(x k:RO)(fr:Fr)(m:M):R:=
 a0b (match ev x fr with| .p (.map none)=>bc (isK kd (ev k fr)) (some (AV.undef,m)) none|_=>none)
  (fun b=>ob (m.mapF b) fun q=>bc (Q2 kd (ev k fr) q.1) (some (AV.undef,m.put b (.obj (mdel q (ev k fr))))) none) (ev x fr)
def e6h(x:RO)(fr:Fr)(m:M):R:=a0b (match ev x fr with| .p (.map none)=>some (.ptr m.next (nat_lit 0),m.new (.obj (.iter m.next none 0 [] 0)))|_=>none)
  (fun b=>ob (m.mapF b) fun q=>ob q.2 fun t=>some (.ptr m.next (nat_lit 0),m.new (.obj (.iter m.next (some b) t.2 [] t.2)))) (ev x fr)
def Q8(since:Nat)(seen:List Nat)(old:Bool):List (AV×AV)→List Nat→List ((AV×AV)×Nat)
 |e::es,b::bs=>bc (!seen.any (Nat.beq b)&&(Nat.ble (Nat.succ b) since==old)) ((e,b)::Q8 since seen old es bs) (Q8 since seen old es bs)
 |_,_=> []
def a7p(seen:List Nat)(last:Nat)(bs:List Nat):Bool:= !seen.isEmpty&&(!bs.isEmpty&&bs.all (fun b=>Nat.ble last b))
def f0R(x:RO)(fr:Fr)(m:M):R:=elPtr none (fun i off=>bc (Nat.beq off 0) (ob (m.iter i) fun q=>bc (Nat.beq q.1 i) (Option.rec (motive:=fun _=>R) (some (.tuple [.b false],m))
  (fun b=>ob (m.mapF b) fun s=>ob s.2 fun t=>bc (a7p q.2.2.2.1 q.2.2.2.2 t.1) none (match Q8 q.2.2.1 q.2.2.2.1 true s.1 t.1,Q8 q.2.2.1 q.2.2.2.1 false s.1 t.1 with
   | [],[] =>some (.tuple [.b false],m)
   | [e],[] =>some (.tuple [.b true,e.1.1,e.1.2],m.put i (.obj (.iter i (some b) q.2.2.1 (q.2.2.2.1++ [e.2]) t.2)))
   |_,_=>none)) q.2.1) none) none) (ev x fr)
def a5c(x:RO)(fr:Fr)(m:M):R:=ob (toS (ev x fr)) fun s=>some (.ptr m.next (nat_lit 0),m.new (.obj (.sit m.next s 0)))
def a20(x:RO)(fr:Fr)(m:M):R:=elPtr none (fun i off=>bc (Nat.beq off 0) (ob (m.sit i) fun q=>bc (Nat.beq q.1 i) (match q.2.1.data.toList[q.2.2]? with
  |none=>some (.tuple [.b false],m)
  |some c=>bc (Nat.ble c.toNat 127) (some (.tuple [.b true,.n q.2.2,.p (.int .i32 (Int.ofNat c.toNat))],m.put i (.obj (.sit i q.2.1 (Nat.succ q.2.2))))) none) none) none) (ev x fr)
def a3C(x:RO)(fr:Fr)(m:M):R:=ob (mapOf m (ev x fr)) fun es=>some (.n es.length,m)
def f0t(x:RO)(fr:Fr)(m:M):R:=a0b (match ev x fr with| .p (.map none)=>some (AV.undef,m)|_=>none) (fun b=>ob (m.mapF b) fun q=>some (AV.undef,m.put b (.obj (.map [] (f1f q.2))))) (ev x fr)
def a3H(z:List AV)(x:RO)(fr:Fr)(m:M):R:=
 elSl (match ev x fr with| .p (.slice none _ _)=>some (AV.undef,m)| .sliceE .. =>some (AV.undef,m)|_=>none)
  (fun b off len _ _=>bc (Nat.beq len 0) (some (AV.undef,m)) (ob (m.wr b off (B4 len z)) fun m=>some (AV.undef,m))) (ev x fr)
def a34(x:AV):Option Nat:=elSl (match x with| .p (.slice none 0 _)=>some 0| .sliceE .. =>some 0|_=>none) (fun _ _ n _ _=>some n) x
def a3R(size:Nat)(d x:RO)(fr:Fr)(m:M):R:=
 ob (a34 (ev d fr)) fun dl=>ob (lenA (ev x fr)) fun xl=>fc (bc (Nat.ble xl dl) xl dl) fun n=>bc (Nat.beq n 0) (some (.n 0,m))
  (elSl none (fun b off _ _ _=>ob (G8 m size n (ev x fr)) fun cs=>ob (m.wr b off cs) fun m=>some (.n n,m)) (ev d fr))
def a2c(x y:RO)(fr:Fr)(m:M):R:=ob (toI (ev x fr)) fun a=>ob (toI (ev y fr)) fun b=>some (ofI a.1 (if b.2<a.2 then b.2 else a.2),m)
def a2g(x y:RO)(fr:Fr)(m:M):R:=ob (toI (ev x fr)) fun a=>ob (toI (ev y fr)) fun b=>some (ofI a.1 (if b.2>a.2 then b.2 else a.2),m)
def a2d(x:RO)(fr:Fr)(m:M):R:=elSl (match ev x fr with| .p (.slice none _ _)=>some (.p (.pointer none),m)|_=>none) (fun b off _ c _=>bc (Nat.beq c 0) none (some (.ptr b off,m))) (ev x fr)
def b4j(u:TypeId)(x n':RO)(fr:Fr)(m:M):R:=
 elN none (fun n=>elPtr (match ev x fr with| .p (.pointer none)=>bc (Nat.beq n 0) (some (.p (.string ⟨#[]⟩),m)) none|_=>none)
  (fun b off=>bc (Nat.beq n 0) (some (.p (.string ⟨#[]⟩),m)) (ob (m.rdN b off n) fun l=>ob (m.cel b) fun c=>bc (Nat.beq c.elem u&&(c.mv.isNone&&(!c.ro&&Nat.ble n 1099511627776))) (ob (P7 l) fun s=>
   some (.p (.string ⟨s.toArray⟩),m.put b (.cells ⟨c.elem,c.n,c.cs,c.zero,c.mv,c.dirty,c.exact,true⟩))) none)) (ev x fr)) (ev n' fr)
def a4b(x:RO)(fr:Fr)(m:M):R:=elPtr none (fun b off=>ob (m.cel b) fun c=>bc (Nat.ble (off+1) c.n&&c.mv.isNone) (some (.ptr b off,m)) none) (ev x fr)
def a3Y(u s:Nat)(x:RO)(fr:Fr)(m:M):R:=elPtr none (fun b off=>ob (m.cel b) fun c=>
 bc (Nat.beq c.elem u&&(c.exact&&(c.mv.isNone&&(Nat.beq (off % s) 0&&Nat.ble (off+s) c.n)))) (some (.ptr b off,m)) none) (ev x fr)
def a3W(x:RO)(fr:Fr)(m:M):R:=elSl (match ev x fr with| .p (.slice none _ c)=>some (.n c,m)|_=>none)
 (fun b _ _ cap lim=>bc lim (some (.n cap,m)) (ob (m.cel b) fun c=>bc (c.mv.isNone&&c.exact) (some (.n cap,m)) none)) (ev x fr)
def a7G(t:TypeId)(x:RO)(fr:Fr)(m:M):R:=some (.iface t (ev x fr),m)
def elIf(d:R)(k:TypeId→AV→R)(x:AV):R:=AV.casesOn x (fun _=>d) (fun _=>d) (fun _=>d) (fun _=>d) (fun _ _=>d) (fun _ _ _ _ _=>d) (fun _ _ _=>d) (fun _=>d) (fun _ _=>d) (fun _=>d) k (fun _=>d) (fun _=>d) (fun _=>d) (fun _ _=>d) (fun _=>d)
def a7K(t:TypeId)(ok:Bool)(x:RO)(fr:Fr)(m:M):R:=elIf none (fun u v=>bc (Nat.beq u t) (some (bc ok (.tuple [v,.b true]) v,m)) none) (ev x fr)
def g5I(_:Fr)(_:M):R:=none
abbrev SL:=AV→AV→Option AV
inductive OP where
 |none
 |mv (x:RO)
 |pick (c x y:RO)
 |alloc (e n:Nat) (z:List AV)
 |box (e:TypeId) (x:RO)
 |build (z:List AV) (ps:List (Nat×Nat×RO))
 |bslice (e len n:Nat) (z:List AV) (ps:List (Nat×Nat×RO))
 |load (x:RO)
 |loadN (n:Nat) (x:RO)
 |store (n:Nat) (a x:RO)
 |nil (x:RO)
 |slow (sl:SL) (x y:RO)
 |add (sl:SL) (x y:RO)
 |sub (sl:SL) (x y:RO)
 |mul (sl:SL) (x y:RO)
 |quo (sl:SL) (x y:RO)
 |rem (sl:SL) (x y:RO)
 |and (sl:SL) (x y:RO)
 |lt (sl:SL) (x y:RO)
 |le (sl:SL) (x y:RO)
 |gt (sl:SL) (x y:RO)
 |ge (sl:SL) (x y:RO)
 |eq (sl:SL) (x y:RO)
 |ne (sl:SL) (x y:RO)
 |eqp (neg:Bool) (sl:SL) (x y:RO)
 |un (op:UnOp) (x:RO)
 |convI (k:IntKind) (x:RO)
 |convF (k:FloatKind) (x:RO)
 |convFI (k:IntKind) (x:RO)
 |cplx (x y:RO)
 |real (x:RO)
 |imag (x:RO)
 |b2s (x:RO)
 |mksl (e size bytes:Nat) (z:List AV) (l k:RO)
 |sls (x:RO) (lo hi:Option RO)
 |sl (size:Nat) (isMx:Bool) (x:RO) (lo hi mx:Option RO)
 |sla (n size:Nat) (x:RO) (lo hi mx:Option RO)
 |fa (off:Nat) (x:RO)
 |fld (off:Nat) (x:RO)
 |fldN (off n:Nat) (x:RO)
 |iaS (size:Nat) (x i:RO)
 |iaA (len size:Nat) (x i:RO)
 |ixS (x i:RO)
 |ext (i:Nat) (x:RO)
 |fn (g:FuncId) (caps:List RO)
 |bfn (g:FuncId) (first:List RO)
 |len (str:Bool) (x:RO)
 |app (e size bytes:Nat) (z:List AV) (s x:RO)
 |min (x y:RO)
 |max (x y:RO)
 |usd (x:RO)
 |ust (u:TypeId) (x n:RO)
 |toU (x:RO)
 |frU (u s:Nat) (x:RO)
 |mkmap (h:Option RO)
 |look (kd:Option IntKind) (z:AV) (ok:Bool) (x k:RO)
 |mupd (kd:Option IntKind) (x k v:RO)
 |mdel (kd:Option IntKind) (x k:RO)
 |mlen (x:RO)
 |mclr (x:RO)
 |clrs (z:List AV) (x:RO)
 |copy (size:Nat) (d x:RO)
 |range (x:RO)
 |next (x:RO)
 |rangeS (x:RO)
 |nextS (x:RO)
 |cap (x:RO)
 |s2b (e:TypeId) (x:RO)
 |appz (e size bytes:Nat) (z:List AV) (s x:RO)
 |mark (ts:TypeId→Option Nat) (x:RO)
 |mkI (t:TypeId) (x:RO)
 |tyA (t:TypeId) (ok:Bool) (x:RO)
def run(o:OP):Fr→M→R:=OP.rec (motive:=fun _=>Fr→M→R) g5I rMv b3j d9r f2Y a3w d2I a0a Y8 e1d a3X
 b3e a7M a7R a7S a7H a7v a7I rLt rLe rGt rGe rEq rNe M4 rUn Z8 a6J a2K a3M a3D a3y a1b a0X a7N rSl a2e rFa a7O a61 a2i a2j W6 a7P rFn b30 a7E M5 a2c a2g a2d b4j a4b a3Y d4X R5 V5 a1V a3C f0t a3H a3R e6h f0R a5c a20 a3W f2u a7m f0g a7G a7K o
def a0e(P:Program)(t:TypeId):Bool:=match P.underlying t with
 |some (.pointer e)=>match tsize P e with
  |some n=> !Nat.beq n 0
  |none=>false
 |_=>false
def a2l(P:Program)(op:BinOp)(t:TypeId)(x y:RO):OP:=
 match op with
 | .add=> .add (d8 P .add t) x y
 | .sub=> .sub (d8 P .sub t) x y
 | .mul=> .mul (d8 P .mul t) x y
 | .quo=> .quo (d8 P .quo t) x y
 | .rem=> .rem (d8 P .rem t) x y
 | .and=> .and (d8 P .and t) x y
 | .lss=> .lt (d8 P .lss t) x y
 | .leq=> .le (d8 P .leq t) x y
 | .gtr=> .gt (d8 P .gtr t) x y
 | .geq=> .ge (d8 P .geq t) x y
 | .eql=>bc (a0e P t) (.eqp false (d8 P .eql t) x y) (.eq (d8 P .eql t) x y)
 | .neq=>bc (a0e P t) (.eqp true (d8 P .neq t) x y) (.ne (d8 P .neq t) x y)
 |op=> .slow (d8 P op t) x y
def T6(P:Program)(t:TypeId):Bool:=match P.underlying t with|some .string|some (.slice _)=>true|_=>false
def a0Y(P:Program)(t:TypeId):Bool:=match P.underlying t with|some .string=>true|_=>false
def H1(P:Program)(t:TypeId):Option (Option IntKind×TypeId):=match P.underlying t with
 |some (.map k e)=>match P.underlying k with
  |some (.int i)=>some (some i,e)
  |some .string=>some (none,e)
  |_=>none
 |_=>none
def tzv(P:Program)(t:TypeId):Option AV:=(P.info? t).bind fun i=>i.zero.bind fun z=>if okV z then some (cv z) else none
def a9t(P:Program)(b:Builtin)(ts:List TypeId)(args:List Operand):OP:=
 match b,args with
 | .len,[x] =>match ts with
  | [t] =>bc (T6 P t) (.len (a0Y P t) (cO x)) (match H1 P t with|some _=> .mlen (cO x)|none=> .none)
  |_=> .none
 | .delete,[x,k] =>match ts with
  |t::_=>match H1 P t with
   |some (kd,_)=> .mdel kd (cO x) (cO k)
   |none=> .none
  |_=> .none
 | .clear,[x] =>match ts with
  | [t] =>match H1 P t with
   |some _=> .mclr (cO x)
   |none=>match F6 P t with
    |some e=>match E8 P e with
     |some z=> .clrs z (cO x)
     |none=> .none
    |none=> .none
  |_=> .none
 | .copy,[d,x] =>match ts with
  |t::_=>match F6 P t with
   |some e=>match tsize P e with
    |some size=> .copy size (cO d) (cO x)
    |none=> .none
   |none=> .none
  |_=> .none
 | .append,[s,x] =>match ts with
  | [st,xt] =>match F6 P st,T6 P xt with
   |some e,true=>match tsize P e,N9 P e,E8 P e with
    |some size,some bytes,some z=> .app e size bytes z (cO s) (cO x)
    |_,_,_=> .none
   |some e,false=>match P.underlying xt,tsize P e,N9 P e,E8 P e with
    |some (.int _),some size,some bytes,some z=> .appz e size bytes z (cO s) (cO x)
    |_,_,_,_=> .none
   |_,_=> .none
  |_=> .none
 | .cap,[x] =>match ts with
  | [t] =>match F6 P t with
   |some _=> .cap (cO x)
   |none=> .none
  |_=> .none
 | .complex,[x,y] => .cplx (cO x) (cO y)
 | .real,[x] => .real (cO x)
 | .imag,[x] => .imag (cO x)
 | .min,[x,y] => .min (cO x) (cO y)
 | .max,[x,y] => .max (cO x) (cO y)
 | .unsafeSliceData,[x] => .usd (cO x)
 | .unsafeString,[x,n] =>match ts with
  | [pt,_] =>match P.underlying pt with
   |some (.pointer u)=>match tsize P u with
    |some s=>bc (Nat.beq s 1) (.ust u (cO x) (cO n)) .none
    |none=> .none
   |_=> .none
  |_=> .none
 |_,_=> .none
def cOp(P:Program)(o:Op):OP:=
 match o with
 | .move x| .assign x=> .mv (cO x)
 | .pick c a b=> .pick (cO c) (cO a) (cO b)
 | .alloc e=>match tsize P e,E8 P e with
  |some n,some z=> .alloc e n z
  |_,_=> .none
 | .box e x=> .box e (cO x)
 | .build t ps=>match E8 P t,P.underlying t with
  |some z,some (.struct fs)=>match fs.toList.all (fun f=>(tsize P f.type).isSome),parts (fun i=>(fs[i]?).bind fun fd=>(tsize P fd.type).map (fd.offset,·)) ps.toList with
   |true,some ps=> .build z ps
   |_,_=> .none
  |some z,some (.array _ e)=>match tsize P e with
   |some size=>match parts (fun i=>some (i*size,size)) ps.toList with
    |some ps=> .build z ps
    |none=> .none
   |none=> .none
  |_,_=> .none
 | .buildSlice t len ps=>match F6 P t with
  |some e=>match tsize P e,E8 P e with
   |some size,some z=>bc (Nat.ble (len*size) 16777216) (match parts (fun i=>some (i*size,size)) ps.toList with
    |some ps=> .bslice e len (len*size) z ps
    |none=> .none) .none
   |_,_=> .none
  |none=> .none
 | .load t a=>match A8 P t,tsize P t with
  |some true,some n=> .loadN n (cO a)
  |some false,some _=> .load (cO a)
  |_,_=> .none
 | .store t a x=>match tsize P t with|some n=> .store n (cO a) (cO x)|none=> .none
 | .nilCheck x=> .nil (cO x)
 | .binOp op t x y _=>a2l P op t (cO x) (cO y)
 | .unOp op _ x=> .un op (cO x)
 | .convert s d x=>match P.underlying s,P.underlying d with
  |some (.int _),some (.int k)=> .convI k (cO x)
  |some (.int _),some (.float k)=> .convF k (cO x)
  |some (.float _),some (.int k)=> .convFI k (cO x)
  |some (.slice e),some .string=>match P.underlying e with
   |some (.int .u8)=> .b2s (cO x)
   |_=> .none
  |some (.slice _),some (.slice e)=>match P.underlying e with
   |some (.int .u8)=>bc (Nat.beq s d) (.mark (tsize P) (cO x)) .none
   |_=> .none
  |some .string,some (.slice e)=>match P.underlying e,tsize P e with
   |some (.int .u8),some 1=> .s2b e (cO x)
   |_,_=> .none
  |some (.pointer t),some .unsafePointer=>match tsize P t with
   |some n=>bc (Nat.beq n 0) .none (.toU (cO x))
   |none=> .none
  |some .unsafePointer,some (.pointer u)=>match tsize P u with
   |some n=>bc (Nat.beq n 0) .none (.frU u n (cO x))
   |none=> .none
  |_,_=> .none
 | .makeSlice t l c=>match F6 P t with
  |some e=>match tsize P e,N9 P e,E8 P e with
   |some size,some bytes,some z=> .mksl e size bytes z (cO l) (cO c)
   |_,_,_=> .none
  |none=> .none
 | .slice t x lo hi mx=>match P.underlying t with
  |some .string=>match mx with
   |none=> .sls (cO x) (lo.map cO) (hi.map cO)
   |some _=> .none
  |some (.slice e)=>match tsize P e with
   |some size=>bc (!mx.isSome||hi.isSome) (.sl size mx.isSome (cO x) (lo.map cO) (hi.map cO) (mx.map cO)) .none
   |none=> .none
  |some (.array n e)=>match tsize P e with
   |some size=>bc (!mx.isSome||hi.isSome) (.sla n size (cO x) (lo.map cO) (hi.map cO) (mx.map cO)) .none
   |none=> .none
  |_=> .none
 | .fieldAddr s x i=>match Z4 P s i with
  |some fd=>match tsize P fd.type with
   |some n=>bc (Nat.beq n 0) .none (.fa fd.offset (cO x))
   |none=> .none
  |none=> .none
 | .field t x i=>match Z4 P t i with
  |some fd=>match A8 P fd.type,tsize P fd.type with
   |some true,some n=> .fldN fd.offset n (cO x)
   |some false,some _=> .fld fd.offset (cO x)
   |_,_=> .none
  |none=> .none
 | .indexAddr t x i=>match P.underlying t with
  |some (.slice e)=>match tsize P e with|some size=> .iaS size (cO x) (cO i)|none=> .none
  |some (.array len e)=>match tsize P e with|some size=> .iaA len size (cO x) (cO i)|none=> .none
  |_=> .none
 | .index t x i=>match P.underlying t with
  |some .string=> .ixS (cO x) (cO i)
  |_=> .none
 | .extract x i=> .ext i (cO x)
 | .makeMap t h=>match H1 P t with
  |some _=> .mkmap (h.map cO)
  |none=> .none
 | .lookup t x i ok=>match H1 P t with
  |some (kd,e)=>match tzv P e with
   |some z=> .look kd z ok (cO x) (cO i)
   |none=> .none
  |none=> .none
 | .mapUpdate t x k v| .insert t x k v=>match H1 P t with
  |some (kd,_)=> .mupd kd (cO x) (cO k) (cO v)
  |none=> .none
 | .range t x=>match H1 P t with
  |some _=> .range (cO x)
  |none=>bc (a0Y P t) (.rangeS (cO x)) .none
 | .next x str=>bc str (.nextS (cO x)) (.next (cO x))
 | .makeInterface t x=>match P.underlying t with
  |some (.interface _)=> .none
  |some _=> .mkI t (cO x)
  |none=> .none
 | .typeAssert x _ t ok=>match P.underlying t with
  |some (.interface _)=> .none
  |some _=> .tyA t ok (cO x)
  |none=> .none
 | .makeFunc (.func g) first caps=>match first.toList,caps.toList with
  | [],l=> .fn g (cOl l)
  |l,[] => .bfn g (cOl l)
  |_,_=> .none
 | .call c=>match c.callee with
  | .builtin b=>a9t P b c.argTypes.toList c.args.toList
  |_=> .none
 |_=> .none
inductive CO where
 |op (d:Option (List Bool)) (g:Option (List Bool×Bool)) (o:OP)
 |call (d:Option (List Bool)) (g:Option (List Bool×Bool)) (f:RO) (args:List RO)
def cG(ops:List Oper)(o:Oper):Option (Option (List Bool×Bool)):=
 match o.guard with
 |none=>some none
 |some (j,w)=>match(ops[j]?).bind (·.dst) with
  |some d=>some (some (pth d,w))
  |none=>none
def C3(P:Program)(ops:List Oper)(o:Oper):CO:=
 match cG ops o with
 |some g=>match o.op with
  | .call c=>match c.callee with
   | .value f=> .call (o.dst.map pth) g (cO f) (cOl c.args.toList)
   |_=> .op (o.dst.map pth) g (cOp P o.op)
  |_=> .op (o.dst.map pth) g (cOp P o.op)
 |none=> .op none none .none
def E6(P:Program)(ops:List Oper):List Oper→List CO
 | [] => []
 |o::l=>C3 P ops o::E6 P ops l
def l5(d:Option (List Bool))(v:AV)(fr:Fr):Fr:=Option.rec (motive:=fun _=>Fr) fr (fun p=>E1 v p fr) d
def J1(g:Option (List Bool×Bool))(fr:Fr):Option Bool:=
 Option.rec (motive:=fun _=>Option Bool) (some true) (fun q=>elB (elTup none (fun _=>some false) (E9 q.1 fr)) (fun c=>some (bc c q.2 (!q.2))) (E9 q.1 fr)) g
inductive Cal where
 |fn (g:FuncId)
 |yl (l:Nat)
abbrev CF:=Cal→List AV→M→R
def J8(cf:CF)(x:AV)(args:List AV)(m:M):R:=elFunc (c95 (elBnd none (fun g first=>cf (.fn g) (first++args) m) x) (fun l=>cf (.yl l) args m) x) (fun g caps=>cf (.fn g) (args++caps) m) x
def K9(d:Option (List Bool))(ih:Fr→M→Option (Fr×M))(fr:Fr)(r:R):Option (Fr×M):=
 Option.rec (motive:=fun _=>Option (Fr×M)) none (fun q=>Prod.rec (motive:=fun _=>Option (Fr×M)) (fun v m=>ih (l5 d v fr) m) q) r
def b4o(d:Option (List Bool))(g:Option (List Bool×Bool))(o:OP)(_:CF)(ih:Fr→M→Option (Fr×M))(fr:Fr)(m:M):Option (Fr×M):=
 ob (J1 g fr) fun t=>bc t (K9 d ih fr (run o fr m)) (ih (l5 d AV.undef fr) m)
def b1u(d:Option (List Bool))(g:Option (List Bool×Bool))(f:RO)(args:List RO)(cf:CF)(ih:Fr→M→Option (Fr×M))(fr:Fr)(m:M):Option (Fr×M):=
 ob (J1 g fr) fun t=>bc t (K9 d ih fr (J8 cf (ev f fr) (evs args fr) m)) (ih (l5 d AV.undef fr) m)
def B9(cf:CF)(l:List CO):Fr→M→Option (Fr×M):=
 List.rec (motive:=fun _=>Fr→M→Option (Fr×M)) (fun fr m=>some (fr,m))
  (fun co _ ih fr m=>CO.rec (motive:=fun _=>CF→(Fr→M→Option (Fr×M))→Fr→M→Option (Fr×M)) b4o b1u co cf ih fr m) l
def OP.cls(o:OP):Nat:=
 match o with
 | .load _| .loadN .. | .b2s _| .sl .. | .toU _| .frU .. | .look .. | .mlen _| .cap _| .eqp .. =>1
 | .alloc .. | .box .. | .bslice .. | .store .. | .mksl .. | .app .. | .ust .. | .mkmap _| .mupd .. | .mdel .. | .mclr _| .clrs .. | .copy .. | .range _| .next _| .rangeS _| .nextS _| .s2b .. | .appz .. | .mark .. =>2
 |_=>0
def CO.cls(co:CO):Nat:=match co with
 | .op _ _ o=>o.cls
 | .call .. =>2
def CO.dst(co:CO):Option (List Bool):=CO.rec (motive:=fun _=>Option (List Bool)) (fun d _ _=>d) (fun d _ _ _=>d) co
def H9(cf:CF)(co:CO)(fr:Fr)(m:M):R:=
 CO.rec (motive:=fun _=>R) (fun _ g o=>ob (J1 g fr) fun t=>bc t (run o fr m) (some (AV.undef,m))) (fun _ g f args=>ob (J1 g fr) fun t=>bc t (J8 cf (ev f fr) (evs args fr) m) (some (AV.undef,m))) co
structure T3 where
 fr:Fr
 m:M
 x:AV
def trO(cf:CF)(l:List CO):Fr→M→Option (List T3):=
 List.rec (motive:=fun _=>Fr→M→Option (List T3)) (fun fr m=>some [⟨fr,m,AV.undef⟩])
  (fun co _ ih fr m=>ob (H9 cf co fr m) fun q=>Prod.rec (motive:=fun _=>Option (List T3)) (fun v m'=>ob (ih (l5 co.dst v fr) m') fun T=>some (⟨fr,m,v⟩::T)) q) l
def R4(acc:List Nat)(l:List Edge):Nat:=match l with
 | [] =>0
 |e::l=>bc (Region.binds .any e) (Nat.lor (Nat.lor (Nat.shiftLeft 1 e.on) (acc.getD e.on 0)) (R4 acc l)) (R4 acc l)
def K1:List Oper→List Nat→List Nat
 | [],acc=>acc
 |o::l,acc=>K1 l (acc++ [R4 acc o.after.toList])
def a7B(d:Option Nat)(l:List Nat):Bool:=match d with
 |none=>false
 |some d=>l.any (Nat.beq d)
def b3w(x y:Option Nat):Bool:=match x,y with
 |some a,some b=>Nat.beq a b
 |_,_=>false
structure SI where
 a:Nat
 c:Nat
 d:Option Nat
 l:List Nat
def a37(P:Program)(ops:Array Oper):List Oper→List Nat→List SI
 |o::l,a::as=>⟨a,(C3 P ops.toList o).cls,o.dst,o.looksAt ops⟩::a37 P ops l as
 |_,_=> []
def a7Q(j:Nat)(x y:SI):Bool:=Nat.testBit y.a j||(!(Nat.beq x.c 2&&Nat.beq y.c 2)&&(!a7B x.d y.l&&(!b3w x.d y.d&& !a7B y.d x.l)))
def a3O(y:SI):Nat→List SI→Bool
 |_,[] =>true
 |j,x::l=>a7Q j x y&&a3O y (j+1) l
def a4Y:List SI→List SI→Bool
 |_,[] =>true
 |done,y::l=>a3O y 0 done&&a4Y (done++ [y]) l
def a3N:Nat→List Oper→Bool
 |_,[] =>true
 |i,o::l=>o.after.toList.all (fun e=> !Region.binds .any e||Nat.ble (e.on+1) i)&&a3N (i+1) l
def b3S(A:List SI)(effs:List Nat)(i:Nat)(a:Nat)(p:Nat):Bool:=
 (match p with|0=>true|q+1=> !Nat.testBit ((A[q]?).elim 0 (·.a)) i)&&effs.all fun e=> !Nat.testBit a e||Nat.ble (e+1) p
def M3(c:Nat):Nat→List SI→List Nat
 |_,[] => []
 |i,x::l=>bc (Nat.beq x.c c) (i::M3 c (i+1) l) (M3 c (i+1) l)
def c6t(A:List SI):List (Nat×Nat):=
 (M3 1 0 A).flatMap fun i=>((0::(M3 2 0 A).map (· +1)).filter (b3S A (M3 2 0 A) i ((A[i]?).elim 0 (·.a)))).map fun p=>(i,p)
def Q9(P:Program)(ops:Array Oper):List SI:=a37 P ops ops.toList (K1 ops.toList [])
def J6(P:Program)(ops:Array Oper):Bool:=a3N 0 ops.toList&&a4Y [] (Q9 P ops)
def S7(P:Program)(ops:Array Oper):List (Nat×Nat):=c6t (Q9 P ops)
def veq(x y:Value):Bool:=match x,y with
 | .int k i,.int k' j=>decide (k=k')&&decide (i=j)
 | .bool a,.bool b=>a==b
 | .string a,.string b=>F8 a.data.toList b.data.toList
 | .pointer none,.pointer none=>true
 | .slice none a b,.slice none c d=>Nat.beq a c&&Nat.beq b d
 | .slice (some r) a b,.slice (some r') c d=>decide (r=r')&&(Nat.beq a c&&Nat.beq b d)
 | .map none,.map none=>true
 | .nilFunc,.nilFunc=>true
 | .nilIface,.nilIface=>true
 |_,_=>false
def a05(f:AV→AV→Bool):List AV→List AV→Bool
 | [],[] =>true
 |x::l,y::k=>f x y&&a05 f l k
 |_,_=>false
def v6:Nat→AV→AV→Bool
 |0,_,_=>false
 |n+1,x,y=>match x,y with
  | .n a,.n b=>Nat.beq a b
  | .y a,.y b=>Nat.beq a b
  | .b a,.b b=>a==b
  | .p v,.p w=>veq v w
  | .ptr b i,.ptr c j=>Nat.beq b c&&Nat.beq i j
  | .slice b o l c q,.slice b' o' l' c' q'=>Nat.beq b b'&&(Nat.beq o o'&&(Nat.beq l l'&&(Nat.beq c c'&&(q==q'))))
  | .sliceE b o a,.sliceE b' o' a'=>Nat.beq b b'&&(Nat.beq o o'&&Nat.beq a a')
  | .map b,.map c=>Nat.beq b c
  | .sym i,.sym j=>Nat.beq i j
  | .agg l,.agg k=>a05 (v6 n) l k
  | .tuple l,.tuple k=>a05 (v6 n) l k
  | .txt l,.txt k=>a05 (v6 n) l k
  | .func f l,.func g k=>Nat.beq f g&&a05 (v6 n) l k
  |_,_=>false
def again(cf:CF)(cos:List CO)(T:List T3)(ip:Nat×Nat):Bool:=
 match cos[ip.1]?,T[ip.1]?,T[ip.2]? with
 |some co,some s,some t=>match H9 cf co s.fr t.m with
  |some q=>v6 40 q.1 s.x
  |none=>false
 |_,_,_=>false
def L9:List T3→Option T3
 | [] =>none
 | [t] =>some t
 |_::l=>L9 l
def a0A(P:Program)(cf:CF)(ops:Array Oper)(fr:Fr)(m:M):Option (Fr×M):=
 bc (J6 P ops) (ob (trO cf (E6 P ops.toList ops.toList) fr m) fun T=>bc ((S7 P ops).all (again cf (E6 P ops.toList ops.toList) T)) (ob (L9 T) fun t=>some (t.fr,t.m)) none) none
inductive K where
 |c (c:Code)
 |sc (body rest:Code)
abbrev O:=Option (X×St)
structure Tb where
 fs:Tr Func
 it:FuncId→List AV→M→Option R
abbrev Ex:=K→St→O
def a1u:String:=match Extern.AbiNoEscape.rows with
 |r::_=>r.1
 | [] => ""
def a2t:String:=match Extern.MapsClone.rows with
 |r::_=>r.1
 | [] => ""
def T0:String:=match Extern.MathFloor.rows with
 |_::_::r::_=>r.1
 |_=> ""
def K6:String:=match Extern.BytealgIndexByte.rows with
 |_::r::_=>r.1
 |_=> ""
def D7:List UInt8→Nat→Nat→Option Nat
 | [],_,_=>none
 |c::l,b,i=>bc (Nat.beq c.toNat b) (some i) (D7 l b (Nat.succ i))
def a1j:String:=match Extern.BytealgCount.rows with
 |_::r::_=>r.1
 |_=> ""
def a0U:List UInt8→Nat→Nat→Nat
 | [],_,k=>k
 |c::l,b,k=>a0U l b (bc (Nat.beq c.toNat b) (Nat.succ k) k)
def ext(name:String)(args:List AV)(m:M):R:=match args with
 | [s,.y c] =>bc (decide (name=K6)&&Nat.ble c 255) (ob (toS s) fun s=>some (Option.rec (motive:=fun _=>AV) (.p (.int .i64 (-1))) (fun i=> .n i) (D7 s.data.toList c 0),m)) (bc (decide (name=a1j)&&Nat.ble c 255) (ob (toS s) fun s=>some (.n (a0U s.data.toList c 0),m)) none)
 | [x] =>bc (decide (name=a1u)) (some (x,m)) (bc (decide (name=T0)) (match x with
   | .p (.float .f64 a)=>ob (a0p (Extern.MathFloor.toIntegral T0 .zero #[.float .f64 a])) fun v=>bc v.oneCell' (some (cv1 v,m)) none
   |_=>none) (bc (decide (name=a2t))
   (elIf none (fun t v=>a0b none (fun b=>ob (m.mapF b) fun q=>some (.iface t (.map m.next),m.new (.obj (.map q.1 q.2)))) v) x) none))
 |_=>none
def E3(P:Program)(s:St):List ResultVar→Option (List AV)
 | [] =>some []
 | .tmp t::l=>ob (E3 P s l) fun r=>some (E9 (pth t) s.fr::r)
 | .cell a t::l=>ob (match A8 P t,tsize P t with|some true,some n=>Y8 n (.tmp (pth a)) s.fr s.m|some false,some _=>a0a (.tmp (pth a)) s.fr s.m|_,_=>none) fun q=>ob (E3 P s l) fun r=>some (q.1::r)
def one(l:List AV):AV:=match l with| [v] =>v|l=> .tuple l
def a18:Operand→Bool
 | .const v=>okV v
 |_=>true
def b2b(o:Op):Bool:=o.operands.toList.all a18
def y9(n:Nat):Code→Bool
 | .region _ ops _=>ops.toList.all fun o=>(match o.dst with|none=>true|some d=>Nat.ble (d+1) n)&&b2b o.op
 | .seq a b=>y9 n a&&y9 n b
 | .cond c a b=>a18 c&&(y9 n a&&y9 n b)
 | .block _ b=>y9 n b
 | .loop b=>y9 n b
 | .scope b=>y9 n b
 | .rangeFunc f ps a b=>a18 f&&(ps.toList.all (fun p=>Nat.ble (p+1) n)&&(y9 n a&&y9 n b))
 |_=>true
def g7n(s:St)(x:X):Option St:=X.rec (motive:=fun _=>Option St) (some s) (fun _=>none) (fun _=>none) (some s) x
def f0Z(x:X)(s:St):Option St:=X.rec (motive:=fun _=>Option St) (some s) (fun _=>none) (fun _=>none) none x
def a07(r:O):Option St:=ob r fun q=>g7n q.2 q.1
def M.loop(m:M)(b:Nat):Option ALoop:=ob (m.get b) fun x=>Blk.casesOn x (fun _=>none) (fun o=>OB.casesOn o (fun _ _=>none) some (fun _=>none) (fun _ _ _ _ _=>none) (fun _ _ _=>none))
def M.dfr(m:M)(b:Nat):Option Bool:=ob (m.get b) fun x=>Blk.casesOn x (fun _=>none) (fun o=>OB.casesOn o (fun _ _=>none) (fun _=>none) some (fun _ _ _ _ _=>none) (fun _ _ _=>none))
def I7:List Nat→M→Option M
 | [],m=>some m
 |d::l,m=>ob (m.dfr d) fun op=>bc op (I7 l (m.put d (.obj (.dfr false)))) none
def a3E:List Nat→List AV→Fr→Fr
 |p::ps,x::xs,fr=>a3E ps xs (E1 x (pth p) fr)
 |_,_,fr=>fr
def B8:X→Option Code
 | .normal=>none
 | .exit id=>some (.exit id)
 | .goto l=>some (.goto l)
 | .ret=>some .ret
def a3G:Option Code→Option X
 |none=>some .normal
 |some (.exit id)=>some (.exit id)
 |some (.goto l)=>some (.goto l)
 |some .ret=>some .ret
 |_=>none
def a29(ih:Ex)(l:Nat)(args:List AV)(m:M):R:=ob (m.loop l) fun L=>bc (Nat.beq args.length L.params.length)
 (ob (ih (.c L.assign) ⟨a3E L.params args L.fr,m,[],some l⟩) fun q=>ob (f0Z q.1 q.2) fun s=>ob (s.m.loop l) fun L1=>bc (Nat.beq L1.st 0)
  (ob (ih (.c L.body) ⟨s.fr,s.m.put l (.obj (.loop {L1 with st:=1})),s.ds,s.ar⟩) fun q=>ob (q.2.m.loop l) fun L2=>
   some (.b (B8 q.1).isNone,q.2.m.put l (.obj (.loop {L2 with st:=bc (B8 q.1).isNone 0 2,pend:=B8 q.1})))) none) none
def G7(P:Program)(tab:Tb)(ih:Ex)(g:FuncId)(args:List AV)(m:M):R:=ob (A7 (pth g) tab.fs) fun fn=>Option.rec (motive:=fun _=>R)
 (Option.rec (motive:=fun _=>R) (ext fn.name args m)
  (fun c=>bc (y9 fn.ntmps c&&Nat.ble args.length fn.ntmps) (ob (a07 (ih (.c c) ⟨v8 args (nat_lit 0) .leaf,m,[],none⟩)) fun s=>ob (I7 s.ds s.m) fun m2=>ob (E3 P ⟨s.fr,m2,[],none⟩ fn.results.toList) fun l=>some (one l,m2)) none) fn.body) (fun r=>r) (tab.it g args m)
def V6(P:Program)(tab:Tb)(ih:Ex):CF:=fun c args m=>Cal.rec (motive:=fun _=>R) (fun g=>G7 P tab ih g args m) (fun l=>a29 ih l args m) c
def f8F(r:O)(k:St→O)(s:St)(x:X):O:=X.rec (motive:=fun _=>O) (k s) (fun _=>r) (fun _=>r) r x
def andThen(r:O)(k:St→O):O:=ob r fun q=>f8F r k q.2 q.1
def g0q(id:Nat)(r:O)(s:St)(x:X):O:=X.rec (motive:=fun _=>O) r (fun i=>bc (Nat.beq i id) (some (.normal,s)) r) (fun _=>r) r x
def a1F(id:Nat)(r:O):O:=ob r fun q=>g0q id r q.2 q.1
def g1Z(body:Code)(ih:Ex)(r:O)(s:St)(x:X):O:=X.rec (motive:=fun _=>O) r (fun _=>r) (fun l=>Option.rec (motive:=fun _=>O) r (fun rest=>ih (.sc body rest) s) (findLabel body l)) r x
def a5N(body:Code)(ih:Ex)(r:O):O:=ob r fun q=>g1Z body ih r q.2 q.1
abbrev CR:=Program→Tb→Ex→St→O
def g6o:CR:=fun _ _ _ s=>some (.normal,s)
def g00(_:Nat)(ops:Array Oper)(draw:Bool):CR:=fun P tab ih s=>
 ob (bc draw (a0A P (V6 P tab ih) ops s.fr s.m) (B9 (V6 P tab ih) (E6 P ops.toList ops.toList) s.fr s.m)) fun q=>some (.normal,⟨q.1,q.2,s.ds,s.ar⟩)
def g6Z(a b:Code)(_ _:CR):CR:=fun _ _ ih s=>andThen (ih (.c a) s) (ih (.c b))
def g5g(c:Operand)(a b:Code)(_ _:CR):CR:=fun _ _ ih s=>elB none (fun t=>bc t (ih (.c a) s) (ih (.c b) s)) (ev (cO c) s.fr)
def g3s(id:Nat)(b:Code)(_:CR):CR:=fun _ _ ih s=>a1F id (ih (.c b) s)
def g5G(b:Code)(_:CR):CR:=fun _ _ ih s=>andThen (ih (.c b) s) (ih (.c (.loop b)))
def e3b(s:St):Option (Nat×St):=Option.rec (motive:=fun _=>Option (Nat×St)) (some (s.m.next,⟨s.fr,s.m.new (.obj (.dfr true)),s.m.next::s.ds,none⟩))
 (fun l=>ob (s.m.loop l) fun L=>some (L.dfr,s)) s.ar
def b75(f:Operand)(ps:Array Tmp)(a b:Code)(_ _:CR):CR:=fun P tab ih s=>
 ob (e3b s) fun q=>ob (elFunc none (fun g caps=>G7 P tab ih g (.yield q.2.m.next::caps) (q.2.m.new (.obj (.loop ⟨0,none,s.fr,ps.toList,a,b,q.1⟩)))) (ev (cO f) s.fr)) fun r=>
  ob (r.2.loop q.2.m.next) fun L=>bc (Nat.beq L.st 1) none (ob (a3G L.pend) fun x=>some (x,⟨s.fr,r.2.put q.2.m.next (.obj (.loop {L with st:=3})),q.2.ds,q.2.ar⟩))
def g5T(id:Nat):CR:=fun _ _ _ s=>some (.exit id,s)
def g2H(b:Code)(_:CR):CR:=fun _ _ ih s=>ih (.sc b b) s
def g3i(_:Nat):CR:=fun _ _ _ s=>some (.normal,s)
def g4U(l:Nat):CR:=fun _ _ _ s=>some (.goto l,s)
def g6Q:CR:=fun _ _ _ s=>some (.ret,s)
def g1B(_:String):CR:=fun _ _ _ _=>none
def f0J(c:Code):CR:=Code.rec (motive:=fun _=>CR) g6o g00 g6Z g5g g3s g5G b75 g5T g2H g3i g4U g6Q g1B c
def a0Z(P:Program)(tab:Tb)(ih:Ex):Ex:=fun k s=>
 K.rec (motive:=fun _=>O) (fun c=>f0J c P tab ih s) (fun body rest=>a5N body ih (ih (.c rest) s)) k
def l8(P:Program)(tab:Tb)(n:Nat):Ex:=Nat.rec (motive:=fun _=>Ex) (fun _ _=>none) (fun _ ih=>a0Z P tab ih) n
def arun(P:Program)(tab:Tb)(n:Nat)(f:FuncId)(args:List AV)(m:M):R:=V6 P tab (l8 P tab n) (.fn f) args m
def Q7(P:Program):Tr Func:=v8 P.funcs.toList (nat_lit 0) .leaf
def tb0(P:Program):Tb:=⟨Q7 P,fun _ _ _=>none⟩
def isTrue(r:R):Bool:=match r with|some (.b true,_)=>true|_=>false
def m0:M:=⟨.leaf,nat_lit 0⟩
end
end Go.Am
