import Derived.Test.YtooooiidpaecmaaGreatDoorWrd
/- Blocks as bytes, bitmaps, inodes and the trees of their blocks, without a machine. -/
set_option linter.unusedVariables false
set_option linter.unusedSimpArgs false
namespace Go.Am
theorem le_succ(w v:Nat):le (w+1) v=UInt8.ofNat v::le w (v/256):=by
 unfold le
 rw[List.range_succ_eq_map,List.map_cons,List.map_map]
 congr 1
 ·simp
 ·apply List.map_congr_left
  intro i _
  show UInt8.ofNat (v/2^(8*(i+1)))=UInt8.ofNat (v/256/2^(8*i))
  rw[Nat.div_div_eq_div_mul,show(256:Nat)=2^8 from rfl,←Nat.pow_add,show 8+8*i=8*(i+1) by omega]
theorem a1U:∀(w v:Nat),v<256^w→ge (le w v)=v
 |0,v,h=>by
  have:v=0:=by simpa using h
  subst this;rfl
 |w+1,v,h=>by
  rw[le_succ]
  show(UInt8.ofNat v).toNat+256*ge (le w (v/256))=v
  rw[a1U w (v/256) (by
   rw[Nat.pow_succ] at h
   exact Nat.div_lt_of_lt_mul (by rw[Nat.mul_comm];exact h))]
  have:(UInt8.ofNat v).toNat=v % 256:=by simp
  rw[this]
  omega
abbrev Bk:=List UInt8
structure PS where
 rd:Nat→Option Bk
 kp:Nat→Bool
def PS.wr(S:PS)(b:Nat)(t:Bk):PS:=⟨fun x=>if x=b then some t else S.rd x,fun x=>if x=b then false else S.kp x⟩
def PS.fr(S:PS)(b:Nat):PS:=⟨fun x=>if x=b then none else S.rd x,fun x=>if x=b then true else S.kp x⟩
theorem PS.rd_wr(S:PS)(b x:Nat)(t:Bk):(S.wr b t).rd x=if x=b then some t else S.rd x:=rfl
theorem PS.rd_fr(S:PS)(b x:Nat):(S.fr b).rd x=if x=b then none else S.rd x:=rfl
theorem PS.wr_eq(S:PS)(b:Nat)(t:Bk):(S.wr b t).rd b=some t:=if_pos rfl
theorem PS.wr_ne(S:PS){b x:Nat}(t:Bk)(h:x≠b):(S.wr b t).rd x=S.rd x:=if_neg h
theorem PS.fr_ne(S:PS){b x:Nat}(h:x≠b):(S.fr b).rd x=S.rd x:=if_neg h
def spl(t:Bk)(i:Nat)(n:Bk):Bk:=t.take i++(n++t.drop (i+n.length))
theorem Y2{t n:Bk}{i:Nat}(h:i+n.length≤t.length):(spl t i n).length=t.length:=by simp[spl];omega
theorem a1w{t n:Bk}{i:Nat}(h:i+n.length≤t.length)(j:Nat):(spl t i n)[j]? =if i≤j∧j<i+n.length then n[j-i]? else t[j]? :=by
 unfold spl
 have e:(t.take i).length=i:=by simp;omega
 by_cases h1:j<i
 ·rw[List.getElem?_append_left (by omega),List.getElem?_take,if_pos h1,if_neg (by omega)]
 ·rw[List.getElem?_append_right (by omega),e]
  by_cases h2:j<i+n.length
  ·rw[List.getElem?_append_left (by omega),if_pos (by omega)]
  ·rw[List.getElem?_append_right (by omega),List.getElem?_drop,if_neg (by omega)]
   congr 1;omega
def prt(t:Bk)(i n:Nat):Bk:=(t.drop i).take n
theorem b0w(t:Bk)(i n j:Nat):(prt t i n)[j]? =if j<n then t[i+j]? else none:=by
 unfold prt
 rw[List.getElem?_take,List.getElem?_drop]
theorem c09{t n:Bk}{i:Nat}(h:i+n.length≤t.length):prt (spl t i n) i n.length=n:=by
 apply List.ext_getElem?
 intro j
 rw[b0w,a1w h]
 by_cases h1:j<n.length
 ·rw[if_pos h1,if_pos (by omega)];congr 1;omega
 ·rw[if_neg h1,List.getElem?_eq_none (by omega)]
theorem b7N{t n:Bk}{i a k:Nat}(h:i+n.length≤t.length)(hd:a+k≤i∨i+n.length≤a):prt (spl t i n) a k=prt t a k:=by
 apply List.ext_getElem?
 intro j
 rw[b0w,b0w,a1w h]
 by_cases h1:j<k
 ·rw[if_pos h1,if_pos h1,if_neg (by omega)]
 ·rw[if_neg h1,if_neg h1]
def p16(t:Bk)(k:Nat):Nat:=ge (prt t (2*k) 2)
def F5(t:Bk)(k v:Nat):Bk:=spl t (2*k) (le 2 v)
theorem b8s{t:Bk}{k:Nat}(v:Nat)(h:2*k+2≤t.length):(F5 t k v).length=t.length:=Y2 (by rw[y4];exact h)
theorem g1p{t:Bk}{k v:Nat}(h:2*k+2≤t.length)(hv:v<65536):p16 (F5 t k v) k=v:=by
 unfold p16 F5
 have:=c09 (t:=t) (n:=le 2 v) (i:=2*k) (by rw[y4];exact h)
 rw[y4] at this
 rw[this]
 exact a1U 2 v hv
theorem f60{t:Bk}{k j v:Nat}(h:2*k+2≤t.length)(hj:j≠k):p16 (F5 t k v) j=p16 t j:=by
 unfold p16 F5
 rw[b7N (by rw[y4];exact h) (by rw[y4];omega)]
def z64:Bk:=List.replicate 64 0
theorem c2T:∀{l:Bk},(∀x∈l,x=0)→ge l=0
 | [],_=>rfl
 |x::l,h=>by
  show x.toNat+256*ge l=0
  rw[h x (List.mem_cons_self ..),c2T fun y hy=>h y (List.mem_cons_of_mem _ hy)];rfl
theorem g4R(k:Nat):p16 z64 k=0:=c2T fun x hx=>by
 have:=List.mem_of_mem_drop (List.mem_of_mem_take hx)
 exact(List.mem_replicate.1 this).2
def bt(t:Bk)(j:Nat):Bool:=(t.getD (j/8) 0).toNat.testBit (j % 8)
def byb(a k:Nat)(on:Bool):Nat:=if on then a|||2^k else(BitVec.ofNat 8 a&&& ~~~BitVec.ofNat 8 (2^k)).toNat
theorem b1U{a k:Nat}(ha:a<256)(hk:k<8)(on:Bool):byb a k on<256:=by
 unfold byb
 cases on
 ·exact BitVec.isLt _
 ·exact Nat.or_lt_two_pow (n:=8) ha (Nat.pow_lt_pow_right (by omega) hk)
theorem g1R{a k:Nat}(ha:a<256)(hk:k<8)(on:Bool){j:Nat}(hj:j<8):(byb a k on).testBit j=if j=k then on else a.testBit j:=by
 unfold byb
 cases on
 ·simp only[Bool.false_eq_true,if_false]
  simp only[BitVec.testBit_toNat,BitVec.getLsbD_and,BitVec.getLsbD_not,BitVec.getLsbD_ofNat,hj,decide_true,Bool.true_and,Nat.testBit_two_pow]
  by_cases h:j=k
  ·subst h;simp
  ·rw[if_neg h,decide_eq_false (fun e=>h e.symm)];simp
 ·simp only[if_true,Nat.testBit_or,Nat.testBit_two_pow]
  by_cases h:j=k
  ·subst h;simp
  ·rw[if_neg h,decide_eq_false (fun e=>h e.symm),Bool.or_false]
def A5(t:Bk)(i:Nat)(on:Bool):Bk:=t.set (i/8) (UInt8.ofNat (byb (t.getD (i/8) 0).toNat (i % 8) on))
theorem a1m(t:Bk)(i:Nat)(on:Bool):(A5 t i on).length=t.length:=List.length_set
theorem a3a{t:Bk}{i:Nat}(hi:i/8<t.length)(on:Bool)(j:Nat):bt (A5 t i on) j=if j=i then on else bt t j:=by
 unfold bt A5
 have hb:=(t.getD (i/8) 0).toNat_lt
 have hm:i % 8<8:=Nat.mod_lt _ (by omega)
 have hmj:j % 8<8:=Nat.mod_lt _ (by omega)
 by_cases h8:j/8=i/8
 ·have e:(t.set (i/8) (UInt8.ofNat (byb (t.getD (i/8) 0).toNat (i % 8) on))).getD (j/8) 0=UInt8.ofNat (byb (t.getD (i/8) 0).toNat (i % 8) on):=by
   rw[List.getD_eq_getElem?_getD,h8,List.getElem?_set,if_pos rfl,if_pos hi];rfl
  rw[e,UInt8.toNat_ofNat',Nat.mod_eq_of_lt (b1U hb hm on),g1R hb hm on hmj,h8]
  by_cases hji:j=i
  ·subst hji;rw[if_pos rfl,if_pos rfl]
  ·rw[if_neg (by omega),if_neg hji]
 ·rw[if_neg (by omega)]
  congr 2
  rw[List.getD_eq_getElem?_getD,List.getElem?_set,if_neg (fun e=>h8 e.symm),←List.getD_eq_getElem?_getD]
structure Ino where
 kind:Nat
 links:Nat
 size:Nat
 ps:List Nat
structure Ino.Ok(x:Ino):Prop where
 k1:1≤x.kind
 k2:x.kind≤2
 ln:x.links<65536
 sz:x.size<4294967296
 len:x.ps.length=10
 p:∀p∈x.ps,p<65536
def enc(x:Ino):Bk:=le 1 x.kind++(le 1 0++(le 2 x.links++(le 4 x.size++(x.ps.flatMap (le 2)++List.replicate 4 0))))
theorem c0h:∀(l:List Nat),(l.flatMap (le 2)).length=2*l.length
 | [] =>rfl
 |x::l=>by rw[List.flatMap_cons,List.length_append,c0h l,y4];simp;omega
theorem b0b{x:Ino}(h:x.ps.length=10):(enc x).length=32:=by
 unfold enc
 simp only[List.length_append,y4,c0h,h,List.length_replicate]
theorem Q6{a b:Bk}{i n:Nat}(h:a.length≤i):prt (a++b) i n=prt b (i-a.length) n:=by
 unfold prt
 rw[List.drop_append,List.drop_of_length_le h,List.nil_append]
theorem a7a{a b:Bk}{i n:Nat}(h:i+n≤a.length):prt (a++b) i n=prt a i n:=by
 unfold prt
 rw[List.drop_append,List.take_append_of_le_length (by rw[List.length_drop];omega)]
theorem a6d(w v:Nat):prt (le w v) 0 w=le w v:=by
 unfold prt
 rw[List.drop_zero,List.take_of_length_le (by rw[y4];exact Nat.le_refl _)]
theorem b9D:∀(l:List Nat) (j p:Nat) (r:Bk),l[j]? =some p→prt (l.flatMap (le 2)++r) (2*j) 2=le 2 p
 | [],j,p,r,h=>by cases h
 |x::l,0,p,r,h=>by
  cases h
  rw[List.flatMap_cons,List.append_assoc,Nat.mul_zero,a7a (by rw[y4];exact Nat.le_refl _),a6d]
 |x::l,j+1,p,r,h=>by
  rw[List.flatMap_cons,List.append_assoc,Q6 (by rw[y4];omega),y4,show 2*(j+1)-2=2*j by omega]
  exact b9D l j p r (by simpa using h)
theorem f8m{x:Ino}(h:x.Ok):ge (prt (enc x) 0 1)=x.kind:=by
 unfold enc
 rw[a7a (by rw[y4];exact Nat.le_refl _),a6d,a1U 1 x.kind (by have:=h.k2;omega)]
theorem f7n{x:Ino}(h:x.Ok):ge (prt (enc x) 2 2)=x.links:=by
 unfold enc
 rw[Q6 (by rw[y4];omega),y4,Q6 (by rw[y4];omega),y4,a7a (by rw[y4];omega),a6d,a1U 2 x.links h.ln]
theorem f8w{x:Ino}(h:x.Ok):ge (prt (enc x) 4 4)=x.size:=by
 unfold enc
 rw[Q6 (by rw[y4];omega),y4,Q6 (by rw[y4];omega),y4,Q6 (by rw[y4];omega),y4,a7a (by rw[y4];omega),a6d,a1U 4 x.size h.sz]
theorem d1X{x:Ino}(h:x.Ok){j p:Nat}(hj:x.ps[j]? =some p):ge (prt (enc x) (8+2*j) 2)=p:=by
 unfold enc
 rw[Q6 (by rw[y4];omega),y4,Q6 (by rw[y4];omega),y4,Q6 (by rw[y4];omega),y4,Q6 (by rw[y4];omega),y4,show 8+2*j-1-1-2-4=2*j by omega,b9D _ j p _ hj]
 exact a1U 2 p (h.p p (List.mem_of_getElem? hj))
def InoAt(S:PS)(i:Nat)(x:Ino):Prop:=∃t,S.rd (34+i/2)=some t∧t.length=64∧prt t (32*(i % 2)) 32=enc x
theorem InoAt.put{S:PS}{i:Nat}{x y:Ino}{t:Bk}(hy:y.ps.length=10)(ht:S.rd (34+i/2)=some t)(hl:t.length=64):
  InoAt (S.wr (34+i/2) (spl t (32*(i % 2)) (enc y))) i y∧∀j z,j≠i→InoAt S j z→InoAt (S.wr (34+i/2) (spl t (32*(i % 2)) (enc y))) j z:=by
 have he:=b0b hy
 have h0:32*(i % 2)+(enc y).length≤t.length:=by rw[he,hl];omega
 refine⟨⟨_,if_pos rfl,by rw[Y2 h0,hl],?_⟩,fun j z hj ⟨u,hu,hul,hz⟩=> ?_⟩
 ·have:=c09 h0
  rwa [he] at this
 ·by_cases hb:j/2=i/2
  ·rw[hb,ht] at hu
   cases hu
   refine⟨_,by rw[hb];exact if_pos rfl,by rw[Y2 h0,hl],?_⟩
   rw[b7N h0 (by rw[he];omega)]
   exact hz
  ·exact⟨u,by rw[PS.wr_ne];exact hu;omega,hul,hz⟩
theorem InoAt.ne{S S':PS}{i:Nat}{x:Ino}(h:InoAt S i x)(hr:S'.rd (34+i/2)=S.rd (34+i/2)):InoAt S' i x:=by
 obtain⟨t,h1,h2⟩:=h
 exact⟨t,hr.trans h1,h2⟩
inductive Pa where
 |r (k:Nat)
 |s (k a:Nat)
 |t (a b:Nat)
deriving DecidableEq
def Pa.ok:Pa→Prop
 | .r k=>k<10
 | .s k a=>(k=8∨k=9)∧a<32
 | .t a b=>a<32∧b<32
def Pa.inn:Pa→Prop
 | .r k=>k=8∨k=9
 | .s k _=>k=9
 | .t _ _=>False
def ptz(S:PS)(b a:Nat):Nat:=if b=0 then 0 else match S.rd b with
 |some t=>p16 t a
 |none=>0
def nd(S:PS)(x:Ino):Pa→Nat
 | .r k=>x.ps.getD k 0
 | .s k a=>ptz S (x.ps.getD k 0) a
 | .t a b=>ptz S (ptz S (x.ps.getD 9 0) a) b
def Pa.up:Pa→Option Pa
 | .r _=>none
 | .s k _=>some (.r k)
 | .t a _=>some (.s 9 a)
def Pa.at:Pa→Nat
 | .r k=>k
 | .s _ a=>a
 | .t _ b=>b
theorem a0W(S:PS)(a:Nat):ptz S 0 a=0:=if_pos rfl
theorem U9(S:PS)(x:Ino){p q:Pa}(h:p.up=some q):nd S x p=ptz S (nd S x q) p.at:=by
 cases p<;>cases h<;>rfl
theorem A0{p q:Pa}(h:p.up=some q)(hp:p.ok):q.ok∧q.inn∧p.at<32:=by
 cases p<;>cases h
 ·rename_i k a
  obtain⟨hk,ha⟩:=hp
  exact⟨show k<10 by omega,hk,ha⟩
 ·obtain⟨h1,h2⟩:=hp
  exact⟨⟨.inr rfl,h1⟩,rfl,h2⟩
theorem g26{p q u:Pa}(h:p.up=some u)(h':q.up=some u)(ha:p.at=q.at):p=q:=by
 cases p<;>cases h<;>cases q<;>cases h'<;>(cases ha;rfl)
theorem b2R{S S':PS}{b a:Nat}(h:b≠0→S'.rd b=S.rd b):ptz S' b a=ptz S b a:=by
 unfold ptz
 by_cases h0:b=0
 ·rw[if_pos h0,if_pos h0]
 ·rw[if_neg h0,if_neg h0,h h0]
structure Inv(S:PS)(I:List Nat)(X:Nat→Ino):Prop where
 ino:∀i∈I,i<6∧InoAt S i (X i)∧(X i).Ok
 bm:∃t,S.rd 33=some t∧t.length=64∧∀i∈I,∀p:Pa,p.ok→nd S (X i) p≠0→37≤nd S (X i) p∧nd S (X i) p<90∧bt t (nd S (X i) p)=true
 inj:∀i∈I,∀j∈I,∀p q:Pa,p.ok→q.ok→nd S (X i) p≠0→nd S (X i) p=nd S (X j) q→i=j∧p=q
 blk:∀i∈I,∀p:Pa,p.ok→p.inn→nd S (X i) p≠0→∃t,S.rd (nd S (X i) p)=some t∧t.length=64
section
variable {S S':PS} {I:List Nat} {X:Nat→Ino}
theorem Inv.rng(h:Inv S I X){i:Nat}(hi:i∈I){p:Pa}(hp:p.ok)(h0:nd S (X i) p≠0):37≤nd S (X i) p∧nd S (X i) p<90:=by
 obtain⟨t,_,_,h⟩:=h.bm
 exact⟨(h i hi p hp h0).1,(h i hi p hp h0).2.1⟩
theorem b0n{x:Ino}(hb:∀p:Pa,p.ok→p.inn→nd S x p≠0→S'.rd (nd S x p)=S.rd (nd S x p)):∀p:Pa,p.ok→nd S' x p=nd S x p:=by
 have hr:∀k,nd S' x (.r k)=nd S x (.r k):=fun k=>rfl
 have hs:∀k a,(k=8∨k=9)→nd S' x (.s k a)=nd S x (.s k a):=fun k a hk=>b2R fun h0=>hb (.r k) (show k<10 by omega) hk h0
 intro p hp
 cases p with
 |r k=>rfl
 |s k a=>exact hs k a hp.1
 |t a b=>
  rw[U9 S' x (q:= .s 9 a) rfl,U9 S x (q:= .s 9 a) rfl,hs 9 a (.inr rfl)]
  exact b2R fun h0=>hb (.s 9 a) ⟨.inr rfl,hp.1⟩ rfl h0
theorem Inv.same(h:Inv S I X)(ht:∀i∈I,S'.rd (34+i/2)=S.rd (34+i/2))(hb:∀i∈I,∀p:Pa,p.ok→p.inn→nd S (X i) p≠0→S'.rd (nd S (X i) p)=S.rd (nd S (X i) p))
  (hm:∃t t',S.rd 33=some t∧S'.rd 33=some t'∧t'.length=t.length∧∀i∈I,∀p:Pa,p.ok→nd S (X i) p≠0→bt t (nd S (X i) p)=true→bt t' (nd S (X i) p)=true):
  Inv S' I X∧∀i∈I,∀p:Pa,p.ok→nd S' (X i) p=nd S (X i) p:=by
 have hn:∀i∈I,∀p:Pa,p.ok→nd S' (X i) p=nd S (X i) p:=fun i hi p hp=>b0n (hb i hi) p hp
 refine⟨⟨fun i hi=> ?_,?_,fun i hi j hj p q hp hq h0 he=> ?_,fun i hi p hp hin h0=> ?_⟩,hn⟩
 ·obtain⟨h1,h2,h3⟩:=h.ino i hi
  exact⟨h1,h2.ne (ht i hi),h3⟩
 ·obtain⟨t,t',h1,h2,h3,h4⟩:=hm
  obtain⟨u,g1,g2,g3⟩:=h.bm
  rw[h1] at g1
  cases g1
  refine⟨t',h2,by omega,fun i hi p hp h0=> ?_⟩
  rw[hn i hi p hp] at h0⊢
  obtain⟨k1,k2,k3⟩:=g3 i hi p hp h0
  exact⟨k1,k2,h4 i hi p hp h0 k3⟩
 ·rw[hn i hi p hp] at h0 he
  rw[hn j hj q hq] at he
  exact h.inj i hi j hj p q hp hq h0 he
 ·rw[hn i hi p hp] at h0⊢
  obtain⟨t,k1,k2⟩:=h.blk i hi p hp hin h0
  exact⟨t,(hb i hi p hp hin h0).trans k1,k2⟩
theorem f8A{x x':Ino}{p:Pa}{v:Nat}(hp:p.ok)(hx:∀k,x'.ps.getD k 0=if p= .r k then v else x.ps.getD k 0)
  (hc:∀u,p.up=some u→nd S x u≠0∧v<65536∧∃t,S.rd (nd S x u)=some t∧t.length=64∧S'.rd (nd S x u)=some (F5 t p.at v))
  (ho:∀q:Pa,q.ok→q.inn→nd S x q≠0→p.up≠some q→S'.rd (nd S x q)=S.rd (nd S x q))
  (hz:∀q:Pa,q.ok→q.up=some p→nd S x q=0) (hv:∀a,a<32→p.inn→ptz S' v a=0):
  ∀q:Pa,q.ok→nd S' x' q=if q=p then v else nd S x q:=by
 have step:∀q u:Pa,q.ok→q.up=some u→nd S' x' u=(if u=p then v else nd S x u)→nd S' x' q=if q=p then v else nd S x q:=by
  intro q u hq hu e
  obtain⟨hu1,hu2,hu3⟩:=A0 hu hq
  rw[U9 S' x' hu,e]
  by_cases h1:u=p
  ·rw[if_pos h1,hv _ hu3 (h1▸hu2),if_neg,hz q hq (h1▸hu)]
   intro h2
   rw[h2] at hu
   rw[h1] at hu
   cases p<;>cases hu
  ·rw[if_neg h1]
   by_cases h2:p.up=some u
   ·obtain⟨h0,hv,t,g1,g2,g3⟩:=hc u h2
    have e1:ptz S' (nd S x u) q.at=p16 (F5 t p.at v) q.at:=by
     unfold ptz
     rw[if_neg h0,g3]
    have hpa:=(A0 h2 hp).2.2
    rw[e1]
    by_cases h3:q=p
    ·rw[if_pos h3,h3,g1p (by omega) hv]
    ·rw[if_neg h3,f60 (by omega) (fun e=>h3 (g26 hu h2 e)),U9 S x hu]
     unfold ptz
     rw[if_neg h0,g1]
   ·have h3:q≠p:=fun e=>h2 (e▸hu)
    rw[if_neg h3,U9 S x hu]
    exact b2R fun h0=>ho u hu1 hu2 h0 h2
 have hr:∀k,nd S' x' (.r k)=if Pa.r k=p then v else nd S x (.r k):=fun k=>by
  show x'.ps.getD k 0=_
  rw[hx]
  by_cases h:p= .r k
  ·rw[if_pos h,if_pos h.symm]
  ·rw[if_neg h,if_neg fun e=>h e.symm];rfl
 have hs:∀k a,Pa.ok (.s k a)→nd S' x' (.s k a)=if Pa.s k a=p then v else nd S x (.s k a):=fun k a h=>step _ _ h rfl (hr k)
 intro q hq
 cases q with
 |r k=>exact hr k
 |s k a=>exact hs k a hq
 |t a b=>exact step _ (.s 9 a) hq rfl (hs 9 a ⟨.inr rfl,hq.1⟩)
def upx(X:Nat→Ino)(i:Nat)(x:Ino):Nat→Ino:=fun j=>if j=i then x else X j
theorem K7(X:Nat→Ino)(i:Nat)(x:Ino):upx X i x i=x:=if_pos rfl
theorem P9(X:Nat→Ino){i j:Nat}(x:Ino)(h:j≠i):upx X i x j=X j:=if_neg h
theorem Inv.store(h:Inv S I X){i:Nat}(hi:i∈I){p:Pa}(hp:p.ok){v:Nat}{x':Ino}
  (hx:∀k,x'.ps.getD k 0=if p= .r k then v else(X i).ps.getD k 0) (hxo:x'.Ok) (hxi:InoAt S' i x') (hxj:∀j∈I,j≠i→InoAt S' j (X j)) (h33:S'.rd 33=S.rd 33)
  (hc:∀u,p.up=some u→nd S (X i) u≠0∧v<65536∧∃t,S.rd (nd S (X i) u)=some t∧t.length=64∧S'.rd (nd S (X i) u)=some (F5 t p.at v))
  (ho:∀b,37≤b→(∀u,p.up=some u→b≠nd S (X i) u)→S'.rd b=S.rd b)
  (hz:∀q:Pa,q.ok→q.up=some p→nd S (X i) q=0)
  (hv:v=0∨(37≤v∧v<90∧(∀t,S.rd 33=some t→bt t v=true)∧(∀j∈I,∀q:Pa,q.ok→nd S (X j) q≠v)∧(p.inn→S.rd v=some z64))):
  Inv S' I (upx X i x')∧∀j∈I,∀q:Pa,q.ok→nd S' (upx X i x' j) q=if j=i∧q=p then v else nd S (X j) q:=by
 have hvz:∀a,a<32→p.inn→ptz S' v a=0:=fun a _ hin=>by
  rcases hv with rfl|⟨h1,h2,h3,h4,h5⟩
  ·exact a0W _ _
  ·unfold ptz
   rw[if_neg (by omega),ho v h1 (fun u hu e=>h4 i hi u (A0 hu hp).1 e.symm),h5 hin]
   exact g4R a
 have hni:∀q:Pa,q.ok→nd S' x' q=if q=p then v else nd S (X i) q:=
  f8A hp hx hc (fun q hq hin h0 hne=>ho _ (h.rng hi hq h0).1 fun u hu e=>by
   have:=(h.inj i hi i hi q u hq (A0 hu hp).1 h0 e).2
   exact hne (this▸hu)) hz hvz
 have hnj:∀j∈I,j≠i→∀q:Pa,q.ok→nd S' (X j) q=nd S (X j) q:=fun j hj hji=>
  b0n fun q hq hin h0=>ho _ (h.rng hj hq h0).1 fun u hu e=>hji (h.inj j hj i hi q u hq (A0 hu hp).1 h0 e).1
 have hn:∀j∈I,∀q:Pa,q.ok→nd S' (upx X i x' j) q=if j=i∧q=p then v else nd S (X j) q:=by
  intro j hj q hq
  by_cases hji:j=i
  ·subst hji
   rw[K7,hni q hq]
   by_cases hqp:q=p
   ·rw[if_pos hqp,if_pos ⟨rfl,hqp⟩]
   ·rw[if_neg hqp,if_neg fun e=>hqp e.2]
  ·rw[P9 _ _ hji,hnj j hj hji q hq,if_neg fun e=>hji e.1]
 refine⟨⟨fun j hj=> ?_,?_,?_,?_⟩,hn⟩
 ·by_cases hji:j=i
  ·subst hji
   rw[K7]
   exact⟨(h.ino j hj).1,hxi,hxo⟩
  ·rw[P9 _ _ hji]
   exact⟨(h.ino j hj).1,hxj j hj hji,(h.ino j hj).2.2⟩
 ·obtain⟨t,g1,g2,g3⟩:=h.bm
  refine⟨t,h33.trans g1,g2,fun j hj q hq h0=> ?_⟩
  rw[hn j hj q hq] at h0⊢
  by_cases hc1:j=i∧q=p
  ·rw[if_pos hc1] at h0⊢
   rcases hv with rfl|⟨h1,h2,h3,_⟩
   ·exact absurd rfl h0
   ·exact⟨h1,h2,h3 t g1⟩
  ·rw[if_neg hc1] at h0⊢
   exact g3 j hj q hq h0
 ·intro j hj j2 hj2 q q2 hq hq2 h0 he
  rw[hn j hj q hq] at h0 he
  rw[hn j2 hj2 q2 hq2] at he
  by_cases c1:j=i∧q=p<;>by_cases c2:j2=i∧q2=p
  ·exact⟨c1.1.trans c2.1.symm,c1.2.trans c2.2.symm⟩
  ·rw[if_pos c1] at h0 he
   rw[if_neg c2] at he
   rcases hv with rfl|⟨_,_,_,h4,_⟩
   ·exact absurd rfl h0
   ·exact absurd he.symm (h4 j2 hj2 q2 hq2)
  ·rw[if_neg c1] at h0 he
   rw[if_pos c2] at he
   rcases hv with rfl|⟨_,_,_,h4,_⟩
   ·exact absurd he h0
   ·exact absurd he (h4 j hj q hq)
  ·rw[if_neg c1] at h0 he
   rw[if_neg c2] at he
   exact h.inj j hj j2 hj2 q q2 hq hq2 h0 he
 ·intro j hj q hq hin h0
  rw[hn j hj q hq] at h0⊢
  by_cases c1:j=i∧q=p
  ·rw[if_pos c1] at h0⊢
   rcases hv with rfl|⟨h1,h2,h3,h4,h5⟩
   ·exact absurd rfl h0
   ·exact⟨z64,(ho v h1 fun u hu e=>h4 i hi u (A0 hu hp).1 e.symm).trans (h5 (c1.2▸hin)),rfl⟩
  ·rw[if_neg c1] at h0⊢
   obtain⟨t,k1,k2⟩:=h.blk j hj q hq hin h0
   by_cases c2:∃u,p.up=some u∧nd S (X j) q=nd S (X i) u
   ·obtain⟨u,hu,e⟩:=c2
    obtain⟨_,_,t2,m1,m2,m3⟩:=hc u hu
    refine⟨F5 t2 p.at v,by rw[e];exact m3,?_⟩
    rw[b8s v (by have:=(A0 hu hp).2.2;omega),m2]
   ·exact⟨t,(ho _ (h.rng hj hq h0).1 fun u hu e=>c2 ⟨u,hu,e⟩).trans k1,k2⟩
theorem Inv.wr(h:Inv S I X){b:Nat}(hb:37≤b)(hn:∀i∈I,∀p:Pa,p.ok→p.inn→nd S (X i) p≠b)(t:Bk):Inv (S.wr b t) I X∧∀i∈I,∀p:Pa,p.ok→nd (S.wr b t) (X i) p=nd S (X i) p:=by
 obtain⟨u,g1,g2,g3⟩:=h.bm
 exact h.same (fun i hi=>PS.wr_ne S t (by have:=(h.ino i hi).1;omega)) (fun i hi p hp hin _=>PS.wr_ne S t (hn i hi p hp hin)) ⟨u,u,g1,(PS.wr_ne S t (by omega)).trans g1,rfl,fun _ _ _ _ _ h=>h⟩
theorem Inv.bits(h:Inv S I X){t t':Bk}(ht:S.rd 33=some t)(hl:t'.length=64)(hm:∀i∈I,∀p:Pa,p.ok→nd S (X i) p≠0→bt t (nd S (X i) p)=true→bt t' (nd S (X i) p)=true):Inv (S.wr 33 t') I X∧∀i∈I,∀p:Pa,p.ok→nd (S.wr 33 t') (X i) p=nd S (X i) p:=by
 obtain⟨u,g1,g2,g3⟩:=h.bm
 rw[ht] at g1
 cases g1
 exact h.same (fun i hi=>PS.wr_ne S t' (by omega)) (fun i hi p hp _ h0=>PS.wr_ne S t' (by have:=(h.rng hi hp h0).1;omega)) ⟨t,t',ht,PS.wr_eq ..,by omega,hm⟩
end
end Go.Am
/- A file's blocks that are made, without a machine. -/
namespace Go.Am
theorem PS.ext'{S T:PS}(h1:∀x,S.rd x=T.rd x)(h2:∀x,S.kp x=T.kp x):S=T:=by
 obtain⟨a,b⟩:=S
 obtain⟨c,d⟩:=T
 have e1:a=c:=funext h1
 have e2:b=d:=funext h2
 rw[e1,e2]
theorem PS.wr_comm(S:PS){b c:Nat}(t u:Bk)(h:b≠c):(S.wr b t).wr c u=(S.wr c u).wr b t:=by
 refine PS.ext' (fun x=> ?_) (fun x=> ?_)
 ·rw[PS.rd_wr,PS.rd_wr,PS.rd_wr,PS.rd_wr]
  by_cases h1:x=c
  ·rw[if_pos h1,if_neg (show ¬x=b by omega),if_pos h1]
  ·rw[if_neg h1,if_neg h1]
 ·show(if x=c then false else if x=b then false else S.kp x)=(if x=b then false else if x=c then false else S.kp x)
  by_cases h1:x=b<;>by_cases h2:x=c<;>simp[h1,h2]
structure Mk(I:List Nat)(S:PS)(X:Nat→Ino)(T:PS)(Y:Nat→Ino)(i:Nat)(p:Pa):Prop where
 inv:Inv T I Y
 same:∀j∈I,(Y j).kind=(X j).kind∧(Y j).links=(X j).links∧(Y j).size=(X j).size
 leaf:∀j∈I,∀q:Pa,q.ok→¬q.inn→¬(j=i∧q=p)→nd T (Y j) q=nd S (X j) q
 old:∀j∈I,∀q:Pa,q.ok→nd S (X j) q≠0→nd T (Y j) q=nd S (X j) q
 dat:∀b,37≤b→(∀j∈I,∀q:Pa,q.ok→q.inn→nd T (Y j) q≠b)→T.rd b=S.rd b
section
variable {S T U:PS} {I:List Nat} {X Y Z:Nat→Ino} {i:Nat} {p:Pa}
theorem Mk.refl(h:Inv S I X):Mk I S X S X i p:=⟨h,fun _ _=>⟨rfl,rfl,rfl⟩,fun _ _ _ _ _ _=>rfl,fun _ _ _ _ _=>rfl,fun _ _ _=>rfl⟩
theorem Inv.made(h:Inv T I Y)(hi:i∈I){q:Pa}(hq:q.ok)(h0:nd T (Y i) q=0){t:Bk}(ht:T.rd 33=some t)(hl:t.length=64){b:Nat}(hb1:37≤b)(hb2:b<90)(hbt:bt t b=false){x':Ino}
  (hx:∀k,x'.ps.getD k 0=if q= .r k then b else(Y i).ps.getD k 0) (hxo:x'.Ok) {c:Nat} {u:Bk}
  (hc:(∃k,q= .r k∧c=35∧InoAt (T.wr c u) i x'∧(∀j∈I,j≠i→InoAt (T.wr c u) j (Y j)))∨(∃w tc,q.up=some w∧c=nd T (Y i) w∧c≠0∧T.rd c=some tc∧tc.length=64∧u=F5 tc q.at b∧x'=Y i)):
  ∃V,Inv V I (upx Y i x')∧(∀j∈I,∀r:Pa,r.ok→nd V (upx Y i x' j) r=if j=i∧r=q then b else nd T (Y j) r)∧(q.inn→((T.wr 33 (A5 t b true)).wr c u).wr b z64=V)∧(¬q.inn→(T.wr 33 (A5 t b true)).wr c u=V)∧∀x,x≠33→x≠c→(x=b→¬q.inn)→V.rd x=T.rd x:=by
 have hnb:∀j∈I,∀r:Pa,r.ok→nd T (Y j) r≠b:=fun j hj r hr e=>by
  obtain⟨u',g1,g2,g3⟩:=h.bm
  rw[ht] at g1
  cases g1
  have:=(g3 j hj r hr (by omega)).2.2
  rw[e,hbt] at this
  cases this
 have hsl:b/8<t.length:=by omega
 obtain⟨i1,n1⟩:=h.bits (t':=A5 t b true) ht (by rw[a1m];exact hl) (fun j hj r hr h0 hb=>by
  rw[a3a hsl]
  by_cases e:nd T (Y j) r=b
  ·rw[if_pos e]
  ·rw[if_neg e];exact hb)
 have hcb:c≠b:=by
  rcases hc with⟨k,_,rfl,_⟩|⟨w,tc,hw,rfl,_⟩
  ·omega
  ·exact hnb i hi w (A0 hw hq).1
 have hc33:c≠33:=by
  rcases hc with⟨k,_,rfl,_⟩|⟨w,tc,hw,rfl,h0,_⟩
  ·omega
  ·have:=(h.rng hi (A0 hw hq).1 h0).1;omega
 --ahead of the store
 obtain⟨V0,hV0,iV,nV,rV⟩:∃V0,((q.inn∧V0=(T.wr 33 (A5 t b true)).wr b z64)∨(¬q.inn∧V0=T.wr 33 (A5 t b true)))∧Inv V0 I Y∧(∀j∈I,∀r:Pa,r.ok→nd V0 (Y j) r=nd T (Y j) r)∧∀x,x≠33→x≠b→V0.rd x=T.rd x:=by
  by_cases hin:q.inn
  ·obtain⟨i2,n2⟩:=i1.wr (b:=b) hb1 (fun j hj r hr hri e=>by rw[n1 j hj r hr] at e;exact hnb j hj r hr e) z64
   exact⟨_,.inl ⟨hin,rfl⟩,i2,fun j hj r hr=>(n2 j hj r hr).trans (n1 j hj r hr),fun x h1 h2=>(PS.wr_ne _ _ h2).trans (PS.wr_ne _ _ h1)⟩
  ·exact⟨_,.inr ⟨hin,rfl⟩,i1,n1,fun x h1 h2=>PS.wr_ne _ _ h1⟩
 have hV33:V0.rd 33=some (A5 t b true):=by
  rcases hV0 with⟨_,rfl⟩|⟨_,rfl⟩
  ·rw[PS.wr_ne _ _ (by omega)];exact PS.wr_eq ..
  ·exact PS.wr_eq ..
 have hrd:∀x,x≠33→x≠b→(V0.wr c u).rd x=(T.wr c u).rd x:=fun x h1 h2=>by
  rw[PS.rd_wr,PS.rd_wr,rV x h1 h2]
 have hij:∀j∈I,j<6:=fun j hj=>(h.ino j hj).1
 have hst:=iV.store (S':=V0.wr c u) hi hq (v:=b) (x':=x') hx hxo
  (by
   rcases hc with⟨k,_,rfl,g1,_⟩|⟨w,tc,hw,rfl,h0,g1,g2,g3,rfl⟩
   ·have:=hij i hi
    exact g1.ne (hrd _ (by omega) (by omega))
   ·have:=hij i hi
    have hcc:=(h.rng hi (A0 hw hq).1 h0).1
    exact(h.ino i hi).2.1.ne ((hrd _ (by omega) (by omega)).trans (PS.wr_ne _ _ (by omega))))
  (fun j hj hji=>by
   have:=hij j hj
   rcases hc with⟨k,_,rfl,_,g1⟩|⟨w,tc,hw,rfl,h0,g1,g2,g3,rfl⟩
   ·exact(g1 j hj hji).ne (hrd _ (by omega) (by omega))
   ·have hcc:=(h.rng hi (A0 hw hq).1 h0).1
    exact(h.ino j hj).2.1.ne ((hrd _ (by omega) (by omega)).trans (PS.wr_ne _ _ (by omega))))
  (PS.wr_ne _ _ (Ne.symm hc33))
  (fun w hw=>by
   rcases hc with⟨k,hk,_⟩|⟨w',tc,hw',rfl,h0,g1,g2,g3,rfl⟩
   ·subst hk;cases hw
   ·rw[hw] at hw'
    cases hw'
    rw[nV i hi w (A0 hw hq).1]
    exact⟨h0,by omega,tc,(rV _ hc33 hcb).trans g1,g2,by rw[PS.wr_eq,g3]⟩)
  (fun x hx1 hx2=>PS.wr_ne _ _ (by
   rcases hc with⟨k,hk,rfl,_⟩|⟨w',tc,hw',rfl,h0,_⟩
   ·omega
   ·rw[←nV i hi w' (A0 hw' hq).1];exact hx2 w' hw'))
  (fun r hr hu=>by
   rw[nV i hi r hr,U9 T (Y i) hu,h0];exact a0W _ _)
  (.inr ⟨hb1,hb2,fun t' ht'=>by rw[hV33] at ht';cases ht';rw[a3a hsl,if_pos rfl],fun j hj r hr e=>hnb j hj r hr (by rw[←nV j hj r hr];exact e),fun hin=>by
   rcases hV0 with⟨_,rfl⟩|⟨hn,_⟩
   ·exact PS.wr_eq ..
   ·exact absurd hin hn⟩)
 refine⟨V0.wr c u,hst.1,fun j hj r hr=> ?_,fun hin=> ?_,fun hin=> ?_,fun x h1 h2 h3=> ?_⟩
 ·rw[hst.2 j hj r hr]
  by_cases hc:j=i∧r=q
  ·rw[if_pos hc,if_pos hc]
  ·rw[if_neg hc,if_neg hc];exact nV j hj r hr
 ·rcases hV0 with⟨_,rfl⟩|⟨hn,_⟩
  ·exact PS.wr_comm _ _ _ hcb
  ·exact absurd hin hn
 ·rcases hV0 with⟨hn,_⟩|⟨_,rfl⟩
  ·exact absurd hn hin
  ·rfl
 ·rw[PS.wr_ne _ _ h2]
  by_cases hb:x=b
  ·rcases hV0 with⟨hin,_⟩|⟨_,rfl⟩
   ·exact absurd hin (h3 hb)
   ·exact PS.wr_ne _ _ h1
  ·exact rV x h1 hb
theorem Mk.step(h:Mk I S X T Y i p)(hi:i∈I){q:Pa}(hq:q.ok)(hqp:q=p∨q.inn)(h0:nd T (Y i) q=0){V:PS}{b c:Nat}(hb:b≠0){x':Ino}(hV:Inv V I (upx Y i x'))
  (hx:x'.kind=(Y i).kind∧x'.links=(Y i).links∧x'.size=(Y i).size) (hn:∀j∈I,∀r:Pa,r.ok→nd V (upx Y i x' j) r=if j=i∧r=q then b else nd T (Y j) r)
  (hr:∀x,x≠33→x≠c→(x=b→¬q.inn)→V.rd x=T.rd x) (hc:c<37∨∃w:Pa,w.ok∧w.inn∧c≠0∧nd T (Y i) w=c):Mk I S X V (upx Y i x') i p:=by
 have hne:∀j∈I,∀r:Pa,r.ok→nd T (Y j) r≠0→nd V (upx Y i x' j) r=nd T (Y j) r:=fun j hj r hr h1=>by
  rw[hn j hj r hr,if_neg]
  rintro⟨rfl,rfl⟩
  exact h1 h0
 refine⟨hV,fun j hj=> ?_,fun j hj r hr1 hri hne'=> ?_,fun j hj r hr1 h1=> ?_,fun x hx1 hx2=> ?_⟩
 ·by_cases hji:j=i
  ·subst hji
   rw[K7]
   obtain⟨a1,a2,a3⟩:=h.same j hj
   exact⟨hx.1.trans a1,hx.2.1.trans a2,hx.2.2.trans a3⟩
  ·rw[P9 _ _ hji];exact h.same j hj
 ·rw[hn j hj r hr1,if_neg,h.leaf j hj r hr1 hri hne']
  rintro⟨rfl,rfl⟩
  rcases hqp with rfl|h2
  ·exact hne' ⟨rfl,rfl⟩
  ·exact hri h2
 ·have:=h.old j hj r hr1 h1
  rw[hne j hj r hr1 (by omega),this]
 ·rw[hr x (by omega) ?_ ?_,h.dat x hx1 fun j hj r hr1 hri e=>hx2 j hj r hr1 hri (by rw[hne j hj r hr1 (by omega),e])]
  ·rintro rfl
   rcases hc with hc|⟨w,w1,w2,w3,w4⟩
   ·omega
   ·exact hx2 i hi w w1 w2 (by rw[hne i hi w w1 (by omega),w4])
  ·rintro rfl hin
   exact hx2 i hi q hq hin (by rw[hn i hi q hq,if_pos ⟨rfl,rfl⟩])
end
def Pa.way:Pa→List Pa
 | .r k=> [.r k]
 | .s k a=> [.r k,.s k a]
 | .t a b=> [.r 9,.s 9 a,.t a b]
theorem c1a(p:Pa):1≤p.way.length∧p.way.length≤3:=by cases p<;>exact⟨Nat.le_of_ble_eq_true rfl,Nat.le_of_ble_eq_true rfl⟩
theorem a2F{p q:Pa}{k:Nat}(h:p.way[k]? =some q)(hk:k+1=p.way.length):q=p:=by
 cases p with
 |r a=>
  obtain rfl:k=0:=by simpa[Pa.way] using hk
  cases h;rfl
 |s a b=>
  obtain rfl:k=1:=by simpa[Pa.way] using hk
  cases h;rfl
 |t a b=>
  obtain rfl:k=2:=by simpa[Pa.way] using hk
  cases h;rfl
theorem a6E{p q r:Pa}{k:Nat}(h:p.way[k]? =some q)(h':p.way[k+1]? =some r):r.up=some q:=by
 cases p with
 |r a=>cases h'
 |s a b=>match k,h,h' with
  |0,h,h'=>cases h;cases h';rfl
 |t a b=>match k,h,h' with
  |0,h,h'=>cases h;cases h';rfl
  |1,h,h'=>cases h;cases h';rfl
theorem f01{p q:Pa}(h:p.way[0]? =some q):∃k,q= .r k:=by cases p<;>(cases h;exact⟨_,rfl⟩)
theorem b2L{p q:Pa}{k:Nat}(hp:p.ok)(h:p.way[k]? =some q):q.ok:=by
 cases p with
 |r a=>match k,h with
  |0,h=>cases h;exact hp
 |s a b=>match k,h with
  |0,h=>cases h;exact(A0 (p:= .s a b) rfl hp).1
  |1,h=>cases h;exact hp
 |t a b=>match k,h with
  |0,h=>cases h;exact(A0 (p:= .s 9 a) rfl ⟨.inr rfl,hp.1⟩).1
  |1,h=>cases h;exact⟨.inr rfl,hp.1⟩
  |2,h=>cases h;exact hp
theorem b0N{p q:Pa}{k:Nat}(hp:p.ok)(h:p.way[k]? =some q)(hk:k+1<p.way.length):q.inn:=by
 have hr:p.way[k+1]? =some p.way[k+1] :=List.getElem?_eq_getElem hk
 exact(A0 (a6E h hr) (b2L hp hr)).2.1
def i6(k:Nat):Pa:=if k<8 then .r k else if k<40 then .s 8 (k-8) else .t ((k-40)/32) ((k-40) % 32)
theorem F0{k:Nat}(h:k≤1063):(i6 k).ok∧¬(i6 k).inn:=by
 unfold i6
 by_cases h1:k<8
 ·rw[if_pos h1];exact⟨show k<10 by omega,fun e=>by rcases e with e|e<;>omega⟩
 ·rw[if_neg h1]
  by_cases h2:k<40
  ·rw[if_pos h2];exact⟨⟨.inl rfl,by omega⟩,fun e=>by have:(8:Nat)=9:=e;omega⟩
  ·rw[if_neg h2];exact⟨⟨by omega,Nat.mod_lt _ (by omega)⟩,fun e=>e⟩
theorem b8g{j k:Nat}(h:i6 j=i6 k):j=k:=by
 unfold i6 at h
 by_cases h1:j<8<;>by_cases h2:k<8<;>simp only[h1,h2,if_true,if_false] at h
 ·cases h;rfl
 ·by_cases h3:k<40<;>simp only[h3,if_true,if_false] at h<;>cases h
 ·by_cases h3:j<40<;>simp only[h3,if_true,if_false] at h<;>cases h
 ·by_cases h3:j<40<;>by_cases h4:k<40<;>simp only[h3,h4,if_true,if_false] at h
  ·simp only[Pa.s.injEq] at h;omega
  ·cases h
  ·cases h
  ·simp only[Pa.t.injEq] at h;omega
end Go.Am
/- The blocks of two files, told apart, without a machine. -/
namespace Go.Am
section
variable {S T:PS} {I:List Nat} {X Y:Nat→Ino} {i k:Nat}
end
end Go.Am
/- How many blocks are taken, without a machine. -/
namespace Go.Am
def tkn(S:PS)(b:Nat):Bool:=(match S.rd 33 with
 |some t=>bt t b
 |none=>false)||S.kp b
def t8(S:PS):Nat:=((List.range 53).filter fun j=>tkn S (37+j)).length
def a31(S:PS):Prop:=∀b,37≤b→b<90→tkn S b=true
theorem f9c{S:PS}(h:a31 S):t8 S=53:=by
 unfold t8
 rw[List.filter_eq_self.2 fun j hj=> ?_,List.length_range]
 have:=List.mem_range.1 hj
 exact h (37+j) (by omega) (by omega)
theorem a4P{α:Type}{p q:α→Bool}:∀{l:List α},(∀x∈l,p x=true→q x=true)→(l.filter p).length≤(l.filter q).length
 | [],_=>Nat.le_refl _
 |x::l,h=>by
  have ih:=a4P (l:=l) fun y hy=>h y (List.mem_cons_of_mem _ hy)
  by_cases hp:p x=true
  ·rw[List.filter_cons_of_pos hp,List.filter_cons_of_pos (h x (List.mem_cons_self ..) hp)]
   exact Nat.succ_le_succ ih
  ·rw[List.filter_cons_of_neg hp]
   by_cases hq:q x=true
   ·rw[List.filter_cons_of_pos hq];exact Nat.le_succ_of_le ih
   ·rw[List.filter_cons_of_neg hq];exact ih
theorem b8b{α:Type}[DecidableEq α]{p q:α→Bool}{a:α}:∀{l:List α},l.Nodup→(∀x∈l,x≠a→p x=true→q x=true)→(l.filter p).length≤(l.filter q).length+1
 | [],_,_=>Nat.zero_le _
 |x::l,hn,h=>by
  rw[List.nodup_cons] at hn
  by_cases hx:x=a
  ·have ih:=a4P (p:=p) (q:=q) (l:=l) fun y hy=>h y (List.mem_cons_of_mem _ hy) fun e=>hn.1 (hx▸e▸hy)
   have h1:((x::l).filter p).length≤(l.filter p).length+1:=by
    by_cases hp:p x=true
    ·rw[List.filter_cons_of_pos hp];exact Nat.le_refl _
    ·rw[List.filter_cons_of_neg hp];exact Nat.le_succ _
   have h2:(l.filter q).length≤((x::l).filter q).length:=by
    by_cases hq:q x=true
    ·rw[List.filter_cons_of_pos hq];exact Nat.le_succ _
    ·rw[List.filter_cons_of_neg hq];exact Nat.le_refl _
   omega
  ·have ih:=b8b (p:=p) (q:=q) (a:=a) hn.2 fun y hy=>h y (List.mem_cons_of_mem _ hy)
   by_cases hp:p x=true
   ·rw[List.filter_cons_of_pos hp,List.filter_cons_of_pos (h x (List.mem_cons_self ..) hx hp)]
    exact Nat.succ_le_succ ih
   ·rw[List.filter_cons_of_neg hp]
    by_cases hq:q x=true
    ·rw[List.filter_cons_of_pos hq];exact Nat.le_succ_of_le ih
    ·rw[List.filter_cons_of_neg hq];exact ih
theorem a3l{S:PS}{b:Nat}(hb:b≠33)(t:Bk):t8 (S.wr b t)≤t8 S:=a4P fun j _ h=>by
 unfold tkn at h⊢
 rw[PS.wr_ne S t (Ne.symm hb)] at h
 rw[Bool.or_eq_true] at h⊢
 rcases h with h|h
 ·exact .inl h
 ·refine .inr ?_
  have h:(if 37+j=b then false else S.kp (37+j))=true:=h
  by_cases e:37+j=b
  ·rw[if_pos e] at h;cases h
  ·rwa [if_neg e] at h
theorem g1T{S:PS}{t:Bk}(ht:S.rd 33=some t)(hl:t.length=64){b:Nat}(h1:37≤b)(h2:b<90):t8 (S.wr 33 (A5 t b true))≤t8 S+1:=by
 refine b8b (a:=b-37) List.nodup_range fun j hj hne h=> ?_
 have hj:=List.mem_range.1 hj
 unfold tkn at h⊢
 rw[PS.wr_eq] at h
 rw[ht]
 dsimp only at h⊢
 rw[Bool.or_eq_true] at h⊢
 rcases h with h|h
 ·rw[a3a (by omega),if_neg (by omega)] at h
  exact .inl h
 ·refine .inr ?_
  have h:(if 37+j=33 then false else S.kp (37+j))=true:=h
  rwa [if_neg (by omega)] at h
end Go.Am
