import Derived.Test.YtooooiidpaecmaaGreatDoorAmZa
/- The abstract machine: bytes, rows of them, slices that are made and cloned, where values are not known. -/
namespace Go.Am
open Go Go.RowKit
theorem c2O(z:List AV):∀(n i:Nat) (v:AV),((List.replicate n z).flatten)[i]? =some v→z[i % z.length]? =some v
 |0,i,v,h=>by cases h
 |n+1,i,v,h=>by
  rw[List.replicate_succ,List.flatten_cons] at h
  by_cases hi:i<z.length
  ·rw[List.getElem?_append_left hi] at h
   rw[Nat.mod_eq_of_lt hi];exact h
  ·rw[List.getElem?_append_right (by omega)] at h
   have:=c2O z n _ _ h
   rw[Nat.mod_eq_sub_mod (by omega)];exact this
theorem g0w(z:List AV)(n:Nat):((List.replicate n z).flatten).length=n*z.length:=by
 induction n with
 |zero=>simp
 |succ n ih=>rw[List.replicate_succ,List.flatten_cons,List.length_append,ih,Nat.succ_mul];omega
theorem f6A{z:List AV}{i:Nat}{v:AV}(h:z[i % z.length]? =some v):U3 z i=v:=by
 match z with
 | [] =>cases h
 | [x] =>
  have:i % [x].length=0:=by show i % 1=0;omega
  rw[this] at h
  show x=v
  simpa using h
 |x::y::z=>
  show(x::y::z).getD (i % (x::y::z).length) AV.undef=v
  rw[List.getD_eq_getElem?_getD,h];rfl
theorem At.addZr{m:M}{e k:Nat}{z:List AV}(n:Nat)(hk:k=n*z.length):At (m.addZ e k z) m.next e true ((List.replicate n z).flatten):=by
 refine⟨_,by unfold M.addZ;rw[M.get_new,if_pos rfl],rfl,by rw[g0w,hk],rfl,rfl,rfl,fun i v hv=> ?_⟩
 rw[V3,X2]
 exact f6A (c2O z n i v hv)
section
variable {P:Program} {T:Tb} {fr:Fr} {m:M}
theorem e8L(e sz bytes:Nat)(z:List AV)(l k:RO):run (.mksl e sz bytes z l k) fr m=a0X e sz bytes z (.cst (ev l fr)) (.cst (ev k fr)) .leaf m:=rfl
theorem e5M(e sz bytes:Nat)(z:List AV){n:Nat}(h1:n≤1099511627776)(h2:n*bytes≤1099511627776):a0X e sz bytes z (.cst (iv (n:Int))) (.cst (iv (n:Int))) .leaf m=some (.slice m.next 0 n n false,m.addZ e (n*sz) z):=by
 show bc (Nat.ble n n&&(Nat.ble n 1099511627776&&Nat.ble (n*bytes) 1099511627776)) (fc (Nat.mul n sz) fun k=>some (AV.slice m.next (nat_lit 0) n n false,m.new (.cells ⟨e,k,.leaf,z,none,false,true,false⟩))) none=_
 rw[A1,A1,A1,decide_eq_true (Nat.le_refl n),decide_eq_true h1,decide_eq_true h2]
 rw[show(true&&(true&&true))=true from rfl,l9,z7]
 rfl
theorem f05(x:RO):run (.b2s x) fr m=a1b (.cst (ev x fr)) .leaf m:=rfl
inductive BsAt(m:M):AV→List UInt8→Nat→Prop where
 |row {b off cap:Nat} {lim:Bool} {l:List UInt8} {cells:List AV} (h:AtR m b cells) (hl:off+l.length≤cells.length) (hc:(cells.drop off).take l.length=i9 l):BsAt m (.slice b off l.length cap lim) l b
theorem BsAt.keep{m m':M}{s:AV}{l:List UInt8}{b:Nat}{F:Nat→Prop}(h:BsAt m s l b)(hw:Wf m)(k:Keep m m' F)(hf:¬F b):BsAt m' s l b:=by
 cases h with
 |row h hl hc=>exact .row (h.keep hw k hf) hl hc
theorem BsAt.lt{s:AV}{l:List UInt8}{b:Nat}(h:BsAt m s l b)(hw:Wf m):b<m.next:=by
 cases h with
 |row h hl hc=>exact h.lt hw
theorem BsAt.len{s:AV}{l:List UInt8}{b:Nat}(h:BsAt m s l b):E4 false s=some l.length:=by cases h;rfl
theorem BsAt.run_b2s{s:AV}{l:List UInt8}{b:Nat}(h:BsAt m s l b):a1b (.cst s) .leaf m=some (tv l,m):=by
 cases h with
 | @row b off cap lim l cells h hl hc=>
  have e:m.rdN b off l.length=some (i9 l):=by rw[h.rdN hl,hc]
  by_cases h0:l.length=0
  ·have:l= [] :=List.length_eq_zero_iff.1 h0
   subst this
   rfl
  show bc (Nat.beq l.length 0) (some (AV.p (.string ⟨#[]⟩),m)) (ob (m.rdN b off l.length) fun l=>Option.rec (motive:=fun _=>R) (bc (l.all a4c) (some (.txt l,m)) none) (fun s=>some (.p (.string ⟨s.toArray⟩),m)) (P7 l))=_
  rw[show Nat.beq l.length 0=false from by cases l with|nil=>exact absurd rfl h0|cons x l=>rfl,u7,e,C5,f8f]
  rfl
theorem BsAt.src{s:AV}{l:List UInt8}{b:Nat}(h:BsAt m s l b):Rds m s 1 l.length (i9 l):=by
 cases h with
 | @row b off cap lim l cells h hl hc=>
  refine⟨rfl,?_,by simp[i9]⟩
  refine a9h (by rw[Nat.mul_one,h.rdN hl,hc]) fun e=> ?_
  rw[List.length_eq_zero_iff.1 e];rfl
end
end Go.Am
