import Derived.Test.YtooooiidpaecmaaGreatDoorIaA
import Derived.Test.YtooooiidpaecmaaGreatDoorWrd
import Derived.Test.YtooooiidpaecmaaGreatDoorJs
import Derived.Test.YtooooiidpaecmaaGreatDoorAmSc
set_option linter.unusedVariables false
set_option linter.unusedSimpArgs false
/- A group and its operation in memory: what is read, written, freed. -/
namespace Go.Am
open Go Go.RowKit
section
variable {m m':M}
theorem MpAt.lookOk{b:Nat}{L:Al}(h:MpAt m b L)(z:AV)(k:Nat):R5 (some .i64) z true (.cst (.map b)) (.cst (iv (k:Int))) .leaf m=some (.tuple [(lkp L k).getD z,.b (lkp L k).isSome],m):=by
 show(ob (Am.mapOf m (.map b)) fun es=>bc (Q2 (some .i64) (iv (k:Int)) es) (match D4 (iv (k:Int)) 0 es with|some q=>some (bc true (.tuple [q.2,.b true]) q.2,m)|none=>some (bc true (.tuple [z,.b false]) z,m)) none)=_
 rw[h.mapOf,C5,a8U,l9]
 have:=b77 k L 0
 cases hz:D4 (iv (k:Int)) 0 (ents L) with
 |none=>rw[hz] at this;rw[←this];rfl
 |some q=>rw[hz] at this;rw[←this];rfl
def Nk(L:Al):Prop:=(L.map (·.1)).Nodup
theorem a42(k:Nat)(v:AV)(j:Nat):∀L:Al,lkp (H2 L k v) j=if j=k then some v else lkp L j
 | [] =>by
  show(if k=j then some v else none)=_
  by_cases h:j=k
  ·rw[if_pos h,if_pos h.symm]
  ·rw[if_neg h,if_neg fun e=>h e.symm];rfl
 |e::l=>by
  unfold H2
  by_cases h:e.1=k
  ·rw[if_pos h]
   show(if k=j then some v else lkp l j)=_
   by_cases hj:j=k
   ·rw[if_pos hj,if_pos hj.symm]
   ·rw[if_neg hj,if_neg fun x=>hj x.symm]
    show _=if e.1=j then some e.2 else lkp l j
    rw[if_neg];omega
  ·rw[if_neg h]
   show(if e.1=j then some e.2 else lkp (H2 l k v) j)=if j=k then some v else if e.1=j then some e.2 else lkp l j
   rw[a42 k v j l]
   by_cases hj:e.1=j
   ·rw[if_pos hj,if_pos hj,if_neg (by omega)]
   ·rw[if_neg hj,if_neg hj]
theorem c7G{k:Nat}{v:AV}{x:Nat}:∀{L:Al},x∈(H2 L k v).map (·.1)→x=k∨x∈L.map (·.1)
 | [],h=>by
  have h:x∈[k] :=h
  exact .inl (List.mem_singleton.1 h)
 |e::l,h=>by
  unfold H2 at h
  by_cases he:e.1=k
  ·rw[if_pos he] at h
   rcases List.mem_cons.1 h with h|h
   ·exact .inl h
   ·exact .inr (List.mem_cons_of_mem _ h)
  ·rw[if_neg he] at h
   rcases List.mem_cons.1 h with h|h
   ·exact .inr (by rw[h];exact List.mem_cons_self ..)
   ·rcases c7G h with h|h
    ·exact .inl h
    ·exact .inr (List.mem_cons_of_mem _ h)
theorem Nk.put{k:Nat}{v:AV}:∀{L:Al},Nk L→Nk (H2 L k v)
 | [],_=>by unfold Nk;show([k] :List Nat).Nodup;simp
 |e::l,h=>by
  unfold Nk at h
  rw[List.map_cons,List.nodup_cons] at h
  unfold H2
  by_cases he:e.1=k
  ·rw[if_pos he]
   unfold Nk
   rw[List.map_cons,List.nodup_cons]
   exact⟨by rw[←he];exact h.1,h.2⟩
  ·rw[if_neg he]
   unfold Nk
   rw[List.map_cons,List.nodup_cons]
   exact⟨fun hm=>by rcases c7G hm with hm|hm;exact he hm;exact h.1 hm,Nk.put (L:=l) h.2⟩
theorem c7q{k x:Nat}:∀{L:Al},x∈(H0 L k).map (·.1)→x∈L.map (·.1)
 | [],h=>h
 |e::l,h=>by
  unfold H0 at h
  by_cases he:e.1=k
  ·rw[if_pos he] at h;exact List.mem_cons_of_mem _ h
  ·rw[if_neg he] at h
   rcases List.mem_cons.1 h with h|h
   ·rw[h];exact List.mem_cons_self ..
   ·exact List.mem_cons_of_mem _ (c7q h)
theorem Nk.del{k:Nat}:∀{L:Al},Nk L→Nk (H0 L k)
 | [],h=>h
 |e::l,h=>by
  unfold Nk at h
  rw[List.map_cons,List.nodup_cons] at h
  unfold H0
  by_cases he:e.1=k
  ·rw[if_pos he];exact h.2
  ·rw[if_neg he]
   unfold Nk
   rw[List.map_cons,List.nodup_cons]
   exact⟨fun hm=>h.1 (c7q hm),Nk.del (L:=l) h.2⟩
theorem b9W{k:Nat}:∀{L:Al},k∉L.map (·.1)→lkp L k=none
 | [],_=>rfl
 |e::l,h=>by
  show(if e.1=k then some e.2 else lkp l k)=none
  rw[if_neg fun x=>h (by rw[←x];exact List.mem_cons_self ..)]
  exact b9W fun hm=>h (List.mem_cons_of_mem _ hm)
theorem a5i(k j:Nat):∀{L:Al},Nk L→lkp (H0 L k) j=if j=k then none else lkp L j
 | [],_=>by
  show none=_
  by_cases h:j=k
  ·rw[if_pos h]
  ·rw[if_neg h];rfl
 |e::l,h=>by
  unfold Nk at h
  rw[List.map_cons,List.nodup_cons] at h
  unfold H0
  by_cases he:e.1=k
  ·rw[if_pos he]
   by_cases hj:j=k
   ·rw[if_pos hj,hj,←he];exact b9W h.1
   ·rw[if_neg hj]
    show _=if e.1=j then some e.2 else lkp l j
    rw[if_neg (by omega)]
  ·rw[if_neg he]
   show(if e.1=j then some e.2 else lkp (H0 l k) j)=if j=k then none else if e.1=j then some e.2 else lkp l j
   rw[a5i k j (L:=l) h.2]
   by_cases hj:e.1=j
   ·rw[if_pos hj,if_pos hj,if_neg (by omega)]
   ·rw[if_neg hj,if_neg hj]
end
end Go.Am
namespace Go.Proofs.YtooooiidpaecmaaGreatDoor
open Go Go.Am
def fup{α:Type}(f:Nat→α)(k:Nat)(v:α):Nat→α:=fun j=>if j=k then v else f j
section
variable {m m':M} {mb:Nat} {f:Nat→Option Bk} {own:Nat→Prop}
def BmAt(m:M)(mb:Nat)(f:Nat→Option Bk)(own:Nat→Prop):Prop:=∃L:Al,MpAt m mb L∧Nk L∧∀k,(f k=none→lkp L k=none)∧∀t,f k=some t→t.length=64∧∃v b,lkp L k=some v∧BtU m v t b∧own b
theorem BmAt.kd0(h:BmAt m mb f own):kd m mb 0:=by
 obtain⟨L,h,_⟩:=h
 exact h.kd
theorem BmAt.hit(h:BmAt m mb f own){k:Nat}{t:Bk}(hk:f k=some t):∃v b,BtU m v t b∧own b∧t.length=64∧R5 (some .i64) j7 true (.cst (.map mb)) (.cst (iv (k:Int))) .leaf m=some (.tuple [v,.b true],m):=by
 obtain⟨L,h1,_,h2⟩:=h
 obtain⟨h3,v,b,h4,h5,h6⟩:=(h2 k).2 t hk
 refine⟨v,b,h5,h6,h3,?_⟩
 rw[h1.lookOk,h4];rfl
theorem BmAt.miss(h:BmAt m mb f own){k:Nat}(hk:f k=none):R5 (some .i64) j7 true (.cst (.map mb)) (.cst (iv (k:Int))) .leaf m=some (.tuple [j7,.b false],m):=by
 obtain⟨L,h1,_,h2⟩:=h
 rw[h1.lookOk,(h2 k).1 hk];rfl
theorem BmAt.keep(h:BmAt m mb f own)(hw:Wf m){F:Nat→Prop}(k:Keep m m' F)(hb:¬F mb)(ho:∀b,own b→¬F b):BmAt m' mb f own:=by
 obtain⟨L,h1,h2,h3⟩:=h
 refine⟨L,h1.keep hw k hb,h2,fun j=>⟨(h3 j).1,fun t ht=> ?_⟩⟩
 obtain⟨g1,v,b,g2,g3,g4⟩:=(h3 j).2 t ht
 exact⟨g1,v,b,g2,g3.keep hw k (ho b g4),g4⟩
theorem BmAt.mono{own':Nat→Prop}(h:BmAt m mb f own)(ho:∀b,own b→own' b):BmAt m mb f own':=by
 obtain⟨L,h1,h2,h3⟩:=h
 refine⟨L,h1,h2,fun j=>⟨(h3 j).1,fun t ht=> ?_⟩⟩
 obtain⟨g1,v,b,g2,g3,g4⟩:=(h3 j).2 t ht
 exact⟨g1,v,b,g2,g3,ho b g4⟩
theorem BmAt.put(h:BmAt m mb f own)(hw:Wf m){v:AV}{t:Bk}{b:Nat}(hv:BtU m v t b)(ht:t.length=64)(k:Nat):
  ∃m',V5 (some .i64) (.cst (.map mb)) (.cst (iv (k:Int))) (.cst v) .leaf m=some (AV.undef,m')∧BmAt m' mb (fup f k (some t)) (fun x=>own x∨x=b)∧Keep m m' (fun x=>x=mb)∧m'.next=m.next:=by
 obtain⟨L,h1,h2,h3⟩:=h
 obtain⟨m',e,g1,g2,g3⟩:=h1.upd hw k v
 refine⟨m',e,⟨_,g1,h2.put,fun j=> ?_⟩,g2,g3⟩
 rw[a42]
 unfold fup
 by_cases hj:j=k
 ·rw[if_pos hj,if_pos hj]
  refine⟨fun e=>(by cases e),fun u hu=> ?_⟩
  cases hu
  exact⟨ht,v,b,rfl,hv.keep hw g2 (hv.kd.ne h1.kd),.inr rfl⟩
 ·rw[if_neg hj,if_neg hj]
  refine⟨(h3 j).1,fun u hu=> ?_⟩
  obtain⟨k1,w,c,k2,k3,k4⟩:=(h3 j).2 u hu
  exact⟨k1,w,c,k2,k3.keep hw g2 (k3.kd.ne h1.kd),.inl k4⟩
theorem BmAt.del(h:BmAt m mb f own)(hw:Wf m)(k:Nat):
  ∃m',a1V (some .i64) (.cst (.map mb)) (.cst (iv (k:Int))) .leaf m=some (AV.undef,m')∧BmAt m' mb (fup f k none) own∧Keep m m' (fun x=>x=mb)∧m'.next=m.next:=by
 obtain⟨L,h1,h2,h3⟩:=h
 obtain⟨m',e,g1,g2,g3⟩:=h1.del hw k
 refine⟨m',e,⟨_,g1,h2.del,fun j=> ?_⟩,g2,g3⟩
 rw[a5i k j h2]
 unfold fup
 by_cases hj:j=k
 ·rw[if_pos hj,if_pos hj]
  exact⟨fun _=>rfl,fun u hu=>by cases hu⟩
 ·rw[if_neg hj,if_neg hj]
  refine⟨(h3 j).1,fun u hu=> ?_⟩
  obtain⟨k1,w,c,k2,k3,k4⟩:=(h3 j).2 u hu
  exact⟨k1,w,c,k2,k3.keep hw g2 (k3.kd.ne h1.kd),k4⟩
def FmAt(m:M)(mb:Nat)(f:Nat→Bool):Prop:=∃L:Al,MpAt m mb L∧Nk L∧(∀k v,lkp L k=some v→v= .agg [])∧∀k,(lkp L k).isSome=f k
theorem FmAt.kd0{g:Nat→Bool}(h:FmAt m mb g):kd m mb 0:=by
 obtain⟨L,h,_⟩:=h
 exact h.kd
theorem FmAt.look{g:Nat→Bool}(h:FmAt m mb g)(k:Nat):R5 (some .i64) (.agg []) true (.cst (.map mb)) (.cst (iv (k:Int))) .leaf m=some (.tuple [.agg [],.b (g k)],m):=by
 obtain⟨L,h1,_,h2,h3⟩:=h
 rw[h1.lookOk,h3]
 cases hl:lkp L k with
 |none=>rfl
 |some v=>rw[h2 k v hl];rfl
theorem FmAt.keep{g:Nat→Bool}(h:FmAt m mb g)(hw:Wf m){F:Nat→Prop}(k:Keep m m' F)(hb:¬F mb):FmAt m' mb g:=by
 obtain⟨L,h1,h2,h3⟩:=h
 exact⟨L,h1.keep hw k hb,h2,h3⟩
theorem FmAt.put{g:Nat→Bool}(h:FmAt m mb g)(hw:Wf m)(k:Nat):
  ∃m',V5 (some .i64) (.cst (.map mb)) (.cst (iv (k:Int))) (.cst (.agg [])) .leaf m=some (AV.undef,m')∧FmAt m' mb (fup g k true)∧Keep m m' (fun x=>x=mb)∧m'.next=m.next:=by
 obtain⟨L,h1,h2,h3,h4⟩:=h
 obtain⟨m',e,g1,g2,g3⟩:=h1.upd hw k (.agg [])
 refine⟨m',e,⟨_,g1,h2.put,fun j v hv=> ?_,fun j=> ?_⟩,g2,g3⟩
 ·rw[a42] at hv
  by_cases hj:j=k
  ·rw[if_pos hj] at hv;cases hv;rfl
  ·rw[if_neg hj] at hv;exact h3 j v hv
 ·rw[a42]
  unfold fup
  by_cases hj:j=k
  ·rw[if_pos hj,if_pos hj];rfl
  ·rw[if_neg hj,if_neg hj];exact h4 j
theorem FmAt.del{g:Nat→Bool}(h:FmAt m mb g)(hw:Wf m)(k:Nat):
  ∃m',a1V (some .i64) (.cst (.map mb)) (.cst (iv (k:Int))) .leaf m=some (AV.undef,m')∧FmAt m' mb (fup g k false)∧Keep m m' (fun x=>x=mb)∧m'.next=m.next:=by
 obtain⟨L,h1,h2,h3,h4⟩:=h
 obtain⟨m',e,g1,g2,g3⟩:=h1.del hw k
 refine⟨m',e,⟨_,g1,h2.del,fun j v hv=> ?_,fun j=> ?_⟩,g2,g3⟩
 ·rw[a5i k j h2] at hv
  by_cases hj:j=k
  ·rw[if_pos hj] at hv;cases hv
  ·rw[if_neg hj] at hv;exact h3 j v hv
 ·rw[a5i k j h2]
  unfold fup
  by_cases hj:j=k
  ·rw[if_pos hj,if_pos hj];rfl
  ·rw[if_neg hj,if_neg hj];exact h4 j
end
structure Ad where
 g:Nat
 o:Nat
 l:Nat
 d:Nat
 c:Nat
 gl:Nat
 gf:Nat
 ol:Nat
 od:Nat
 of:Nat
 lp:Nat
noncomputable abbrev i5:List AV:= [iv 64,iv 90,iv 6,iv 30,iv 2,iv 32,iv 1,iv 33,iv 1,iv 34,iv 3,iv 37]
abbrev a4z:TypeId:=139
abbrev a4l:TypeId:=131
abbrev a4F:TypeId:=120
structure GAt(m:M)(A:Ad)(S:PS)(own:Nat→Prop):Prop where
 g:At m A.g a4l true [.ptr A.d 0,.ptr A.l 0,.ptr A.c 0,iv 64,iv 90,iv 6,iv 30,iv 2,iv 32,iv 1,iv 33,iv 1,iv 34,iv 3,iv 37,.map A.gl,.map A.gf,.ptr A.o 0]
 o:At m A.o a4z true [.ptr A.g 0,.map A.ol,.map A.od,.map A.of]
 l:At m A.l a4F true [.ptr A.d 0,iv 64,iv 90,iv 6,iv 30,iv 2,iv 32,iv 1,iv 33,iv 1,iv 34,iv 3,iv 37,iv 1,iv 0,iv 0,.map A.lp,.b false]
 lp:MpAt m A.lp []
 gf:MpAt m A.gf []
 nm: [A.gl,A.gf,A.ol,A.od,A.of,A.lp].Nodup
 ow:∀b,own b→kd m b (l3+1)
 mp:∃fl fd fg:Nat→Option Bk,BmAt m A.ol fl own∧BmAt m A.od fd own∧BmAt m A.gl fg own∧FmAt m A.of S.kp∧(∀b,S.rd b=(fl b).or ((fd b).or (fg b)))∧∀b,37≤b→fg b=none
abbrev Ad.ms(A:Ad):List Nat:= [A.ol,A.od,A.of]
section
variable {m m':M} {A:Ad} {S:PS} {own:Nat→Prop}
theorem GAt.keep(h:GAt m A S own)(hw:Wf m){F:Nat→Prop}(k:Keep m m' F)(h1:¬F A.g)(h2:¬F A.o)(h3:¬F A.l)(h4:∀b∈[A.gl,A.gf,A.ol,A.od,A.of,A.lp],¬F b)(h5:∀b,own b→¬F b):GAt m' A S own:=by
 obtain⟨fl,fd,fg,g1,g2,g3,g4,g5⟩:=h.mp
 exact⟨h.g.keep hw k h1,h.o.keep hw k h2,h.l.keep hw k h3,h.lp.keep hw k (h4 _ (by simp)),h.gf.keep hw k (h4 _ (by simp)),h.nm,fun b hb=>(h.ow b hb).of_get (k.get b ((h.ow b hb).lt hw) (h5 b hb)),
  fl,fd,fg,g1.keep hw k (h4 _ (by simp)) h5,g2.keep hw k (h4 _ (by simp)) h5,g3.keep hw k (h4 _ (by simp)) h5,g4.keep hw k (h4 _ (by simp)),g5⟩
theorem GAt.k0(h:GAt m A S own)(hw:Wf m)(k:Keep m m' fun _=>False):GAt m' A S own:=h.keep hw k id id id (fun _ _=>id) (fun _ _=>id)
theorem GAt.kdm(h:GAt m A S own):∀b∈[A.gl,A.gf,A.ol,A.od,A.of,A.lp],kd m b 0:=by
 obtain⟨fl,fd,fg,g1,g2,g3,g4,g5⟩:=h.mp
 intro b hb
 simp only[List.mem_cons,List.not_mem_nil,or_false] at hb
 rcases hb with rfl|rfl|rfl|rfl|rfl|rfl
 ·exact g3.kd0
 ·exact h.gf.kd
 ·exact g1.kd0
 ·exact g2.kd0
 ·exact g4.kd0
 ·exact h.lp.kd
theorem GAt.kp(h:GAt m A S own)(hw:Wf m){E:List Nat}(k:y6 m m' E)(hE:∀x∈[0,a4l+1,a4z+1,a4F+1,l3+1],x∉E:=by decide):GAt m' A S own:=
 h.keep hw k (Kinds.not h.g.kd (hE _ (by simp)) (by decide)) (Kinds.not h.o.kd (hE _ (by simp)) (by decide)) (Kinds.not h.l.kd (hE _ (by simp)) (by decide))
  (fun b hb=>by
   rintro(⟨j,h1,h2⟩|⟨h1,_⟩)
   ·exact hE 0 (by simp) ((h.kdm b hb).inj h2▸h1)
   ·cases h1)
  (fun b hb=>Kinds.not (h.ow b hb) (hE _ (by simp)) (by decide))
theorem GAt.kb(h:GAt m A S own)(hw:Wf m){r:Nat}(k:Keep m m' fun b=>b=r)(hr:kd m r (l3+1))(ho:¬own r):GAt m' A S own:=
 h.keep hw k (h.g.kd.ne hr) (h.o.kd.ne hr) (h.l.kd.ne hr) (fun b hb=>(h.kdm b hb).ne hr) (fun b hb e=>ho (e▸hb))
theorem GAt.lt(h:GAt m A S own)(hw:Wf m){b:Nat}(hb:own b):b<m.next:=(h.ow b hb).lt hw
theorem g4u(b o:Nat):d8 Tryz.prog .eql G4 (.ptr b o) s9=some (.b false):=by kernel_rfl
theorem b1e(b o:Nat):d8 Tryz.prog .eql a77 (.ptr b o) s9=some (.b false):=by kernel_rfl
theorem g3X(b o:Nat):d8 Tryz.prog .eql b7K (.ptr b o) s9=some (.b false):=by kernel_rfl
theorem e7M(b o:Nat):d8 Tryz.prog .neq G4 (.ptr b o) s9=some (.b true):=by kernel_rfl
theorem f8U{P:Program}{t:TypeId}{b:Nat}(h:R3 P (P.underlying t) (.ptr b 0) (.ptr b 0)=some true):d8 P .neq t (.ptr b 0) (.ptr b 0)=some (.b false):=by
 show(((R3 P (P.underlying t) (.ptr b 0) (.ptr b 0)).or _).or _).map _=_
 rw[h];rfl
theorem f83(b:Nat):d8 Tryz.prog .neq G4 (.ptr b 0) (.ptr b 0)=some (.b false):=f8U (by
 have e:R3 Tryz.prog (Tryz.prog.underlying G4) (.ptr b 0) (.ptr b 0)=bc (Nat.beq b b) (some true) none:=by kernel_rfl
 rw[e,Nat.beq_refl];rfl)
theorem p1:d8 Tryz.prog .add d5 (iv 0) (iv 1)=some (iv 1):=by kernel_rfl
theorem p2:d8 Tryz.prog .add d5 (iv 1) (iv 1)=some (iv 2):=by kernel_rfl
theorem a9J(h:GAt m A S own):Ran Tryz.prog tb a3I [.ptr A.o 0] m (iv 0) m:=by
 refine WpF.go g5l ?_
 simp-implicitDefEqProofs only[g63,e69,e0U,d5V,d4q,g4u,f83,h.o.rd,h.g.rd,↓reduceIte,Nat.reduceEqDiff,List.getElem?_cons_succ,List.getElem?_cons_zero,wA,wB,wC,wD]
theorem P3{g:FuncId}{fn:Func}{args:List AV}{m m':M}{v:AV}(hf:Tryz.prog.funcs[g]? =some fn)(hit:tb.it g args m=some (some (v,m'))):Ran Tryz.prog tb g args m v m':=
 f7w (by rw[i7];exact a0H hf) hit ⟨rfl,rfl⟩
theorem f9e{mb:Nat}(hw:Wf m):∃m' B,At m' B a4d true [.map mb]∧Keep m m' (fun _=>False)∧m.next≤B∧Ran Tryz.prog tb b3N [.map mb] m (.func a4L [.ptr B 0]) m':=by
 obtain⟨m1,e1,a1,k1,n1⟩:=l6 hw a4d 1 [.map mb]
 refine⟨m1,m.next,a1,k1,Nat.le_refl _,?_⟩
 refine WpF.go g5R ?_
 simp-implicitDefEqProofs only[g60,e4j,e8T,e1,↓reduceIte,Nat.reduceEqDiff,wA,wB,wC,wD]
theorem f58{mb B:Nat}(hB:At m B a4d true [.map mb])(h:MpAt m mb []):Ran Tryz.prog tb a9i [.func a4L [.ptr B 0]] m j7 m:=by
 have hs:=f5S (P:=Tryz.prog) (g:=a9i) (et:=3) (kf:=a4L) hB h
 rw[f5Y] at hs
 exact P3 Tryz.func199 hs
theorem f5O(hw:Wf m)(h:GAt m A S own):∃m',Keep m m' (fun _=>False)∧Ran Tryz.prog tb b3x [.ptr A.l 0] m j7 m':=by
 obtain⟨m1,B,a1,k1,n1,r1⟩:=f9e (mb:=A.lp) hw
 have r2:=f58 a1 (h.lp.keep hw k1 id)
 refine⟨m1,k1,?_⟩
 refine WpF.go g52 ?_
 simp-implicitDefEqProofs only[f2p,e92,e4V,e4g,e6I,g3X,h.l.rd,r1.eq,r2.eq,↓reduceIte,Nat.reduceEqDiff,List.getElem?_cons_succ,List.getElem?_cons_zero,wA,wB,wC,wD]
 refine y7 (fun j fr mk=>(ev (tm 14) fr=iv 0∧ev (tm 15) fr=iv 0∧ev (tm 3) fr=j7)∧mk=m1) (k:=0) ⟨by simp-implicitDefEqProofs only[d7,↓reduceIte,Nat.reduceEqDiff,and_self],rfl⟩ ?_
 rintro j fr mk ⟨⟨e14,e15,e3⟩,rfl⟩
 simp-implicitDefEqProofs only[f2p,e0a,d5B,e14,e15,e3,↓reduceIte,Nat.reduceEqDiff,wA,wB,wC,wD]
theorem f6n(hw:Wf m)(h:GAt m A S own)(b:Nat):∃m',Keep m m' (fun _=>False)∧Ran Tryz.prog tb a6Y [.ptr A.g 0,iv b] m (.tuple [j7,.b false]) m':=by
 obtain⟨m1,k1,r1⟩:=f5O hw h
 refine⟨m1,k1,?_⟩
 refine WpF.go g4Q ?_
 simp-implicitDefEqProofs only[f2F,e4u,e87,h.g.rd,r1.eq,↓reduceIte,Nat.reduceEqDiff,Nat.reduceAdd,List.getElem?_cons_succ,List.getElem?_cons_zero,wA,wB,wC,wD]
 refine y7 (fun j fr mk=>(ev (tm 13) fr=iv 0∧ev (tm 14) fr=iv 0)∧mk=m1) (k:=0) ⟨by simp-implicitDefEqProofs only[d7,↓reduceIte,Nat.reduceEqDiff,and_self],rfl⟩ ?_
 rintro j fr mk ⟨⟨e13,e14⟩,rfl⟩
 simp-implicitDefEqProofs only[f2F,e7J,d7K,e13,e14,↓reduceIte,Nat.reduceEqDiff,wA,wB,wC,wD]
theorem f9M(hw:Wf m)(h:GAt m A S own)(b:Nat):∃m',Keep m m' (fun _=>False)∧Ran Tryz.prog tb a3z [.ptr A.g 0,iv b] m (.b (S.kp b)) m':=by
 obtain⟨fl,fd,fg,g1,g2,g3,g4,g5,g6⟩:=h.mp
 have hl:R5 (some .i64) (.agg []) true (.cst (.map A.gf)) (.cst (iv (b:Int))) .leaf m=some (.tuple [.agg [],.b false],m):=h.gf.lookOk (.agg []) b
 obtain⟨m1,e1,a1,k1,n1⟩:=B0 hw b8T 0 []
 obtain⟨m2,e2,a2,k2,n2⟩:=a1.st k1.wf 0 []
 have k02:Keep m m2 fun _=>False:=k1.trans k2 fun b hb e=>by omega
 have h2:=h.k0 hw k02
 obtain⟨m3,k3,r3⟩:=f6n k02.wf h2 b
 have h3:=h2.k0 k02.wf k3
 obtain⟨_,_,_,_,_,_,q4,_⟩:=h3.mp
 refine⟨m3,k02.tf k3,?_⟩
 have hz:C1 (.agg [])=some [] :=rfl
 refine WpF.go g5M ?_
 cases hk:S.kp b with
 |false=>simp-implicitDefEqProofs only[f2E,b1W,b18,b2C,b2S,b1z,b29,b27,b1e,h.g.rd,hl,e1,hz,e2,r3.eq,h3.g.rd,h3.o.rd,e7M,q4.look,hk,↓reduceIte,Nat.reduceEqDiff,Nat.reduceAdd,List.getElem?_cons_succ,List.getElem?_cons_zero,wA,wB,wC,wD]
 |true=>simp-implicitDefEqProofs only[f2E,b1W,b18,b2C,b2S,b1z,b29,b27,b1e,h.g.rd,hl,e1,hz,e2,r3.eq,h3.g.rd,h3.o.rd,e7M,q4.look,hk,↓reduceIte,Nat.reduceEqDiff,Nat.reduceAdd,List.getElem?_cons_succ,List.getElem?_cons_zero,wA,wB,wC,wD]
theorem f7A(hw:Wf m)(h:GAt m A S own){fg:Nat→Option Bk}(g3:BmAt m A.gl fg own){b:Nat}{t:Bk}(hb:b<90)(ht:fg b=some t):
  ∃m' s r,BtU m' s t r∧SlAt m' l3 1 s t.length (i9 t) (some r)∧t.length=64∧Keep m m' (fun _=>False)∧m.next≤r∧Ran Tryz.prog tb b3J [.ptr A.g 0,iv b] m (.tuple [s,iv 0]) m':=by
 obtain⟨v,q,hv,ho,h64,hl⟩:=g3.hit ht
 obtain⟨m1,s,r,hb1,hs1,k1,n1,r1⟩:=a0x hw hv.bs (fun e=>by rw[e] at h64;cases h64) (by omega)
 refine⟨m1,s,r,hb1,hs1,h64,k1,n1,?_⟩
 refine WpF.go g6d ?_
 simp-implicitDefEqProofs only[g7M,d9q,e8y,e24,e6X,e4G,e0t,b1e,show((b:Int)<0)=False from eq_false (by omega),h.g.rd,show((90:Int)≤(b:Int))=False from eq_false (by omega),hl,r1.eq,↓reduceIte,Nat.reduceEqDiff,Nat.reduceAdd,List.getElem?_cons_succ,List.getElem?_cons_zero,wA,wB,wC,wD]
theorem T8(hw:Wf m)(h:GAt m A S own){b:Nat}{t:Bk}(hb:b<90)(ht:S.rd b=some t):
  ∃m' s r,BtU m' s t r∧SlAt m' l3 1 s t.length (i9 t) (some r)∧t.length=64∧Keep m m' (fun _=>False)∧m.next≤r∧Ran Tryz.prog tb O6 [.ptr A.o 0,iv b] m (.tuple [s,iv 0]) m':=by
 obtain⟨fl,fd,fg,g1,g2,g3,g4,g5,g6⟩:=h.mp
 have hL:=a9J h
 rw[g5] at ht
 obtain⟨m1,e1,a1,k1,n1⟩:=l6 hw b6G 2 [.map A.ol,.map A.od]
 have hw1:=k1.wf
 have h1:=h.k0 hw k1
 have g1':=g1.keep hw k1 id fun _ _=>id
 have g2':=g2.keep hw k1 id fun _ _=>id
 have g3':=g3.keep hw k1 id fun _ _=>id
 have hn:=k1.next
 have q0:=x9 (m:=m1) 1 m.next 0 2 2 false (show 0<2 by omega)
 have q1:=x9 (m:=m1) 1 m.next 0 2 2 false (show 1<2 by omega)
 have c2:((2:Nat):Int)=2:=rfl
 rw[nc0] at q0
 rw[show((1:Nat):Int)=1 from rfl] at q1
 cases hl:fl b with
 |some u=>
  rw[hl] at ht
  cases ht
  obtain⟨v,q,hv,ho,h64,hlk⟩:=g1'.hit hl
  obtain⟨m2,s,r,hb2,hs2,k2,n2,r2⟩:=a0x hw1 hv.bs (fun e=>by rw[e] at h64;cases h64) (by omega)
  refine⟨m2,s,r,hb2,hs2,h64,k1.tf k2,by omega,?_⟩
  refine WpF.go b3Y ?_
  simp-implicitDefEqProofs only[W2,a5S,a6a,a5I,a6j,hL.eq,h.o.rd,e1,↓reduceIte,Nat.reduceEqDiff,Nat.reduceAdd,Nat.reduceLeDiff,List.getElem?_cons_succ,List.getElem?_cons_zero,exists_eq_left',wA,wB,wC,wD]
  refine I9 ?_
  simp-implicitDefEqProofs only[W2,a0Q,a1z,a1y,a1H,b1w,q0,c2,a1.rd,hlk,r2.eq,show((0:Int)<2)=True from eq_true (by omega),↓reduceIte,Nat.reduceEqDiff,Nat.reduceMul,List.getElem?_cons_succ,List.getElem?_cons_zero,wA,wB,wC,wD]
 |none=>
  rw[hl,Option.none_or] at ht
  have hm1:=g1'.miss hl
  cases hd:fd b with
  |some u=>
   rw[hd] at ht
   cases ht
   obtain⟨v,q,hv,ho,h64,hlk⟩:=g2'.hit hd
   obtain⟨m2,s,r,hb2,hs2,k2,n2,r2⟩:=a0x hw1 hv.bs (fun e=>by rw[e] at h64;cases h64) (by omega)
   refine⟨m2,s,r,hb2,hs2,h64,k1.tf k2,by omega,?_⟩
   refine WpF.go b3Y ?_
   simp-implicitDefEqProofs only[W2,a5S,a6a,a5I,a6j,hL.eq,h.o.rd,e1,↓reduceIte,Nat.reduceEqDiff,Nat.reduceAdd,Nat.reduceLeDiff,List.getElem?_cons_succ,List.getElem?_cons_zero,exists_eq_left',wA,wB,wC,wD]
   refine I9 ?_
   simp-implicitDefEqProofs only[W2,a0Q,a1z,a1y,a1H,a4X,q0,c2,a1.rd,hm1,p1,show((0:Int)<2)=True from eq_true (by omega),↓reduceIte,Nat.reduceEqDiff,Nat.reduceMul,List.getElem?_cons_succ,List.getElem?_cons_zero,wA,wB,wC,wD]
   refine I9 ?_
   simp-implicitDefEqProofs only[W2,a0Q,a1z,a1y,a1H,b1w,q1,a1.rd,hlk,r2.eq,show((1:Int)<2)=True from eq_true (by omega),↓reduceIte,Nat.reduceEqDiff,Nat.reduceMul,List.getElem?_cons_succ,List.getElem?_cons_zero,wA,wB,wC,wD]
  |none=>
   rw[hd,Option.none_or] at ht
   have hm2:=g2'.miss hd
   obtain⟨m2,s,r,hb2,hs2,h64,k2,n2,r2⟩:=f7A hw1 h1 g3' hb ht
   refine⟨m2,s,r,hb2,hs2,h64,k1.tf k2,by omega,?_⟩
   refine WpF.go b3Y ?_
   simp-implicitDefEqProofs only[W2,a5S,a6a,a5I,a6j,hL.eq,h.o.rd,e1,↓reduceIte,Nat.reduceEqDiff,Nat.reduceAdd,Nat.reduceLeDiff,List.getElem?_cons_succ,List.getElem?_cons_zero,exists_eq_left',wA,wB,wC,wD]
   refine I9 ?_
   simp-implicitDefEqProofs only[W2,a0Q,a1z,a1y,a1H,a4X,q0,c2,a1.rd,hm1,p1,show((0:Int)<2)=True from eq_true (by omega),↓reduceIte,Nat.reduceEqDiff,Nat.reduceMul,List.getElem?_cons_succ,List.getElem?_cons_zero,wA,wB,wC,wD]
   refine I9 ?_
   simp-implicitDefEqProofs only[W2,a0Q,a1z,a1y,a1H,a4X,q1,a1.rd,hm2,p2,show((1:Int)<2)=True from eq_true (by omega),↓reduceIte,Nat.reduceEqDiff,Nat.reduceMul,List.getElem?_cons_succ,List.getElem?_cons_zero,wA,wB,wC,wD]
   refine I9 ?_
   simp-implicitDefEqProofs only[W2,a0Q,d2C,h1.o.rd,r2.eq,↓reduceIte,Nat.reduceEqDiff,List.getElem?_cons_succ,List.getElem?_cons_zero,wA,wB,wC,wD]
end
section
variable {m m':M} {A:Ad} {S:PS} {own:Nat→Prop}
theorem b23{a b c d e f:Nat}(h: [a,b,c,d,e,f].Nodup):(a≠c∧a≠d∧a≠e)∧(b≠c∧b≠d∧b≠e)∧(c≠d∧c≠e∧d≠e)∧(f≠c∧f≠d∧f≠e):=by
 simp only[List.nodup_cons,List.mem_cons,List.not_mem_nil,or_false,not_or] at h
 obtain⟨⟨_,h1,h2,h3,_⟩,⟨h4,h5,h6,_⟩,⟨h7,h8,h9⟩,⟨h10,h11⟩,h12,_⟩:=h
 exact⟨⟨h1,h2,h3⟩,⟨h4,h5,h6⟩,⟨h7,h8,h10⟩,fun e=>h9 e.symm,fun e=>h11 e.symm,fun e=>h12 e.symm⟩
theorem b7Q(hw:Wf m)(h:GAt m A S own){fl fd fg:Nat→Option Bk}(g1:BmAt m A.ol fl own)(g2:BmAt m A.od fd own)(g3:BmAt m A.gl fg own)(b:Nat):
  ∃m',Keep m m' (fun x=>x=A.ol∨x=A.od∨x=A.of)∧m'.next=m.next∧BmAt m' A.ol (fup fl b none) own∧BmAt m' A.od (fup fd b none) own∧BmAt m' A.gl fg own∧FmAt m' A.of (fup S.kp b false)∧Ran Tryz.prog tb a6O [.ptr A.o 0,iv b] m (.tuple []) m':=by
 obtain⟨_,_,_,_,_,_,g4,_⟩:=h.mp
 obtain⟨⟨n1,n2,n3⟩,_,⟨n4,n5,n6⟩,_⟩:=b23 h.nm
 obtain⟨m1,e1,a1,k1,x1⟩:=g1.del hw b
 have hw1:=k1.wf
 have ho:∀{m1:M} {F:Nat→Prop},Keep m m1 F→(∀b,F b→kd m b 0)→∀b,own b→¬F b:=fun k hF b hb hf=>absurd ((h.ow b hb).inj (hF b hf)) (by decide)
 have h0:=g1.kd0
 have q1:=g2.keep hw k1 (fun e=>n4 e.symm) (ho k1 fun b e=>e▸h0)
 have q2:=g3.keep hw k1 n1 (ho k1 fun b e=>e▸h0)
 have q3:=g4.keep hw k1 (fun e=>n5 e.symm)
 have q4:=h.o.keep hw k1 (h.o.kd.ne h0)
 obtain⟨m2,e2,a2,k2,x2⟩:=q1.del hw1 b
 have hw2:=k2.wf
 have hd0:=g2.kd0
 have k12:Keep m m2 (fun x=>x=A.ol∨x=A.od):=(k1.mono fun _ _ e=> .inl e).trans k2 fun _ _ e=> .inr e
 have hF:∀b,(b=A.ol∨b=A.od)→kd m b 0:=fun b e=>by rcases e with rfl|rfl;exact h0;exact hd0
 have r1:=a1.keep hw1 k2 (by omega) (fun b hb e=>absurd ((h.ow b hb).inj (e▸hd0)) (by decide))
 have r2:=g3.keep hw k12 (by omega) (ho k12 hF)
 have r3:=g4.keep hw k12 (by omega)
 have r4:=h.o.keep hw k12 (fun e=>absurd (h.o.kd.inj (hF _ e)) (by decide))
 obtain⟨m3,e3,a3,k3,x3⟩:=r3.del hw2 b
 have k13:Keep m m3 (fun x=>x=A.ol∨x=A.od∨x=A.of):=(k12.mono fun _ _ e=>by rcases e with e|e;exact .inl e;exact .inr (.inl e)).trans k3 fun _ _ e=> .inr (.inr e)
 have hf0:=g4.kd0
 have ho3:∀b,own b→¬b=A.of:=fun b hb e=>absurd ((h.ow b hb).inj (e▸hf0)) (by decide)
 refine⟨m3,k13,by omega,r1.keep hw2 k3 (by omega) ho3,a2.keep hw2 k3 (by omega) ho3,r2.keep hw2 k3 (by omega) ho3,a3,?_⟩
 refine WpF.go g6t ?_
 simp-implicitDefEqProofs only[g6P,e9D,d83,e4h,h.o.rd,e1,q4.rd,e2,r4.rd,e3,↓reduceIte,Nat.reduceEqDiff,Nat.reduceAdd,List.getElem?_cons_succ,List.getElem?_cons_zero,wA,wB,wC,wD]
theorem GAt.plan(h:GAt m A S own):m.rdN A.g 3 12=some i5:=h.g.rdN (by show 3+12≤18;omega)
theorem b9P(hw:Wf m)(h:GAt m A S own){b:Nat}{t:Bk}{s:AV}{r:Nat}(hs:BtU m s t r)(h64:t.length=64)(hb:b<90)(lg:Bool)(hlo:(if lg then 32 else 37)≤b):
  ∃m' own',GAt m' A (S.wr b t) own'∧(∀x,own' x→own x∨m.next≤x)∧y6 m m' [] A.ms∧
   Ran Tryz.prog tb a0c [.ptr A.o 0,.func (if lg then a0h else Z9) [],.func (if lg then a0d else a0i) [],iv b,s] m (iv 0) m':=by
 obtain⟨fl,fd,fg,g1,g2,g3,g4,g5,g6⟩:=h.mp
 obtain⟨⟨n1,n2,n3⟩,⟨n7,n8,n9⟩,⟨n4,n5,n6⟩,⟨n10,n11,n12⟩⟩:=b23 h.nm
 have hL:=a9J h
 obtain⟨m1,e1,a1,k1,x1⟩:=l6 hw v7 12 i5
 have hw1:=k1.wf
 have h1:=h.k0 hw k1
 have rF:Ran Tryz.prog tb (if lg then a0d else a0i) [.agg i5] m (if lg then iv 32 else iv 37) m1:=by
  cases lg
  ·show Ran Tryz.prog tb a0i [.agg i5] m (iv 37) m1
   refine WpF.go g42 ?_
   simp-implicitDefEqProofs only[g6M,e7s,d39,e1,a1.rd,↓reduceIte,Nat.reduceEqDiff,Nat.reduceAdd,List.getElem?_cons_succ,List.getElem?_cons_zero,wA,wB,wC,wD]
  ·show Ran Tryz.prog tb a0d [.agg i5] m (iv 32) m1
   refine WpF.go g5k ?_
   simp-implicitDefEqProofs only[g6K,e7K,d9t,e1,a1.rd,↓reduceIte,Nat.reduceEqDiff,Nat.reduceAdd,List.getElem?_cons_succ,List.getElem?_cons_zero,wA,wB,wC,wD]
 obtain⟨m2,k2,x2,f1,f2,f3,f4,r2⟩:=b7Q hw1 h1 (g1.keep hw k1 id fun _ _=>id) (g2.keep hw k1 id fun _ _=>id) (g3.keep hw k1 id fun _ _=>id) b
 have hw2:=k2.wf
 have hm0:∀x,(x=A.ol∨x=A.od∨x=A.of)→kd m1 x 0:=fun x e=>h1.kdm x (by rcases e with rfl|rfl|rfl<;>simp)
 have k02:Keep m m2 (fun x=>x=A.ol∨x=A.od∨x=A.of):=k1.ft k2
 have hm00:∀x,(x=A.ol∨x=A.od∨x=A.of)→kd m x 0:=fun x e=>h.kdm x (by rcases e with rfl|rfl|rfl<;>simp)
 have o2:=h.o.keep hw k02 (fun e=>absurd (h.o.kd.inj (hm00 _ e)) (by decide))
 have gg2:=h.g.keep hw k02 (fun e=>absurd (h.g.kd.inj (hm00 _ e)) (by decide))
 have l2:=h.l.keep hw k02 (fun e=>absurd (h.l.kd.inj (hm00 _ e)) (by decide))
 have lp2:=h.lp.keep hw k02 (by omega)
 have gf2:=h.gf.keep hw k02 (by omega)
 have s2:=hs.keep hw k02 (fun e=>absurd (hs.kd.inj (hm00 _ e)) (by decide))
 have ow2:∀x,own x→kd m2 x (l3+1):=fun x hx=>(h.ow x hx).of_get (k02.get x (h.lt hw hx) fun e=>absurd ((h.ow x hx).inj (hm00 _ e)) (by decide))
 have rM:Ran Tryz.prog tb (if lg then a0h else Z9) [.ptr A.o 0] m2 (.map (if lg then A.ol else A.od)) m2:=by
  cases lg
  ·show Ran Tryz.prog tb Z9 [.ptr A.o 0] m2 (.map A.od) m2
   refine WpF.go g5B ?_
   simp-implicitDefEqProofs only[g7v,e1I,e4J,o2.rd,↓reduceIte,Nat.reduceEqDiff,List.getElem?_cons_succ,List.getElem?_cons_zero,wA,wB,wC,wD]
  ·show Ran Tryz.prog tb a0h [.ptr A.o 0] m2 (.map A.ol) m2
   refine WpF.go g5N ?_
   simp-implicitDefEqProofs only[g68,d9c,d3D,o2.rd,↓reduceIte,Nat.reduceEqDiff,List.getElem?_cons_succ,List.getElem?_cons_zero,wA,wB,wC,wD]
 obtain⟨m3,s3,r3,hb3,hs3,k3,x3,c3⟩:=a0x hw2 s2.bs (fun e=>by rw[e] at h64;cases h64) (by omega)
 have hw3:=k3.wf
 have k03:Keep m m3 (fun x=>x=A.ol∨x=A.od∨x=A.of):=k02.tf k3
 have p1:=f1.keep hw2 k3 id fun _ _=>id
 have p2:=f2.keep hw2 k3 id fun _ _=>id
 have p3:=f3.keep hw2 k3 id fun _ _=>id
 have p4:=f4.keep hw2 k3 id
 have ow3:∀x,own x→kd m3 x (l3+1):=fun x hx=>(ow2 x hx).of_get (k3.get x ((ow2 x hx).lt hw2) id)
 --the map that is written
 have fin:∃m4,V5 (some .i64) (.cst (.map (if lg then A.ol else A.od))) (.cst (iv (b:Int))) (.cst s3) .leaf m3=some (AV.undef,m4)∧Keep m3 m4 (fun x=>x=A.ol∨x=A.od∨x=A.of)∧m4.next=m3.next∧
   ∃fl' fd',BmAt m4 A.ol fl' (fun x=>own x∨x=r3)∧BmAt m4 A.od fd' (fun x=>own x∨x=r3)∧BmAt m4 A.gl fg (fun x=>own x∨x=r3)∧FmAt m4 A.of (fup S.kp b false)∧∀x,((S.wr b t).rd x)=(fl' x).or ((fd' x).or (fg x)):=by
  have hne:∀{X:Nat},kd m3 X 0→∀x,own x→¬x=X:=fun hX x hx e=>absurd ((ow3 x hx).inj (e▸hX)) (by decide)
  cases lg
  ·obtain⟨m4,e4,a4,k4,x4⟩:=p2.put hw3 hb3 h64 b
   refine⟨m4,e4,k4.mono fun _ _ e=> .inr (.inl e),x4,_,_,(p1.keep hw3 k4 n4 (hne p2.kd0)).mono fun _=> .inl,a4,(p3.keep hw3 k4 n2 (hne p2.kd0)).mono fun _=> .inl,p4.keep hw3 k4 (fun e=>n6 e.symm),fun x=> ?_⟩
   rw[PS.rd_wr]
   unfold fup
   by_cases hx:x=b
   ·rw[if_pos hx,if_pos hx,if_pos hx];rfl
   ·rw[if_neg hx,if_neg hx,if_neg hx,if_neg hx];exact g5 x
  ·obtain⟨m4,e4,a4,k4,x4⟩:=p1.put hw3 hb3 h64 b
   refine⟨m4,e4,k4.mono fun _ _ e=> .inl e,x4,_,_,a4,(p2.keep hw3 k4 (fun e=>n4 e.symm) (hne p1.kd0)).mono fun _=> .inl,(p3.keep hw3 k4 n1 (hne p1.kd0)).mono fun _=> .inl,p4.keep hw3 k4 (fun e=>n5 e.symm),fun x=> ?_⟩
   rw[PS.rd_wr]
   unfold fup
   by_cases hx:x=b
   ·rw[if_pos hx,if_pos hx,if_pos hx];rfl
   ·rw[if_neg hx,if_neg hx,if_neg hx,if_neg hx];exact g5 x
 obtain⟨m4,e4,k4,x4,fl',fd',q1,q2,q3,q4,q5⟩:=fin
 have k04:Keep m m4 (fun x=>x=A.ol∨x=A.od∨x=A.of):=k03.trans k4 fun _ _ h=>h
 have hn:=k1.next
 have hn2:=k2.next
 refine⟨m4,fun x=>own x∨x=r3,⟨h.g.keep hw k04 (fun e=>absurd (h.g.kd.inj (hm00 _ e)) (by decide)),h.o.keep hw k04 (fun e=>absurd (h.o.kd.inj (hm00 _ e)) (by decide)),h.l.keep hw k04 (fun e=>absurd (h.l.kd.inj (hm00 _ e)) (by decide)),
  h.lp.keep hw k04 (by omega),h.gf.keep hw k04 (by omega),h.nm,fun x hx=> ?_,fl',fd',fg,q1,q2,q3,q4,q5,g6⟩,fun x hx=> ?_,k04.mono fun x _ e=> .inr ⟨by rcases e with rfl|rfl|rfl<;>simp,hm00 x e⟩,?_⟩
 ·have h0:kd m3 x (l3+1):=by
   rcases hx with hx|rfl
   ·exact ow3 x hx
   ·exact hb3.kd
  refine h0.of_get (k4.get x (h0.lt hw3) fun e=> ?_)
  have:kd m3 x 0:=by
   rcases e with rfl|rfl|rfl
   ·exact p1.kd0
   ·exact p2.kd0
   ·exact p4.kd0
  exact absurd (h0.inj this) (by decide)
 ·rcases hx with hx|rfl
  ·exact .inl hx
  ·exact .inr (by omega)
 ·have hpl:=h.plan
  have hlen:E4 false s=some 64:=by rw[hs.bs.len,h64]
  have h64i:((64:Nat):Int)=64:=rfl
  cases lg
  ·have hlo:37≤b:=hlo
   have rF:Ran Tryz.prog tb a0i [.agg i5] m (iv 37) m1:=rF
   have rM:Ran Tryz.prog tb Z9 [.ptr A.o 0] m2 (.map A.od) m2:=rM
   show Ran Tryz.prog tb a0c [.ptr A.o 0,.func Z9 [],.func a0i [],iv b,s] m (iv 0) m4
   have e4:V5 (some .i64) (.cst (.map A.od)) (.cst (iv (b:Int))) (.cst s3) .leaf m3=some (AV.undef,m4):=e4
   refine WpF.go f0F ?_
   simp-implicitDefEqProofs only[f1r,b2U,b2Q,b2d,b1h,b2g,b1D,b2k,b0a,hL.eq,h.o.rd,hpl,rF.eq,h1.o.rd,h1.g.rd,show((b:Int)<37)=False from eq_false (by omega),show((90:Int)≤(b:Int))=False from eq_false (by omega),hlen,h64i,r2.eq,rM.eq,c3.eq,e4,↓reduceIte,Nat.reduceEqDiff,Nat.reduceAdd,List.getElem?_cons_succ,List.getElem?_cons_zero,wA,wB,wC,wD]
  ·have hlo:32≤b:=hlo
   have rF:Ran Tryz.prog tb a0d [.agg i5] m (iv 32) m1:=rF
   have rM:Ran Tryz.prog tb a0h [.ptr A.o 0] m2 (.map A.ol) m2:=rM
   show Ran Tryz.prog tb a0c [.ptr A.o 0,.func a0h [],.func a0d [],iv b,s] m (iv 0) m4
   have e4:V5 (some .i64) (.cst (.map A.ol)) (.cst (iv (b:Int))) (.cst s3) .leaf m3=some (AV.undef,m4):=e4
   refine WpF.go f0F ?_
   simp-implicitDefEqProofs only[f1r,b2U,b2Q,b2d,b1h,b2g,b1D,b2k,b0a,hL.eq,h.o.rd,hpl,rF.eq,h1.o.rd,h1.g.rd,show((b:Int)<32)=False from eq_false (by omega),show((90:Int)≤(b:Int))=False from eq_false (by omega),hlen,h64i,r2.eq,rM.eq,c3.eq,e4,↓reduceIte,Nat.reduceEqDiff,Nat.reduceAdd,List.getElem?_cons_succ,List.getElem?_cons_zero,wA,wB,wC,wD]
end
end Go.Proofs.YtooooiidpaecmaaGreatDoor
/- Bitmaps: the first bit that is 0, a bit that is turned. -/
namespace Go.Am
open Go Go.RowKit
section
variable {P:Program} {m:M}
theorem Y9(t:TypeId){a b:Nat}(h:0<b)(h2:a≤9223372036854775807):d8 P .rem t (iv (a:Int)) (iv (b:Int))=some (iv ((a % b:Nat):Int)):=by
 rw[I8]
 show(if(b:Int)=0 then none else some (ofI .i64 ((a:Int).tmod (b:Int))))=_
 rw[if_neg (by omega)]
 rfl
theorem a2N{op:BinOp}{t:TypeId}{a b:Nat}(h:op≠ .shl∧op≠ .shr):d8 P op t (.y a) (.y b)=F4 op .u8 (a:Int) (b:Int):=by
 cases op<;>first|rfl|exact absurd rfl h.1|exact absurd rfl h.2
theorem a1C(t:TypeId){a k:Nat}(hk:k<8):d8 P .shr t (.y a) (iv (k:Int))=some (.y (a/2^k)):=by
 show a7C .shr .u8 (a:Int) (k:Int)=_
 show(if(k:Int)<0 then none else some (ofI .u8 ((a:Int).fdiv (2^min (k:Int).toNat 8))))=_
 rw[if_neg (by omega),Int.toNat_natCast,Nat.min_eq_left (by omega),Int.fdiv_eq_ediv_of_nonneg _ (by exact Int.pow_nonneg (by omega))]
 rfl
theorem e6p(t:TypeId){k:Nat}(hk:k<8):d8 P .shl t (.y 1) (iv (k:Int))=some (.y (2^k)):=by
 show(if(k:Int)<0 then none else some (ofI .u8 (IntKind.u8.wrap ((1:Int)*2^min (k:Int).toNat 8))))=_
 rw[if_neg (by omega),Int.toNat_natCast,Nat.min_eq_left (by omega),Int.one_mul]
 have h2:2^k<2^8:=Nat.pow_lt_pow_right (by omega) hk
 rw[show(2:Nat)^8=256 from rfl] at h2
 have e:((2:Int)^k)=((2^k:Nat):Int):=by simp
 rw[e,a1d,Nat.mod_eq_of_lt h2]
theorem a1E(t:TypeId)(a:Nat):d8 P .and t (.y a) (.y 1)=some (.y (a % 2)):=by
 rw[a2N (by decide)]
 show some (ofI .u8 (IntKind.u8.wrap ((BitVec.ofInt 8 (a:Int)&&&BitVec.ofInt 8 (1:Int)).toNat:Int)))=_
 rw[BitVec.ofInt_natCast,a1d]
 have e:(BitVec.ofNat 8 a&&&BitVec.ofInt 8 (1:Int)).toNat=a % 2:=by
  rw[BitVec.toNat_and,BitVec.toNat_ofNat,show(BitVec.ofInt 8 1).toNat=1 from rfl,Nat.and_one_is_mod]
  omega
 rw[e];congr 2;omega
theorem g50(t:TypeId){a k:Nat}(ha:a<256)(hk:k<8):d8 P .or t (.y a) (.y (2^k))=some (.y (byb a k true)):=by
 rw[a2N (by decide)]
 show some (ofI .u8 (IntKind.u8.wrap ((BitVec.ofInt 8 (a:Int)|||BitVec.ofInt 8 ((2^k:Nat):Int)).toNat:Int)))=_
 have h2:2^k<2^8:=Nat.pow_lt_pow_right (by omega) hk
 rw[show(2:Nat)^8=256 from rfl] at h2
 rw[BitVec.ofInt_natCast,BitVec.ofInt_natCast,BitVec.toNat_or,BitVec.toNat_ofNat,BitVec.toNat_ofNat,Nat.mod_eq_of_lt (by omega),Nat.mod_eq_of_lt (by omega),a1d]
 have:=b1U ha hk true
 unfold byb at this⊢
 simp only[if_true] at this⊢
 rw[Nat.mod_eq_of_lt this]
theorem g6C(t:TypeId){a k:Nat}:d8 P .andNot t (.y a) (.y (2^k))=some (.y (byb a k false)):=by
 rw[a2N (by decide)]
 show some (ofI .u8 (IntKind.u8.wrap ((BitVec.ofInt 8 (a:Int)&&& ~~~BitVec.ofInt 8 ((2^k:Nat):Int)).toNat:Int)))=_
 rw[BitVec.ofInt_natCast,BitVec.ofInt_natCast,a1d]
 unfold byb
 simp only[Bool.false_eq_true,if_false]
 rw[Nat.mod_eq_of_lt (BitVec.isLt _)]
theorem a19(t:TypeId)(a b:Nat):d8 P .eql t (.y a) (.y b)=some (.b (decide (a=b))):=by
 rw[a2N (by decide)]
 show some (AV.b ((a:Int)==(b:Int)))=_
 congr 2
 by_cases h:a=b
 ·subst h;simp
 ·rw[decide_eq_false h];simp;omega
theorem f1g(t:TypeId)(a b:Nat):d8 P .neq t (.y a) (.y b)=some (.b (!decide (a=b))):=by
 rw[a2N (by decide)]
 show some (AV.b ((a:Int) !=(b:Int)))=_
 congr 2
 by_cases h:a=b
 ·subst h;simp
 ·rw[decide_eq_false h];simp;omega
theorem f1S(n:Nat):v6 40 (.y n) (.y n)=true:=by simp[v6,Nat.beq_refl]
theorem a1A(t:TypeId)(x y:RO)(fr:Fr):run (.and (d8 P .and t) x y) fr m=rto m (d8 P .and t (ev x fr) (ev y fr)):=b81
end
theorem e8Z(t:Bk)(j:Nat):(t.getD (j/8) 0).toNat/2^(j % 8) % 2=(bt t j).toNat:=by
 unfold bt
 rw[Nat.toNat_testBit]
theorem g2G{t:Bk}{i j:Nat}(h:(t.getD (i/8) 0).toNat=255)(hj:j/8=i/8):bt t j=true:=by
 unfold bt
 rw[hj,h]
 have hm:j % 8<8:=Nat.mod_lt _ (by omega)
 have:∀k<8,Nat.testBit 255 k=true:=by decide
 exact this _ hm
end Go.Am
namespace Go.Proofs.YtooooiidpaecmaaGreatDoor
open Go Go.Am
section
variable {m m':M} {A:Ad} {S:PS} {own:Nat→Prop}
theorem f74{s:AV}{t:Bk}{r:Nat}(hs:BsAt m s t r){a b:Nat}(h64:t.length=64)(hab:a≤b)(hb:b≤512):Ran Tryz.prog tb b3v [s,iv a,iv b] m (.b true) m:=by
 have hlen:E4 false s=some 64:=by rw[hs.len,h64]
 have h8:d8 Tryz.prog .mul d5 (iv 8) (iv ((64:Nat):Int))=some (iv 512):=by kernel_rfl
 refine WpF.go g5F ?_
 simp-implicitDefEqProofs only[g61,d92,d66,hlen,h8,show((a:Int)≤(b:Int))=True from eq_true (by omega),show((0:Int)≤(a:Int))=True from eq_true (by omega),show((b:Int)≤512)=True from eq_true (by omega),↓reduceIte,Nat.reduceEqDiff,Nat.reduceAdd,wA,wB,wC,wD]
theorem f6q{s:AV}{t:Bk}{r a e:Nat}(hs:BsAt m s t r)(h64:t.length=64)(he:e≤512){Q:AV→M→Prop}
  (hQ1:∀i,a≤i→i<e→bt t i=false→(∀j,a≤j→j<i→bt t j=true)→Q (.tuple [iv i,iv 0]) m) (hQ2:(∀j,a≤j→j<e→bt t j=true)→Q (.tuple [iv 0,iv 11]) m):
  ∀(n i:Nat) (fr:Fr),600-i≤n→a≤i→i≤520→(∀j,a≤j→j<i→bt t j=true)→ev (tm 0) fr=s→ev (tm 2) fr=iv e→ev (tm 8) fr=iv i→
   GX Tryz.prog tb a4g (SJ Tryz.prog tb J3 (FK Tryz.prog [.tmp 6,.tmp 7] Q)) fr m:=by
 intro n
 induction n with
 |zero=>intro i fr hn _ hi;omega
 |succ n ih=>
  intro i fr hn hai hi hall e0 e2 e8
  have hr8:d8 Tryz.prog .rem d5 (iv (i:Int)) (iv 8)=some (iv ((i % 8:Nat):Int)):=Y9 (b:=8) d5 (by omega) (by omega)
  have hq8:d8 Tryz.prog .quo d5 (iv (i:Int)) (iv 8)=some (iv ((i/8:Nat):Int)):=V8 (b:=8) d5 (by omega) (by omega)
  by_cases hie:i<e
  ·have hz:t[i/8]? =some (t.getD (i/8) 0):=by
    rw[List.getD_eq_getElem?_getD,List.getElem?_eq_getElem (by omega)];rfl
   obtain⟨off,cap,lim,hsx,hrd⟩:=hs.get hz
   have hbm:=e8Z t i
   have hm8:i % 8<8:=Nat.mod_lt _ (by omega)
   have hia:=x9 (m:=m) 1 r off t.length cap lim (show i/8<t.length by omega)
   rw[←hsx,Nat.mul_one] at hia
   --the bit alone
   have single:∀fr:Fr,ev (tm 0) fr=s→ev (tm 2) fr=iv e→ev (tm 8) fr=iv i→GX Tryz.prog tb a8b (SJ Tryz.prog tb J3 (FK Tryz.prog [.tmp 6,.tmp 7] Q)) fr m:=by
    intro fr e0 e2 e8
    cases hbi:bt t i with
    |false=>
     rw[hbi] at hbm
     have hbm:(t.getD (i/8) 0).toNat/2^(i % 8) % 2=0:=hbm
     simp-implicitDefEqProofs only[b52,U7,a0P,e0,e8,hr8,hq8,hia,hrd,D8,a1C l3 hm8,a1A,a1E,hbm,a19,a21,↓reduceIte,Nat.reduceEqDiff,wA,wB,wC,wD]
     exact hQ1 i hai hie hbi hall
    |true=>
     rw[hbi] at hbm
     have hbm:(t.getD (i/8) 0).toNat/2^(i % 8) % 2=1:=hbm
     simp-implicitDefEqProofs only[b52,U7,a0S,e0,e8,hr8,hq8,hia,hrd,D8,a1C l3 hm8,a1A,a1E,hbm,a19,aD (i:Int) 1,a1s a7X,↓reduceIte,Nat.reduceEqDiff,wA,wB,wC,wD]
     refine WpSc.of a79 (ih (i+1) _ (by omega) (by omega) (by omega) (fun j h1 h2=> ?_) (by simp-implicitDefEqProofs only[e0,d7,↓reduceIte,Nat.reduceEqDiff]) (by simp-implicitDefEqProofs only[e2,d7,↓reduceIte,Nat.reduceEqDiff]) (by simp-implicitDefEqProofs only[show(i:Int)+1=((i+1:Nat):Int) from rfl,d7,↓reduceIte]))
     by_cases hj:j=i
     ·rw[hj];exact hbi
     ·exact hall j h1 (by omega)
   by_cases h8:i % 8=0
   ·have h8i:((i % 8:Nat):Int)=0:=by omega
    simp-implicitDefEqProofs only[a4e,a0L,a1P,e2,e8,show((e:Int)≤(i:Int))=False from eq_false (by omega),hr8,h8i,a1s f4O,↓reduceIte,Nat.reduceEqDiff,wA,wB,wC,wD]
    refine WpSc.of f4Q ?_
    by_cases hff:(t.getD (i/8) 0).toNat=255
    ·simp-implicitDefEqProofs only[b5Y,U2,Y4,e0,e8,hq8,hia,hrd,f1g,hff,aD (i:Int) 8,a1s a7X,↓reduceIte,Nat.reduceEqDiff,wA,wB,wC,wD]
     refine WpSc.of a79 (ih (i+8) _ (by omega) (by omega) (by omega) (fun j h1 h2=> ?_) (by simp-implicitDefEqProofs only[e0,d7,↓reduceIte,Nat.reduceEqDiff]) (by simp-implicitDefEqProofs only[e2,d7,↓reduceIte,Nat.reduceEqDiff]) (by simp-implicitDefEqProofs only[show(i:Int)+8=((i+8:Nat):Int) from rfl,d7,↓reduceIte]))
     by_cases hj:j<i
     ·exact hall j h1 hj
     ·exact g2G hff (by omega)
    ·simp-implicitDefEqProofs only[b5Y,U2,e0,e8,hq8,hia,hrd,f1g,decide_eq_false hff,a1s f4L,↓reduceIte,Nat.reduceEqDiff,wA,wB,wC,wD]
     exact WpSc.of f4M (single _ (by simp-implicitDefEqProofs only[e0,d7,↓reduceIte,Nat.reduceEqDiff]) (by simp-implicitDefEqProofs only[e2,d7,↓reduceIte,Nat.reduceEqDiff]) (by simp-implicitDefEqProofs only[e8,d7,↓reduceIte,Nat.reduceEqDiff]))
   ·cases hbi:bt t i with
    |false=>
     rw[hbi] at hbm
     have hbm:(t.getD (i/8) 0).toNat/2^(i % 8) % 2=0:=hbm
     simp-implicitDefEqProofs only[a4e,a0L,a1P,U7,a0P,e0,e2,e8,show((e:Int)≤(i:Int))=False from eq_false (by omega),hr8,show(((i % 8:Nat):Int)=0)=False from eq_false (by omega),hq8,hia,hrd,D8,a1C l3 hm8,a1A,a1E,hbm,a19,a21,↓reduceIte,Nat.reduceEqDiff,wA,wB,wC,wD]
     exact hQ1 i hai hie hbi hall
    |true=>
     rw[hbi] at hbm
     have hbm:(t.getD (i/8) 0).toNat/2^(i % 8) % 2=1:=hbm
     simp-implicitDefEqProofs only[a4e,a0L,a1P,U7,a0S,e0,e2,e8,show((e:Int)≤(i:Int))=False from eq_false (by omega),hr8,show(((i % 8:Nat):Int)=0)=False from eq_false (by omega),hq8,hia,hrd,D8,a1C l3 hm8,a1A,a1E,hbm,a19,aD (i:Int) 1,a1s a7X,↓reduceIte,Nat.reduceEqDiff,wA,wB,wC,wD]
     refine WpSc.of a79 (ih (i+1) _ (by omega) (by omega) (by omega) (fun j h1 h2=> ?_) (by simp-implicitDefEqProofs only[e0,d7,↓reduceIte,Nat.reduceEqDiff]) (by simp-implicitDefEqProofs only[e2,d7,↓reduceIte,Nat.reduceEqDiff]) (by simp-implicitDefEqProofs only[show(i:Int)+1=((i+1:Nat):Int) from rfl,d7,↓reduceIte]))
     by_cases hj:j=i
     ·rw[hj];exact hbi
     ·exact hall j h1 (by omega)
  ·simp-implicitDefEqProofs only[a4e,a0L,a6k,e2,e8,show((e:Int)≤(i:Int))=True from eq_true (by omega),a21,↓reduceIte,Nat.reduceEqDiff,wA,wB,wC,wD]
   exact hQ2 fun j h1 h2=>hall j h1 (by omega)
theorem f7X{s:AV}{t:Bk}{r a e:Nat}(hs:BsAt m s t r)(h64:t.length=64)(hae:a≤e)(he:e≤512){Q:AV→M→Prop}
  (hQ1:∀i,a≤i→i<e→bt t i=false→(∀j,a≤j→j<i→bt t j=true)→Q (.tuple [iv i,iv 0]) m) (hQ2:(∀j,a≤j→j<e→bt t j=true)→Q (.tuple [iv 0,iv 11]) m):WpF Tryz.prog tb b3Q [s,iv a,iv e] m Q:=by
 refine WpF.go g4S ?_
 simp-implicitDefEqProofs only[g7p,d3K,Nat.reduceAdd,wA,wB,wC,wD]
 refine b9j (WpSc.of f5z ?_)
 have hcb:∃c0,b7d= .seq c0 (.seq (.reg b2V) a4g)∧c0= .seq (.reg b1r) (.cond (tm 13) (.seq (.reg b1B) .ret) .skip):=⟨_,rfl,rfl⟩
 obtain⟨c0,hcb,hc0⟩:=hcb
 rw[hcb,hc0]
 simp-implicitDefEqProofs only[b1r,b1B,b2V,(f74 hs h64 hae he).eq,↓reduceIte,Nat.reduceEqDiff,wA,wB,wC,wD]
 exact f6q hs h64 he hQ1 hQ2 1000 a _ (by omega) (Nat.le_refl _) (by omega) (fun j h1 h2=>by omega) (by simp-implicitDefEqProofs only[d7,↓reduceIte,Nat.reduceEqDiff]) (by simp-implicitDefEqProofs only[d7,↓reduceIte,Nat.reduceEqDiff]) (by simp-implicitDefEqProofs only[d7,↓reduceIte])
theorem g1M(hw:Wf m){s:AV}{t:Bk}{r i:Nat}(hs:BsAt m s t r)(h64:t.length=64)(hi:i<512)(on:Bool):
  ∃m' s' r',BtU m' s' (A5 t i on) r'∧Keep m m' (fun _=>False)∧m.next≤r'∧Ran Tryz.prog tb b3K [s,iv i,.b on] m (.tuple [s',iv 0]) m':=by
 obtain⟨m1,s1,r1,hb1,hs1,k1,n1,c1⟩:=a0x hw hs (fun e=>by rw[e] at h64;cases h64) (by omega)
 have hlen:E4 false s=some 64:=by rw[hs.len,h64]
 have hq8:d8 Tryz.prog .quo d5 (iv (i:Int)) (iv 8)=some (iv ((i/8:Nat):Int)):=V8 (b:=8) d5 (by omega) (by omega)
 have hr8:d8 Tryz.prog .rem d5 (iv (i:Int)) (iv 8)=some (iv ((i % 8:Nat):Int)):=Y9 (b:=8) d5 (by omega) (by omega)
 have hm8:i % 8<8:=Nat.mod_lt _ (by omega)
 have hz:t[i/8]? =some (t.getD (i/8) 0):=by
  rw[List.getD_eq_getElem?_getD,List.getElem?_eq_getElem (by omega)];rfl
 have hbl:=(t.getD (i/8) 0).toNat_lt
 generalize hn:i9 t=yc at hs1
 rw[h64] at hs1
 generalize hq:(64:Nat)=q at hs1
 cases hs1 with
 | @row r1 _ cap cells junk xt ha hl hj hc h0=>
 have hyl:yc.length=64:=by rw[←hn];simp[i9,h64]
 have hg:(yc++junk)[i/8]? =some (.y (t.getD (i/8) 0).toNat):=by
  rw[List.getElem?_append_left (by omega),←hn]
  unfold i9
  rw[List.getElem?_map,hz];rfl
 have hrd:m1.rd r1 (i/8)=some (.y (t.getD (i/8) 0).toNat):=by rw[ha.rd];exact hg
 have hia:=x9 (m:=m1) 1 r1 0 q cap false (show i/8<q by omega)
 rw[Nat.zero_add,Nat.mul_one] at hia
 have hbb:∀on:Bool,byb (t.getD (i/8) 0).toNat (i % 8) on<256:=b1U hbl hm8
 obtain⟨m2,e2,a2,k2,n2⟩:=ha.st k1.wf (i/8) [.y (byb (t.getD (i/8) 0).toNat (i % 8) on)] rfl (by simp;omega)
 have hcell:z6 (yc++junk) (i/8) [.y (byb (t.getD (i/8) 0).toNat (i % 8) on)] =i9 (A5 t i on)++junk:=by
  apply List.ext_getElem?
  intro j
  rw[f6I (by simp;omega)]
  have hsl:(i9 (A5 t i on)).length=64:=by simp[i9,a1m,h64]
  by_cases hj:j<64
  ·rw[List.getElem?_append_left (by omega),List.getElem?_append_left (by omega)]
   unfold i9 A5
   rw[List.getElem?_map,List.getElem?_set]
   by_cases hji:j=i/8
   ·subst hji
    rw[if_pos ⟨Nat.le_refl _,by simp⟩,if_pos rfl,if_pos (by omega),Nat.sub_self]
    show some (AV.y _)=some (AV.y (UInt8.ofNat _).toNat)
    rw[UInt8.toNat_ofNat',Nat.mod_eq_of_lt (hbb on)]
   ·rw[if_neg (by simp;omega),if_neg (fun e=>hji e.symm),←hn]
    unfold i9
    rw[List.getElem?_map]
  ·rw[if_neg (by simp;omega),List.getElem?_append_right (by omega),List.getElem?_append_right (by omega),hyl,hsl]
 rw[hcell] at a2
 have hsl:(A5 t i on).length=q:=by rw[a1m];omega
 have hrow:SlAt m2 l3 1 (.slice r1 0 q cap false) (A5 t i on).length (i9 (A5 t i on)) (some r1):=by
  rw[hsl]
  exact .row a2 (by simp[i9,a1m];omega) (by simpa using hj) hc h0
 have k02:Keep m m2 fun _=>False:=k1.trans k2 fun b hb e=>by omega
 refine⟨m2,.slice r1 0 q cap false,r1,⟨?_,hrow.kd⟩,k02,n1,?_⟩
 ·have:=BsAt.row (m:=m2) (b:=r1) (off:=0) (cap:=cap) (lim:=false) (l:=A5 t i on) a2.r (by simp[i9]) (by rw[List.drop_zero,List.take_append_of_le_length (by simp[i9]),List.take_of_length_le (by simp[i9])])
  rwa [hsl] at this
 ·cases on
  ·refine WpF.go f1k ?_
   simp-implicitDefEqProofs only[f2L,b1g,b1N,b26,b1Q,d3q,b2h,hlen,show((i:Int)<0)=False from eq_false (by omega),hq8,show(((64:Nat):Int)≤((i/8:Nat):Int))=False from eq_false (by omega),c1.eq,hr8,hia,hrd,D8,e6p l3 hm8,g6C,e2,a2H,f1S,↓reduceIte,Nat.reduceEqDiff,Nat.reduceAdd,List.getElem?_cons_succ,List.getElem?_cons_zero,exists_eq_left',wA,wB,wC,wD]
  ·refine WpF.go f1k ?_
   simp-implicitDefEqProofs only[f2L,b1g,b1N,b26,b1Q,e76,b2h,hlen,show((i:Int)<0)=False from eq_false (by omega),hq8,show(((64:Nat):Int)≤((i/8:Nat):Int))=False from eq_false (by omega),c1.eq,hr8,hia,hrd,D8,e6p l3 hm8,g50 l3 hbl hm8,e2,a2H,f1S,↓reduceIte,Nat.reduceEqDiff,Nat.reduceAdd,List.getElem?_cons_succ,List.getElem?_cons_zero,exists_eq_left',wA,wB,wC,wD]
end
end Go.Proofs.YtooooiidpaecmaaGreatDoor
