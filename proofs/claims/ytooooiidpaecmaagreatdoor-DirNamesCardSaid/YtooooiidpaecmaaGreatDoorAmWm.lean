import Derived.Test.YtooooiidpaecmaaGreatDoorAmWk
import Derived.Test.YtooooiidpaecmaaGreatDoorAmZe
/- The abstract machine: what is left alone, told by the kinds of rows. -/
namespace Go.Am
open Go Go.RowKit
section
variable {m m' m'':M}
abbrev roK:Nat:=1000000007
def kd(m:M)(b:Nat):Nat→Prop:=fun k=>match m.get b with
 |some (.cells c)=>k=bif c.ro then roK else c.elem+1
 |some (.obj _)=>k=0
 |none=>False
theorem kd.inj{b k k':Nat}(h:kd m b k)(h':kd m b k'):k=k':=by
 unfold kd at h h'
 split at h
 ·rename_i c e;rw[e] at h';exact h.trans h'.symm
 ·rename_i c e;rw[e] at h';exact h.trans h'.symm
 ·exact h.elim
theorem kd.of_get{b k:Nat}(h:kd m b k)(hg:m'.get b=m.get b):kd m' b k:=by
 unfold kd at h⊢
 rw[hg]
 exact h
theorem kd.lt{b k:Nat}(h:kd m b k)(hw:Wf m):b<m.next:=by
 rcases Nat.lt_or_ge b m.next with h1|h1
 ·exact h1
 ·unfold kd at h
  rw[hw b h1] at h
  exact h.elim
theorem kd.ne{b b' k k':Nat}(h:kd m b k)(h':kd m b' k')(hk:k≠k':=by decide):b≠b':=fun e=>by subst e;exact hk (h.inj h')
theorem At.kd{b:Nat}{e:TypeId}{xt:Bool}{l:List AV}(h:At m b e xt l):kd m b (e+1):=by
 obtain⟨c,h1,h2,_,_,h5,_⟩:=h.row
 unfold Am.kd
 rw[h1]
 show e+1=bif c.ro then roK else c.elem+1
 rw[h5,h2];rfl
theorem MpAt.kd{b:Nat}{L:Al}(h:MpAt m b L):kd m b 0:=by
 obtain⟨st,h1⟩:=h
 unfold Am.kd
 rw[h1]
def Kinds(m:M)(E S:List Nat)(b:Nat):Prop:=(∃k∈E,kd m b k)∨(b∈S∧kd m b 0)
abbrev y6(m m':M)(E:List Nat)(S:List Nat:= []):Prop:=Keep m m' (Kinds m E S)
theorem Kinds.back{E G S R:List Nat}(h:y6 m m' E S){b:Nat}(hb:b<m.next)(hG:∀k∈G,k∈E)(hR:∀k∈R,k∈S)(k:Kinds m' G R b):Kinds m E S b:=by
 refine Classical.byContradiction fun hn=> ?_
 have hg:=h.get b hb hn
 rcases k with⟨j,hj,hj2⟩|⟨hj,hj2⟩
 ·exact hn (.inl ⟨j,hG j hj,hj2.of_get hg.symm⟩)
 ·exact hn (.inr ⟨hR _ hj,hj2.of_get hg.symm⟩)
theorem Keep.k0{E S:List Nat}(h:Keep m m' fun _=>False):y6 m m' E S:=h.mono fun _ _ h=>h.elim
theorem Keep.k1{b k:Nat}{E S:List Nat}(h:Keep m m' fun x=>x=b)(hb:kd m b k)(hk:k∈E:=by decide):y6 m m' E S:=h.mono fun _ _ e=>by subst e;exact .inl ⟨k,hk,hb⟩
theorem Keep.tk{E G S R:List Nat}(h:y6 m m' E S)(k:y6 m' m'' G R)(hG:∀x∈G,x∈E:=by decide)(hR:∀x∈R,x∈S:=by simp):y6 m m'' E S:=h.trans k fun _ hb hx=> .back h hb hG hR hx
theorem Keep.sub{E G S R:List Nat}(h:y6 m m' E S)(hE:∀x∈E,x∈G:=by decide)(hS:∀x∈S,x∈R:=by simp):y6 m m' G R:=h.mono fun _ _ k=>by
 rcases k with⟨k,h1,h2⟩|⟨h1,h2⟩
 ·exact .inl ⟨k,hE k h1,h2⟩
 ·exact .inr ⟨hS _ h1,h2⟩
theorem Keep.tf{F:Nat→Prop}(h:Keep m m' F)(k:Keep m' m'' fun _=>False):Keep m m'' F:=h.trans k fun _ _ h=>h.elim
theorem Keep.ft{F:Nat→Prop}(h:Keep m m' fun _=>False)(k:Keep m' m'' F):Keep m m'' F:=(h.mono fun _ _ h=>h.elim).trans k fun _ _ h=>h
theorem Kinds.not{b k:Nat}{E S:List Nat}(h:Am.kd m b k)(hE:k∉E)(h0:k≠0):¬Kinds m E S b:=by
 rintro(⟨j,h1,h2⟩|⟨_,h2⟩)
 ·exact hE (h.inj h2▸h1)
 ·exact h0 (h.inj h2)
theorem kd.kp{b k:Nat}{E S:List Nat}(h:Am.kd m b k)(hw:Wf m)(hk:y6 m m' E S)(hE:k∉E:=by decide)(h0:k≠0:=by decide):Am.kd m' b k:=
 h.of_get (hk.get b (h.lt hw) (Kinds.not h hE h0))
theorem At.kp{b:Nat}{e:TypeId}{xt:Bool}{l:List AV}{E S:List Nat}(h:At m b e xt l)(hw:Wf m)(hk:y6 m m' E S)(hE:e+1∉E:=by decide):At m' b e xt l:=
 h.keep hw hk (Kinds.not h.kd hE (Nat.succ_ne_zero _))
theorem SlAt.kd{e sz:Nat}{x:AV}{len:Nat}{cells:List AV}{b:Nat}(h:SlAt m e sz x len cells (some b)):Am.kd m b (e+1):=by
 cases h with
 |row h=>exact h.kd
theorem SlAt.kp{e sz:Nat}{x:AV}{len:Nat}{cells:List AV}{o:Option Nat}{E S:List Nat}(h:SlAt m e sz x len cells o)(hw:Wf m)(hk:y6 m m' E S)(hE:e+1∉E:=by decide):SlAt m' e sz x len cells o:=
 h.keep hw hk fun b hb=>by subst hb;exact Kinds.not h.kd hE (Nat.succ_ne_zero _)
structure Bt(m:M)(e:TypeId)(s:AV)(l:List UInt8)(b:Nat):Prop where
 bs:BsAt m s l b
 kd:Am.kd m b (e+1)
theorem Bt.lt{e:TypeId}{s:AV}{l:List UInt8}{b:Nat}(h:Bt m e s l b)(hw:Wf m):b<m.next:=h.kd.lt hw
theorem Bt.keep{e:TypeId}{s:AV}{l:List UInt8}{b:Nat}{F:Nat→Prop}(h:Bt m e s l b)(hw:Wf m)(k:Keep m m' F)(hf:¬F b):Bt m' e s l b:=⟨h.bs.keep hw k hf,h.kd.of_get (k.get b (h.lt hw) hf)⟩
theorem f6I{l vs:List AV}{i:Nat}(h:i+vs.length≤l.length)(j:Nat):(z6 l i vs)[j]? =if i≤j∧j<i+vs.length then vs[j-i]? else l[j]? :=by
 unfold z6
 by_cases h1:j<i
 ·rw[List.getElem?_append_left (by simp;omega),List.getElem?_take,if_pos h1,if_neg (by omega)]
 ·rw[List.getElem?_append_right (by simp;omega)]
  have e:(l.take i).length=i:=by simp;omega
  rw[e]
  by_cases h2:j<i+vs.length
  ·rw[List.getElem?_append_left (by omega),if_pos (by omega)]
  ·rw[List.getElem?_append_right (by omega),List.getElem?_drop,if_neg (by omega)]
   congr 1;omega
theorem b3V(b off len cap:Nat)(lim:Bool):v6 40 (.slice b off len cap lim) (.slice b off len cap lim)=true:=by simp[v6,Nat.beq_refl]
theorem b9g(b off len cap:Nat)(lim:Bool):C1 (.slice b off len cap lim)=some [.slice b off len cap lim] :=rfl
theorem b8h:C1 j7=some [j7] :=rfl
theorem b9I(n:Nat):C1 (.y n)=some [.y n] :=rfl
theorem ilt(a:Int):(a<a)=False:=eq_false (by omega)
theorem ile(a:Int):(a≤a)=True:=eq_true (by omega)
theorem nc0:((0:Nat):Int)=0:=rfl
end
end Go.Am
