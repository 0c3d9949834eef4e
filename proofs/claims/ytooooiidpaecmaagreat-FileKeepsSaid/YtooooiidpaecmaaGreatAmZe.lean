import Derived.Test.YtooooiidpaecmaaGreatAmZb
import Derived.Test.YtooooiidpaecmaaGreatAmZd
import Derived.ChangeSlices
/- The abstract machine: arguments that are slices of numbers or bytes, one behind the other. -/
namespace Go.Am
open Go Go.RowKit Go.ChangeShapes Go.WideShapes
def M.bump (m : M) : M := ⟨m.tab, m.next + 1⟩
theorem M.get_bump (m : M) (b : Nat) : m.bump.get b = m.get b := rfl
theorem M.cel_bump (m : M) (b : Nat) : m.bump.cel b = m.cel b := rfl
noncomputable def M.addRo (m : M) (e : TypeId) (l : List AV) : M := m.new (.cells ⟨e, l.length, fillP l (nat_lit 0) .leaf, [], none, false, false, true⟩)
theorem M.next_addRo (m : M) (e : TypeId) (l : List AV) : (m.addRo e l).next = m.next + 1 := M.next_new _ _
theorem M.get_addRo (m : M) (e : TypeId) (l : List AV) (b : Nat) : (m.addRo e l).get b = if b = m.next then some (.cells ⟨e, l.length, fillP l (nat_lit 0) .leaf, [], none, false, false, true⟩) else m.get b := M.get_new _ _ _
theorem AtR.addRo (m : M) (e : TypeId) (l : List AV) : AtR (m.addRo e l) m.next l :=
 ⟨_, by rw [M.get_addRo, if_pos rfl], rfl, rfl, fun _ _ h => rd_mRow e l h⟩
theorem Keep.addRo {m : M} (hw : Wf m) {e : TypeId} {l : List AV} {F : Nat → Prop} : Keep m (m.addRo e l) F :=
 ⟨by rw [M.next_addRo]; omega, hw.new, fun b hb _ => M.get_new_ne (by omega)⟩
theorem Keep.bump {m : M} (hw : Wf m) {F : Nat → Prop} : Keep m m.bump F := ⟨Nat.le_succ _, fun b hb => hw b (Nat.le_of_succ_le hb), fun _ _ _ => rfl⟩
section
variable {P : Program} {w0 : World} {ρ : Ren} {m : M} {w : World}
theorem clean_bump (m : M) : ∀ n b, m.bump.clean n b = m.clean n b
 | 0, _ => rfl
 | n + 1, b => by
  unfold M.clean
  rw [M.cel_bump]
  split
  ·rename_i c _
   cases c.mv with
   | none => rfl
   | some x => simp only [clean_bump m n x]
  ·rfl
theorem readable_bump (m : M) (c : Cel) : m.bump.readable c = m.readable c := by
 unfold M.readable
 cases c.mv with
 | none => rfl
 | some x => exact clean_bump m 100000 x
theorem Sim.bump (h : Sim P w0 ρ m w) (q : RB) : Sim P w0 (ρ.put m.next q) m.bump w ∧ ρ.le (ρ.put m.next q) := by
 have hle : ρ.le (ρ.put m.next q) := Ren.put_le (h.next _ (Nat.le_refl _)).1
 have hlt : ∀ {b c}, m.cel b = some c → b ≠ m.next := fun hc => Nat.ne_of_lt (h.lt (M.cel_some.1 hc))
 have hltO : ∀ {b B}, m.get b = some B → b ≠ m.next := fun hc => Nat.ne_of_lt (h.lt hc)
 refine ⟨⟨h.base, ?_, ?_, h.mvok, ?_, ?_, ?_⟩, hle⟩
 ·intro b hb
  have hb : m.next + 1 ≤ b := hb
  exact ⟨by rw [Ren.put_ne (by omega)]; exact (h.next b (by omega)).1, (h.next b (by omega)).2⟩
 ·intro b B hg
  obtain ⟨r, hr, k⟩ := h.blk b B hg
  refine ⟨r, by rw [Ren.put_ne (hltO hg)]; exact hr, ?_⟩
  cases B with
  | cells c =>
   obtain ⟨arr, fz, k⟩ := k
   exact ⟨arr, fz, k.keep hle rfl fun h => by rwa [readable_bump] at h⟩
  | obj o =>
   obtain ⟨O, k1, k2, k3⟩ := k
   exact ⟨O, k1, k2, k3.mono hle⟩
 ·intro b c b' c' r r' hc hc' hm hr hr' he hg
  rw [Ren.put_ne (hlt hc)] at hr
  rw [Ren.put_ne (hlt hc')] at hr'
  have := h.own b c b' c' r r' hc hc' hm hr hr' he hg
  clear hr hr' he hg hm hc' hc
  induction this with
  | refl b => exact .refl b
  | step hc hm _ ih => exact .step hc hm ih
 ·intro b c b' c' r r' hc hc' hm hr hr' he hg
  rw [Ren.put_ne (hlt hc)] at hr
  rw [Ren.put_ne (hlt hc')] at hr'
  exact h.ext b c b' c' r r' hc hc' hm hr hr' he hg
 ·intro b es b' es' r r' hc hc' hr hr' he
  rw [Ren.put_ne (hltO hc)] at hr
  rw [Ren.put_ne (hltO hc')] at hr'
  exact h.mown b es b' es' r r' hc hc' hr hr' he
theorem Sim.addRo (h : Sim P w0 ρ m w) {a : Addr} {arr : Array Value} {e : TypeId} {fz : Nat × Nat} (hlt : a.block < w0.heap.size) (hh : w.heap[a.block]? = some (.cells arr e fz)) (l : List AV) (hn : a.off + l.length ≤ arr.size)
  (hc : ∀ i v, l[i]? = some v → ∃ u, conc ρ v = some u ∧ u.oneCell' = true ∧ arr[a.off + i]? = some u) :
  Sim P w0 (ρ.put m.next ⟨a.block, a.off, 0⟩) (m.addRo e l) w ∧ ρ.le (ρ.put m.next ⟨a.block, a.off, 0⟩) := by
 have hle : ρ.le (ρ.put m.next ⟨a.block, a.off, 0⟩) := Ren.put_le (h.next _ (Nat.le_refl _)).1
 have hcel : ∀ {b c}, (m.addRo e l).cel b = some c → (b = m.next ∧ c.mv = none) ∨ (b ≠ m.next ∧ m.cel b = some c) := by
  intro b c hb
  have hb := M.cel_some.1 hb
  rw [M.get_addRo] at hb
  by_cases e : b = m.next
  ·rw [if_pos e] at hb; cases hb; exact .inl ⟨e, rfl⟩
  ·rw [if_neg e] at hb; exact .inr ⟨e, M.cel_some.2 hb⟩
 refine ⟨⟨h.base, ?_, ?_, ?_, ?_, ?_, ?_⟩, hle⟩
 ·intro b hb
  rw [M.next_addRo] at hb
  exact ⟨by rw [Ren.put_ne (by omega)]; exact (h.next b (by omega)).1, by rw [M.get_addRo, if_neg (by omega)]; exact (h.next b (by omega)).2⟩
 ·intro b B hg
  rw [M.get_addRo] at hg
  by_cases hb : b = m.next
  ·rw [if_pos hb] at hg; cases hg
   refine ⟨⟨a.block, a.off, 0⟩, by rw [hb, Ren.put_same], arr, fz, hh, fun _ x => (by cases x), fun _ => hn, fun _ x => (by cases x), fun _ _ x => (by cases x), fun _ x => (by cases x), fun _ i hi => ?_⟩
   have hv : l[i]? = some l[i] := List.getElem?_eq_getElem hi
   rw [rd_mRow e l hv]
   obtain ⟨u, h1, h2, h3⟩ := hc i _ hv
   exact ⟨u, conc_mono hle _ _ h1, h2, h3⟩
  ·rw [if_neg hb] at hg
   obtain ⟨r, hr, k⟩ := h.blk b B hg
   refine ⟨r, by rw [Ren.put_ne hb]; exact hr, ?_⟩
   cases B with
   | cells c =>
    obtain ⟨arr', fz', k⟩ := k
    exact ⟨arr', fz', k.keep hle rfl (readable_new h (M.cel_some.2 hg))⟩
   | obj o =>
    obtain ⟨O, k1, k2, k3⟩ := k
    exact ⟨O, k1, k2, k3.mono hle⟩
 ·intro b c x hc' hm
  rcases hcel hc' with ⟨_, h1⟩ | ⟨h1, h2⟩
  ·rw [h1] at hm; cases hm
  ·obtain ⟨c', h3⟩ := h.mvok b c x h2 hm
   refine ⟨c', ?_⟩
   have hx := h.lt (M.cel_some.1 h3)
   rw [M.cel_some, M.get_addRo, if_neg (by omega)]
   exact M.cel_some.1 h3
 ·intro b c b' c' r r' hb hb' hm hr hr' he hg
  rcases hcel hb with ⟨h1, _⟩ | ⟨h1, h2⟩
  ·rw [h1, Ren.put_same] at hr; cases hr
   exact absurd hg (by show ¬ w0.heap.size ≤ a.block; omega)
  ·rcases hcel hb' with ⟨h3, _⟩ | ⟨h3, h4⟩
   ·rw [h3, Ren.put_same] at hr'; cases hr'
    rw [he] at hg
    exact absurd hg (by show ¬ w0.heap.size ≤ a.block; omega)
   ·rw [Ren.put_ne h1] at hr
    rw [Ren.put_ne h3] at hr'
    exact reach_new h (h.own b c b' c' r r' h2 h4 hm hr hr' he hg)
 ·intro b c b' c' r r' hb hb' hm hr hr' he hg
  rcases hcel hb with ⟨h1, _⟩ | ⟨h1, h2⟩
  ·rw [h1, Ren.put_same] at hr; cases hr
   exact absurd hg (by show ¬ w0.heap.size ≤ a.block; omega)
  ·rcases hcel hb' with ⟨h3, _⟩ | ⟨h3, h4⟩
   ·rw [h3, Ren.put_same] at hr'; cases hr'
    rw [he] at hg
    exact absurd hg (by show ¬ w0.heap.size ≤ a.block; omega)
   ·rw [Ren.put_ne h1] at hr
    rw [Ren.put_ne h3] at hr'
    exact h.ext b c b' c' r r' h2 h4 hm hr hr' he hg
 ·intro b es b' es' r r' hb hb' hr hr' he
  rw [M.get_addRo] at hb hb'
  by_cases h1 : b = m.next
  ·rw [if_pos h1] at hb; cases hb
  ·by_cases h3 : b' = m.next
   ·rw [if_pos h3] at hb'; cases hb'
   ·rw [if_neg h1] at hb; rw [if_neg h3] at hb'
    rw [Ren.put_ne h1] at hr
    rw [Ren.put_ne h3] at hr'
    exact h.mown b es b' es' r r' hb hb' hr hr' he
end
inductive RsAt (m : M) : AV → List AV → Option Nat → Prop where
 | nil : RsAt m nils [] none
 | empty {b cap : Nat} {lim : Bool} : RsAt m (.slice b 0 0 cap lim) [] none
 | row {b cap : Nat} {lim : Bool} {l : List AV} (h : AtR m b l) : RsAt m (.slice b 0 l.length cap lim) l (some b)
theorem RsAt.keep {m m' : M} {x : AV} {l : List AV} {o : Option Nat} {F : Nat → Prop} (h : RsAt m x l o) (hw : Wf m) (k : Keep m m' F) (hf : ∀ b, o = some b → ¬ F b) : RsAt m' x l o := by
 cases h with
 | nil => exact .nil
 | empty => exact .empty
 | row h => exact .row (h.keep hw k (hf _ rfl))
theorem RsAt.lt {m : M} {x : AV} {l : List AV} {o : Option Nat} (h : RsAt m x l o) (hw : Wf m) {b : Nat} (hb : o = some b) : b < m.next := by
 cases h with
 | nil => cases hb
 | empty => cases hb
 | row h => cases hb; exact h.lt hw
noncomputable def kv (k : IntKind) (z : Int) : AV := cv1 (.int k z)
theorem conc_kv (ρ : Ren) (k : IntKind) (z : Int) : conc ρ (kv k z) = some (.int k z) := conc_cv1 ρ _ rfl
theorem conc_sln {ρ : Ren} {b : Nat} {a : Addr} (h : ρ.loc b = some ⟨a.block, a.off, 0⟩) (hs : a.spot = none) (len cap : Nat) : conc ρ (.slice b 0 len cap true) = some (.slice (some a) len cap) := by
 obtain ⟨x, o, s⟩ := a
 cases hs
 simp only [conc, h, Option.map_some]
 rfl
theorem open_numsS {H : Type} {enc : TypeId × Value → H} {P : Program} {W : World} {base : Nat} {t e : TypeId} {k : IntKind} {v : Value} {d : DataW H} {p : List MemPlace} (ht : P.underlying t = some (.slice e)) (he : P.underlying e = some (.int k)) (hC : P.cellsOf e = 1)
  (hval : Value.okWide P W .any base t v) (h : DataW.Trod enc P W 0 (fun _ => true) true t v d p) {ρ : Ren} {m : M} (hs : Sim P W ρ m W) (hw : Wf m) {B : Nat}
  (hwt : ∀ elems spare, d = .slice elems spare → (elems.length + spare.length) * B ≤ 140737488355328) :
  ∃ (ρ' : Ren) (m' : M) (x : AV) (zs : List Int) (o : Option Nat), conc ρ' x = some v ∧ Sim P W ρ' m' W ∧ ρ.le ρ' ∧ Wf m' ∧ Keep m m' (fun _ => False) ∧ RsAt m' x (zs.map (kv k)) o ∧ (∀ n ∈ zs, (Lit.int k n).wf = true) ∧ zs.length * B ≤ 140737488355328 ∧ (m' = m ∨ m' = m.bump ∨ ∃ e l, m' = m.addRo e l) := by
 obtain ⟨a0, len, cap, rfl⟩ := okWide_slice ht hval
 obtain ⟨fuel, hf⟩ := h
 rcases open_ints ht he hC hf with ⟨hcs, _⟩ | ⟨a, len', cap', zs, hcs, _, hl, hm, hz, hx, hcell, hwf⟩
 ·simp [Value.cells] at hcs
  obtain ⟨rfl, rfl, rfl⟩ := hcs
  exact ⟨ρ, m, nils, [], none, conc_nils _, hs, ρ.le_refl, hw, Keep.refl hw _, .nil, (fun n hn => by cases hn), by simp, .inl rfl⟩
 ·simp [Value.cells] at hcs
  obtain ⟨rfl, rfl, rfl⟩ := hcs
  simp only [if_true] at hz
  have hspot : a.spot = none := by
   simp only [Value.okWide, ht, Cell.okWide, Cell.ok] at hval
   exact hval.2.2.2.1
  by_cases h0 : len = 0
  ·subst h0
   obtain ⟨h1, h2⟩ := hs.bump ⟨a.block, a.off, 0⟩
   exact ⟨_, m.bump, .slice m.next 0 0 cap true, [], none, conc_sln (Ren.put_same _ _ _) hspot 0 cap, h1, h2, (Keep.bump hw (F := fun _ => False)).wf, Keep.bump hw, .empty, (fun n hn => by cases hn), by simp, .inr (.inl rfl)⟩
  ·have hlen : (zs.take len).length = len := by rw [List.length_take]; omega
   have hc' : ∀ i, i < len → W.cell? (a.add i) = some (.int k (zs.getD i 0)) := fun i hi => hcell i (by omega)
   have hblk : ∃ arr e fz, W.heap[a.block]? = some (.cells arr e fz) := by
    have c0 := hc' 0 (by omega)
    unfold World.cell? at c0
    split at c0
    ·rename_i hh
     exact ⟨_, _, _, hh⟩
    ·cases c0
   obtain ⟨arr, e', fz, hh⟩ := hblk
   have harr : ∀ i u, W.cell? (a.add i) = some u → arr[a.off + i]? = some u := by
    intro i u hu
    have : a.add i = ⟨a.block, a.off + i, none⟩ := by
     obtain ⟨b, o, s⟩ := a
     cases hspot
     exact Addr.add_mk b o i
    rw [this] at hu
    unfold World.cell? at hu
    simp only [hh] at hu
    exact hu
   have hget : ∀ i v, ((zs.take len).map (kv k))[i]? = some v → i < len ∧ v = kv k (zs.getD i 0) := by
    intro i v hv
    rw [List.getElem?_map, List.getElem?_take] at hv
    by_cases hi : i < len
    ·rw [if_pos hi] at hv
     refine ⟨hi, ?_⟩
     rw [List.getD_eq_getElem?_getD]
     cases hzi : zs[i]? with
     | none => rw [hzi] at hv; cases hv
     | some z => rw [hzi] at hv; cases hv; rfl
    ·rw [if_neg hi] at hv; cases hv
   obtain ⟨h1, h2⟩ := hs.addRo (a := a) (arr := arr) (e := e') (fz := fz) (Below.lt_of_heap hh) hh ((zs.take len).map (kv k)) (by
    rw [List.length_map, hlen]
    have := (Array.getElem?_eq_some_iff.1 (harr (len - 1) _ (hc' (len - 1) (by omega)))).1
    omega) (fun i v hv => by
     obtain ⟨hi, rfl⟩ := hget i v hv
     exact ⟨_, conc_kv _ _ _, rfl, harr i _ (hc' i hi)⟩)
   refine ⟨_, m.addRo e' ((zs.take len).map (kv k)), .slice m.next 0 len cap true, zs.take len, some m.next, conc_sln (Ren.put_same _ _ _) hspot len cap, h1, h2, (Keep.addRo hw (F := fun _ => False)).wf, Keep.addRo hw, ?_, fun n hn => hwf n (List.mem_of_mem_take hn), ?_, .inr (.inr ⟨_, _, rfl⟩)⟩
   rotate_left
   ·have h1 := hwt _ _ (Prod.mk.inj hx).1
    refine Nat.le_trans (Nat.mul_le_mul_right B ?_) h1
    unfold lits
    rw [List.length_map]
    omega
   have := RsAt.row (cap := cap) (lim := true) (AtR.addRo m e' ((zs.take len).map (kv k)))
   rw [List.length_map, hlen] at this
   exact this
end Go.Am
