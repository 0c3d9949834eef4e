import Derived.Test.YthbfinjddaembaaGreatAmZb
import Derived.Test.YthbfinjddaembaaGreatAmZd
import Derived.ChangeSlices
/- The abstract machine: arguments that are slices of numbers or bytes, one behind the other. -/
namespace Go.Am
open Go Go.RowKit Go.ChangeShapes Go.WideShapes
noncomputable def M.addRo (m : M) (e : TypeId) (l : List AV) : M := m.new (.cells ⟨e, l.length, fillP l (nat_lit 0) .leaf, [], none, false, false, true⟩)
theorem M.next_addRo (m : M) (e : TypeId) (l : List AV) : (m.addRo e l).next = m.next + 1 := M.next_new _ _
theorem M.get_addRo (m : M) (e : TypeId) (l : List AV) (b : Nat) : (m.addRo e l).get b = if b = m.next then some (.cells ⟨e, l.length, fillP l (nat_lit 0) .leaf, [], none, false, false, true⟩) else m.get b := M.get_new _ _ _
theorem AtR.addRo (m : M) (e : TypeId) (l : List AV) : AtR (m.addRo e l) m.next l :=
  ⟨_, by rw [M.get_addRo, if_pos rfl], rfl, rfl, fun _ _ h => rd_mRow e l h⟩
theorem Keep.addRo {m : M} (hw : Wf m) {e : TypeId} {l : List AV} {F : Nat → Prop} : Keep m (m.addRo e l) F :=
  ⟨by rw [M.next_addRo]; omega, hw.new, fun b hb _ => M.get_new_ne (by omega)⟩
section
variable {P : Program} {w0 : World} {ρ : Ren} {m : M} {w : World}
theorem Sim.addRo (h : Sim P w0 ρ m w) {a : Addr} {arr : Array Value} {e : TypeId} {fz : Nat × Nat} (hlt : a.block < w0.heap.size) (hh : w.heap[a.block]? = some (.cells arr e fz)) (l : List AV) (hn : a.off + l.length ≤ arr.size)
    (hc : ∀ i v, l[i]? = some v → ∃ u, conc ρ v = some u ∧ u.oneCell' = true ∧ arr[a.off + i]? = some u) :
    Sim P w0 (ρ.put m.next ⟨a.block, a.off, 0⟩) (m.addRo e l) w ∧ ρ.le (ρ.put m.next ⟨a.block, a.off, 0⟩) := by
  have hle : ρ.le (ρ.put m.next ⟨a.block, a.off, 0⟩) := Ren.put_le (h.next _ (Nat.le_refl _)).1
  have hcel : ∀ {b c}, (m.addRo e l).cel b = some c → (b = m.next ∧ c.mv = none) ∨ (b ≠ m.next ∧ m.cel b = some c) := by
    intro b c hb
    have hb := M.cel_some.1 hb
    rw [M.get_addRo] at hb
    by_cases e : b = m.next
    · rw [if_pos e] at hb; cases hb; exact .inl ⟨e, rfl⟩
    · rw [if_neg e] at hb; exact .inr ⟨e, M.cel_some.2 hb⟩
  refine ⟨⟨h.base, ?_, ?_, ?_, ?_, ?_, ?_⟩, hle⟩
  · intro b hb
    rw [M.next_addRo] at hb
    exact ⟨by rw [Ren.put_ne (by omega)]; exact (h.next b (by omega)).1, by rw [M.get_addRo, if_neg (by omega)]; exact (h.next b (by omega)).2⟩
  · intro b B hg
    rw [M.get_addRo] at hg
    by_cases hb : b = m.next
    · rw [if_pos hb] at hg; cases hg
      refine ⟨⟨a.block, a.off, 0⟩, by rw [hb, Ren.put_same], arr, fz, hh, fun _ x => (by cases x), fun _ => hn, fun _ x => (by cases x), fun _ _ x => (by cases x), fun _ x => (by cases x), fun _ i hi => ?_⟩
      have hv : l[i]? = some l[i] := List.getElem?_eq_getElem hi
      rw [rd_mRow e l hv]
      obtain ⟨u, h1, h2, h3⟩ := hc i _ hv
      exact ⟨u, conc_mono hle _ _ h1, h2, h3⟩
    · rw [if_neg hb] at hg
      obtain ⟨r, hr, k⟩ := h.blk b B hg
      refine ⟨r, by rw [Ren.put_ne hb]; exact hr, ?_⟩
      cases B with
      | cells c =>
        obtain ⟨arr', fz', k⟩ := k
        exact ⟨arr', fz', k.keep hle rfl (readable_new h (M.cel_some.2 hg))⟩
      | obj o =>
        obtain ⟨O, k1, k2, k3⟩ := k
        exact ⟨O, k1, k2, k3.mono hle⟩
  · intro b c x hc' hm
    rcases hcel hc' with ⟨_, h1⟩ | ⟨h1, h2⟩
    · rw [h1] at hm; cases hm
    · obtain ⟨c', h3⟩ := h.mvok b c x h2 hm
      refine ⟨c', ?_⟩
      have hx := h.lt (M.cel_some.1 h3)
      rw [M.cel_some, M.get_addRo, if_neg (by omega)]
      exact M.cel_some.1 h3
  · intro b c b' c' r r' hb hb' hm hr hr' he hg
    rcases hcel hb with ⟨h1, _⟩ | ⟨h1, h2⟩
    · rw [h1, Ren.put_same] at hr; cases hr
      exact absurd hg (by show ¬ w0.heap.size ≤ a.block; omega)
    · rcases hcel hb' with ⟨h3, _⟩ | ⟨h3, h4⟩
      · rw [h3, Ren.put_same] at hr'; cases hr'
        rw [he] at hg
        exact absurd hg (by show ¬ w0.heap.size ≤ a.block; omega)
      · rw [Ren.put_ne h1] at hr
        rw [Ren.put_ne h3] at hr'
        exact reach_new h (h.own b c b' c' r r' h2 h4 hm hr hr' he hg)
  · intro b c b' c' r r' hb hb' hm hr hr' he hg
    rcases hcel hb with ⟨h1, _⟩ | ⟨h1, h2⟩
    · rw [h1, Ren.put_same] at hr; cases hr
      exact absurd hg (by show ¬ w0.heap.size ≤ a.block; omega)
    · rcases hcel hb' with ⟨h3, _⟩ | ⟨h3, h4⟩
      · rw [h3, Ren.put_same] at hr'; cases hr'
        rw [he] at hg
        exact absurd hg (by show ¬ w0.heap.size ≤ a.block; omega)
      · rw [Ren.put_ne h1] at hr
        rw [Ren.put_ne h3] at hr'
        exact h.ext b c b' c' r r' h2 h4 hm hr hr' he hg
  · intro b es b' es' r r' hb hb' hr hr' he
    rw [M.get_addRo] at hb hb'
    by_cases h1 : b = m.next
    · rw [if_pos h1] at hb; cases hb
    · by_cases h3 : b' = m.next
      · rw [if_pos h3] at hb'; cases hb'
      · rw [if_neg h1] at hb; rw [if_neg h3] at hb'
        rw [Ren.put_ne h1] at hr
        rw [Ren.put_ne h3] at hr'
        exact h.mown b es b' es' r r' hb hb' hr hr' he
end
inductive RsAt (m : M) : AV → List AV → Option Nat → Prop where
  | nil : RsAt m nils [] none
  | empty {b cap : Nat} {lim : Bool} : RsAt m (.slice b 0 0 cap lim) [] none
  | row {b cap : Nat} {lim : Bool} {l : List AV} (h : AtR m b l) : RsAt m (.slice b 0 l.length cap lim) l (some b)
noncomputable def kv (k : IntKind) (z : Int) : AV := cv1 (.int k z)
theorem conc_sln {ρ : Ren} {b : Nat} {a : Addr} (h : ρ.loc b = some ⟨a.block, a.off, 0⟩) (hs : a.spot = none) (len cap : Nat) : conc ρ (.slice b 0 len cap true) = some (.slice (some a) len cap) := by
  obtain ⟨x, o, s⟩ := a
  cases hs
  simp only [conc, h, Option.map_some]
  rfl
end Go.Am
