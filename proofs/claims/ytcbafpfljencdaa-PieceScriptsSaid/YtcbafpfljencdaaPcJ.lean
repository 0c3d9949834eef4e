import Derived.Test.YtcbafpfljencdaaAmZb
import Derived.Test.YtcbafpfljencdaaPcH
import Derived.Test.YtcbafpfljencdaaPcI
import Derived.Deep.Slices
import Derived.Deep.Fields
import Derived.ChangeSame
import Derived.ProofKit
import Derived.Shelf.Abstract
/- From the laws' walks to their rows: the arguments laid before the abstract machine. -/
namespace Go.Proofs.Ytcbafpfljencdaa
open Go Go.Am Pl Go.ChangeShapes Go.WideShapes Go.ChangeAt Go.ChangeMaps Go.RowKit Go.Deep

section
variable {H : Type} {enc : TypeId × Value → H} {P : Program} {w : World} {base : Nat} {spare : Nat → Bool} {held : Bool}
theorem open_slice_fields {t e : TypeId} {fs : Array Field} {fuel : Nat} {cs : List Value} {x : DataW H × List MemPlace} (ht : P.underlying t = some (.slice e)) (he : P.underlying e = some (.struct fs))
    (hone : oneCellFields P fs = true) (hC : P.cellsOf e = fs.size) (h : DataW.trod enc P w base spare held fuel t cs = some x) :
    (cs = [.slice none 0 0] ∧ x = (.nil, [])) ∨
    ∃ (a : Addr) (len cap m : Nat) (D : Nat → DataW H) (Pl : Nat → List MemPlace), cs = [.slice (some a) len cap] ∧ base ≤ a.block ∧ len ≤ cap ∧ cap ≤ maxLen ∧ m = (if spare a.block then cap else len) ∧
      x = (.slice ((List.range len).map D) ((List.range (m - len)).map fun j => D (len + j)), MemPlace.row a (m * fs.size) ++ (List.range m).flatMap Pl) ∧
      ∀ i, i < m → ∃ (ys : List (DataW H × List MemPlace)) (n : Nat), D i = .agg (ys.map (·.1)) ∧ Pl i = ys.flatMap (·.2) ∧ ys.length = fs.size ∧
        ∀ (j : Nat) (f : Field), fs[j]? = some f → ∃ (v : Value) (y : DataW H × List MemPlace), w.cell? (a.add (i * fs.size + j)) = some v ∧ ys[j]? = some y ∧ DataW.trod enc P w base spare held n f.type [v] = some y := by
  rcases open_slice ht h with h0 | ⟨a, len, cap, m, n, D, Pl, hcs, hb, hl, hm, hmm, hx, hi⟩
  · exact .inl h0
  · refine .inr ⟨a, len, cap, m, D, Pl, hcs, hb, hl, hm, hmm, by rw [hC] at hx; exact hx, fun i him => ?_⟩
    obtain ⟨cs', hc, ht'⟩ := hi i him
    rw [hC] at hc
    obtain ⟨ys, n', hn', hy, hlen, hyl, hf⟩ := DataW.trod_struct he ht'
    obtain ⟨_, hcl, hat⟩ := World.cells?_some hc
    simp only [Prod.mk.injEq] at hy
    refine ⟨ys, n', hy.1, hy.2, hyl, fun j f hj => ?_⟩
    obtain ⟨ho, hk⟩ := hone_of hone j f hj
    have hjl : j < fs.size := (Array.getElem?_eq_some_iff.1 hj).1
    have hcell := hat j hjl
    have hv : cs'[j]? = some (cs'[j]'(by omega)) := List.getElem?_eq_getElem (by omega)
    have h1 := hf j f hj
    rw [ho, hk] at h1
    have hone' : (cs'.drop j).take 1 = [cs'[j]'(by omega)] := by
      rw [List.drop_eq_getElem_cons (by omega)]
      rfl
    rw [hone'] at h1
    have hys : ys[j]? = some (ys[j]'(by omega)) := List.getElem?_eq_getElem (by omega)
    refine ⟨_, _, ?_, hys, h1.trans hys⟩
    rw [← Go.Deep.add_add, hcell, hv]
end
theorem add_of {a : Addr} (h : a.spot = none) (i : Nat) : a.add i = ⟨a.block, a.off + i, none⟩ := by
  obtain ⟨b, o, s⟩ := a
  cases h
  exact Addr.add_mk b o i
theorem list_of {α : Type} (R : Nat → α → Prop) : ∀ n, (∀ i, i < n → ∃ e, R i e) → ∃ l : List α, l.length = n ∧ ∀ i e, l[i]? = some e → R i e
  | 0, _ => ⟨[], rfl, fun i e h => by cases h⟩
  | n + 1, h => by
    obtain ⟨l, h1, h2⟩ := list_of R n fun i hi => h i (by omega)
    obtain ⟨e, he⟩ := h n (Nat.lt_succ_self n)
    refine ⟨l ++ [e], by simp [h1], fun i e' hi => ?_⟩
    by_cases hin : i < l.length
    · rw [List.getElem?_append_left hin] at hi
      exact h2 i e' hi
    · rw [List.getElem?_append_right (by omega)] at hi
      have : i - l.length = 0 := by
        have := (List.getElem?_eq_some_iff.1 hi).1
        simp at this
        omega
      rw [this] at hi
      cases hi
      have : i = n := by omega
      rw [this]; exact he
theorem flat3 (es : List Ed) : ∀ (i : Nat) (v : AV), (es.flatMap ecell)[i]? = some v → ∃ k e, es[k]? = some e ∧ k * 3 ≤ i ∧ i < k * 3 + 3 ∧ (ecell e)[i - k * 3]? = some v := by
  induction es with
  | nil => intro i v h; cases h
  | cons e es ih =>
    intro i v h
    rw [List.flatMap_cons] at h
    have he : (ecell e).length = 3 := rfl
    by_cases hi : i < 3
    · rw [List.getElem?_append_left (by omega)] at h
      exact ⟨0, e, rfl, by omega, by omega, by simpa using h⟩
    · rw [List.getElem?_append_right (by omega), he] at h
      obtain ⟨k, e', h1, h2, h3, h4⟩ := ih _ _ h
      refine ⟨k + 1, e', by simpa using h1, by omega, by omega, ?_⟩
      rw [show i - (k + 1) * 3 = i - 3 - k * 3 by omega]
      exact h4
/-- A list of edits, as the abstract machine sees it. -/
theorem open_list {H : Type} {enc : TypeId × Value → H} {W : World} {base : Nat} {v : Value} {d : DataW H} {p : List MemPlace} (hval : Value.okWide Try.prog W .any base 22 v) (h : DataW.Trod enc Try.prog W 0 (fun _ => true) true 22 v d p) :
    ∃ (ρ : Ren) (m : M) (x : AV) (es : List Ed) (o : Option Nat), conc ρ x = some v ∧ Sim Try.prog W ρ m W ∧ Wf m ∧ LsAt m x es o := by
  obtain ⟨a0, len, cap, rfl⟩ := okWide_slice Try.underlying22 hval
  obtain ⟨fuel, hf⟩ := h
  rcases open_slice_fields Try.underlying22 Try.underlying31 (by kernel_rfl) (by kernel_rfl) hf with ⟨hcs, _⟩ | ⟨a, len', cap', k, D, Pl, hcs, _, hl, hm, hk, _, hi⟩
  · simp [Value.cells] at hcs
    obtain ⟨rfl, rfl, rfl⟩ := hcs
    exact ⟨ρ0, m0, nils, [], none, conc_nils _, Sim.start W, fun b _ => get_m0 b, .nil⟩
  · simp [Value.cells] at hcs
    obtain ⟨rfl, rfl, rfl⟩ := hcs
    simp only [if_true] at hk
    subst hk
    have hspot : a.spot = none := by
      simp only [Value.okWide, Try.underlying22, Cell.okWide, Cell.ok] at hval
      exact hval.2.2.2.1
    by_cases h0 : len = 0
    · subst h0
      exact ⟨ρA a, mE, .slice 0 0 0 k true, [], none, conc_sl0 a hspot 0 k, Sim.startE W a, wf_mE, .empty⟩
    · have hE : ∀ i, i < len → ∃ e : Ed, W.cell? (a.add (i * 3)) = some (.int .i64 e.at') ∧ W.cell? (a.add (i * 3 + 1)) = some (.int .i64 e.n) ∧ W.cell? (a.add (i * 3 + 2)) = some (.string ⟨e.text.toArray⟩) := by
        intro i hil
        obtain ⟨ys, n, _, _, _, hc⟩ := hi i (by omega)
        obtain ⟨v0, y0, c0, _, t0⟩ := hc 0 _ rfl
        obtain ⟨v1, y1, c1, _, t1⟩ := hc 1 _ rfl
        obtain ⟨v2, y2, c2, _, t2⟩ := hc 2 _ rfl
        obtain ⟨z0, e0, _, _⟩ := DataW.trod_int Try.underlying3 t0
        obtain ⟨z1, e1, _, _⟩ := DataW.trod_int Try.underlying3 t1
        obtain ⟨s2, e2, _, _⟩ := DataW.trod_string Try.underlying9 t2
        cases e0; cases e1; cases e2
        exact ⟨⟨z0, z1, s2.data.toList⟩, c0, c1, by simpa using c2⟩
      obtain ⟨es, hlen, hes⟩ := list_of _ len hE
      have hcell : ∀ i v, (es.flatMap ecell)[i]? = some v → ∃ u, conc (ρA a) v = some u ∧ u.oneCell' = true ∧ W.cell? (a.add i) = some u := by
        intro i v hv
        obtain ⟨k, e, h1, h2, h3, h4⟩ := flat3 es i v hv
        obtain ⟨c0, c1, c2⟩ := hes k e h1
        have hcases : i = k * 3 ∨ i = k * 3 + 1 ∨ i = k * 3 + 2 := by omega
        rcases hcases with rfl | rfl | rfl
        · rw [Nat.sub_self] at h4
          cases h4
          exact ⟨_, conc_iv _ _, rfl, c0⟩
        · rw [show k * 3 + 1 - k * 3 = 1 by omega] at h4
          cases h4
          exact ⟨_, conc_iv _ _, rfl, c1⟩
        · rw [show k * 3 + 2 - k * 3 = 2 by omega] at h4
          cases h4
          exact ⟨_, conc_tv _ _, rfl, c2⟩
      have hfl := uflat_len es
      have hblk : ∃ arr e fz, W.heap[a.block]? = some (.cells arr e fz) := by
        obtain ⟨e, c0, _⟩ := hE 0 (by omega)
        unfold World.cell? at c0
        split at c0
        · rename_i hh
          exact ⟨_, _, _, hh⟩
        · cases c0
      obtain ⟨arr, e, fz, hh⟩ := hblk
      have harr : ∀ i u, W.cell? (a.add i) = some u → arr[a.off + i]? = some u := by
        intro i u hu
        rw [add_of hspot] at hu
        unfold World.cell? at hu
        simp only [hh] at hu
        exact hu
      refine ⟨ρA a, mRow e (es.flatMap ecell), .slice 0 0 len k true, es, some 0, conc_sl0 a hspot len k, Sim.startRow hh _ ?_ (fun i v hv => ?_), wf_mRow _ _, ?_⟩
      · have hlast : (es.flatMap ecell)[es.length * 3 - 1]? = some ((es.flatMap ecell)[es.length * 3 - 1]'(by omega)) := List.getElem?_eq_getElem _
        obtain ⟨u, _, _, hu⟩ := hcell _ _ hlast
        have := (Array.getElem?_eq_some_iff.1 (harr _ _ hu)).1
        omega
      · obtain ⟨u, h1, h2, h3⟩ := hcell i v hv
        exact ⟨u, h1, h2, harr i u h3⟩
      · rw [← hlen]
        exact .row (at_mRow e _)
theorem Try.own : ownKnob Try.prog.godebug = none := by kernel_rfl
theorem Try.laidOut : laidOutB Try.prog = true := by kernel_rfl
theorem Try.good : Am.goodB Try.prog = true := by decide +kernel
theorem ranWakes : Am.isTrue (Am.arun Try.prog (Am.tb0 Try.prog) 100000 8 [] Am.m0) = true := by decide +kernel
theorem wakesTrue : Am.TrueAt Try.prog 8 := ⟨enters_of Try.func8 (by kernel_rfl) rfl, fun w => Am.closed_calls (Am.good_of Try.good) (fun _ => Am.tb0_ok) ranWakes Try.func8 rfl w⟩
theorem tb_ok (w0 : World) : Am.TbOk Try.prog w0 tb := Am.withTrue_ok Am.tb0_ok fun g h => by
  simp only [List.mem_cons, List.not_mem_nil, or_false] at h
  subst h
  exact wakesTrue
theorem conc_s (ρ : Ren) (s : ByteArray) : conc ρ (tv s.data.toList) = some (.string s) := by
  rw [conc_tv]
theorem concs_1 {ρ : Ren} {x : AV} {v : Value} (h : conc ρ x = some v) {l : List AV} {vs : List Value} (k : concs ρ l = some vs) : concs ρ (x :: l) = some (v :: vs) := concs_cons.2 ⟨v, vs, h, k, rfl⟩

end Go.Proofs.Ytcbafpfljencdaa
