import Derived.Test.YtcbafpfljencdaaPcJ
import Derived.Test.YtcbafpfljencdaaPcSA
import Derived.SizedLaws
set_option linter.unusedSimpArgs false
set_option linter.unusedVariables false
/- A script of calls that is handed in, laid before the abstract machine. -/
namespace Go.Proofs.Ytcbafpfljencdaa
open Go Go.Am Pl Go.ChangeShapes Go.WideShapes Go.ChangeAt Go.ChangeMaps Go.RowKit Go.Deep

structure Oq where
  kind : Int
  e : Ed
noncomputable def ocell (o : Oq) : List AV := [iv o.kind, iv o.e.at', iv o.e.n, tv o.e.text]
theorem oflat_len (u : List Oq) : (u.flatMap ocell).length = u.length * 4 := by
  induction u with
  | nil => rfl
  | cons p ps ih => rw [List.flatMap_cons, List.length_append, ih]; simp [ocell]; omega
inductive OsAt (m : M) : AV → List Oq → Option Nat → Prop where
  | nil : OsAt m nils [] none
  | empty {b cap : Nat} {lim : Bool} : OsAt m (.slice b 0 0 cap lim) [] none
  | row {b cap : Nat} {lim : Bool} {es : List Oq} (h : AtR m b (es.flatMap ocell)) : OsAt m (.slice b 0 es.length cap lim) es (some b)
theorem OsAt.keep {m m' : M} {x : AV} {es : List Oq} {o : Option Nat} {F : Nat → Prop} (h : OsAt m x es o) (hw : Wf m) (k : Keep m m' F) (hf : ∀ b, o = some b → ¬ F b) : OsAt m' x es o := by
  cases h with
  | nil => exact .nil
  | empty => exact .empty
  | row h => exact .row (h.keep hw k (hf _ rfl))
theorem OsAt.lt {m : M} {x : AV} {es : List Oq} {o : Option Nat} (h : OsAt m x es o) (hw : Wf m) {b : Nat} (hb : o = some b) : b < m.next := by
  cases h with
  | nil => cases hb
  | empty => cases hb
  | row h => cases hb; exact h.lt hw
theorem OsAt.len {m : M} {x : AV} {es : List Oq} {o : Option Nat} (h : OsAt m x es o) : lenK false x = some es.length := by cases h <;> rfl
theorem OsAt.elem {m : M} {x : AV} {es : List Oq} {o : Option Nat} (h : OsAt m x es o) {k : Nat} {e : Oq} (hk : es[k]? = some e) :
    ∃ b cap lim, x = .slice b 0 es.length cap lim ∧ k < es.length ∧ m.rdN b (k * 4) 4 = some (ocell e) := by
  cases h with
  | nil => cases hk
  | empty => cases hk
  | @row b cap lim es h =>
    have hlt := (List.getElem?_eq_some_iff.1 hk).1
    have he : (es.flatMap ocell).drop (k * 4) = ocell e ++ (es.drop (k + 1)).flatMap ocell := by
      have h1 : es = es.take k ++ (e :: es.drop (k + 1)) := by
        conv => lhs; rw [← List.take_append_drop k es]
        congr 1
        rw [List.drop_eq_getElem_cons hlt]
        congr 1
        exact (List.getElem?_eq_some_iff.1 hk).2
      have hl : ((es.take k).flatMap ocell).length = k * 4 := by rw [oflat_len, List.length_take, Nat.min_eq_left (by omega)]
      conv => lhs; rw [h1, List.flatMap_append, ← hl, List.drop_left]
      rfl
    refine ⟨b, cap, lim, rfl, hlt, ?_⟩
    rw [h.rdN (by rw [oflat_len]; omega), he]
    rfl
theorem flat4 (es : List Oq) : ∀ (i : Nat) (v : AV), (es.flatMap ocell)[i]? = some v → ∃ k e, es[k]? = some e ∧ k * 4 ≤ i ∧ i < k * 4 + 4 ∧ (ocell e)[i - k * 4]? = some v := by
  induction es with
  | nil => intro i v h; cases h
  | cons e es ih =>
    intro i v h
    rw [List.flatMap_cons] at h
    have he : (ocell e).length = 4 := rfl
    by_cases hi : i < 4
    · rw [List.getElem?_append_left (by omega)] at h
      exact ⟨0, e, rfl, by omega, by omega, by simpa using h⟩
    · rw [List.getElem?_append_right (by omega), he] at h
      obtain ⟨k, e', h1, h2, h3, h4⟩ := ih _ _ h
      refine ⟨k + 1, e', by simpa using h1, by omega, by omega, ?_⟩
      rw [show i - (k + 1) * 4 = i - 4 - k * 4 by omega]
      exact h4
theorem open_ops {H : Type} {enc : TypeId × Value → H} {W : World} {base : Nat} {v : Value} {d : DataW H} {p : List MemPlace} (hval : Value.okWide Try.prog W .any base 41 v) (h : DataW.Trod enc Try.prog W 0 (fun _ => true) true 41 v d p)
    (hwt : ∀ elems spare, d = .slice elems spare → (elems.length + spare.length) * Try.prog.bytesOf 46 ≤ reachBytes) :
    ∃ (ρ : Ren) (m : M) (x : AV) (es : List Oq) (o : Option Nat), conc ρ x = some v ∧ Sim Try.prog W ρ m W ∧ Wf m ∧ OsAt m x es o ∧ es.length * 40 ≤ 140737488355328 := by
  obtain ⟨a0, len, cap, rfl⟩ := okWide_slice Try.underlying41 hval
  obtain ⟨fuel, hf⟩ := h
  rcases open_slice Try.underlying41 hf with ⟨hcs, _⟩ | ⟨a, len', cap', k, nn, D, Pl, hcs, _, hl, hm, hk, hx, hi⟩
  · simp [Value.cells] at hcs
    obtain ⟨rfl, rfl, rfl⟩ := hcs
    exact ⟨ρ0, m0, nils, [], none, conc_nils _, Sim.start W, fun b _ => get_m0 b, .nil, by simp⟩
  · simp [Value.cells] at hcs
    obtain ⟨rfl, rfl, rfl⟩ := hcs
    simp only [if_true] at hk
    subst hk
    have hspot : a.spot = none := by
      simp only [Value.okWide, Try.underlying41, Cell.okWide, Cell.ok] at hval
      exact hval.2.2.2.1
    have hd : d = _ := (Prod.mk.inj hx).1
    have hbytes := hwt _ _ hd
    simp only [List.length_map, List.length_range] at hbytes
    rw [show Try.prog.bytesOf 46 = 40 from by kernel_rfl] at hbytes
    have hreach : reachBytes ≤ 140737488355328 := by decide
    by_cases h0 : len = 0
    · subst h0
      exact ⟨ρA a, mE, .slice 0 0 0 k true, [], none, conc_sl0 a hspot 0 k, Sim.startE W a, wf_mE, .empty, by simp⟩
    · have hE : ∀ i, i < len → ∃ e : Oq, W.cell? (a.add (i * 4)) = some (.int .i64 e.kind) ∧ W.cell? (a.add (i * 4 + 1)) = some (.int .i64 e.e.at') ∧ W.cell? (a.add (i * 4 + 2)) = some (.int .i64 e.e.n) ∧ W.cell? (a.add (i * 4 + 3)) = some (.string ⟨e.e.text.toArray⟩) := by
        intro i hil
        obtain ⟨cs', hc, ht'⟩ := hi i (by omega)
        have hC : Try.prog.cellsOf 46 = 4 := by kernel_rfl
        rw [hC] at hc
        obtain ⟨ys, n', _, _, hlen4, hyl, hfl⟩ := DataW.trod_struct Try.underlying46 ht'
        obtain ⟨_, hcl, hat⟩ := World.cells?_some hc
        have t0 := hfl 0 _ rfl
        have t1 := hfl 1 _ rfl
        match cs', hcl with
        | [c0, c1, c2, c3], _ =>
          match ys, hyl with
          | [y0, y1], _ =>
            have t0 : DataW.trod enc Try.prog W 0 (fun _ => true) true n' 3 [c0] = some y0 := t0
            have t1 : DataW.trod enc Try.prog W 0 (fun _ => true) true n' 31 [c1, c2, c3] = some y1 := t1
            obtain ⟨zs, n2, _, _, _, hzl, hfl2⟩ := DataW.trod_struct Try.underlying31 t1
            have u0 := hfl2 0 _ rfl
            have u1 := hfl2 1 _ rfl
            have u2 := hfl2 2 _ rfl
            match zs, hzl with
            | [z0, z1, z2], _ =>
              have u0 : DataW.trod enc Try.prog W 0 (fun _ => true) true n2 3 [c1] = some z0 := u0
              have u1 : DataW.trod enc Try.prog W 0 (fun _ => true) true n2 3 [c2] = some z1 := u1
              have u2 : DataW.trod enc Try.prog W 0 (fun _ => true) true n2 9 [c3] = some z2 := u2
              obtain ⟨i0, e0, _, _⟩ := DataW.trod_int Try.underlying3 t0
              obtain ⟨i1, e1, _, _⟩ := DataW.trod_int Try.underlying3 u0
              obtain ⟨i2, e2, _, _⟩ := DataW.trod_int Try.underlying3 u1
              obtain ⟨s3, e3, _, _⟩ := DataW.trod_string Try.underlying9 u2
              cases e0; cases e1; cases e2; cases e3
              have h0' := hat 0 (by omega)
              have h1' := hat 1 (by omega)
              have h2' := hat 2 (by omega)
              have h3' := hat 3 (by omega)
              rw [Go.Deep.add_add] at h0' h1' h2' h3'
              exact ⟨⟨i0, i1, i2, s3.data.toList⟩, h0', h1', h2', by simpa using h3'⟩
      obtain ⟨es, hlen, hes⟩ := list_of _ len hE
      have hcell : ∀ i v, (es.flatMap ocell)[i]? = some v → ∃ u, conc (ρA a) v = some u ∧ u.oneCell' = true ∧ W.cell? (a.add i) = some u := by
        intro i v hv
        obtain ⟨k, e, h1, h2, h3, h4⟩ := flat4 es i v hv
        obtain ⟨c0, c1, c2, c3⟩ := hes k e h1
        have hcases : i = k * 4 ∨ i = k * 4 + 1 ∨ i = k * 4 + 2 ∨ i = k * 4 + 3 := by omega
        rcases hcases with rfl | rfl | rfl | rfl
        · rw [Nat.sub_self] at h4
          cases h4
          exact ⟨_, conc_iv _ _, rfl, c0⟩
        · rw [show k * 4 + 1 - k * 4 = 1 by omega] at h4
          cases h4
          exact ⟨_, conc_iv _ _, rfl, c1⟩
        · rw [show k * 4 + 2 - k * 4 = 2 by omega] at h4
          cases h4
          exact ⟨_, conc_iv _ _, rfl, c2⟩
        · rw [show k * 4 + 3 - k * 4 = 3 by omega] at h4
          cases h4
          exact ⟨_, conc_tv _ _, rfl, c3⟩
      have hfl := oflat_len es
      have hblk : ∃ arr e fz, W.heap[a.block]? = some (.cells arr e fz) := by
        obtain ⟨e, c0, _⟩ := hE 0 (by omega)
        unfold World.cell? at c0
        split at c0
        · rename_i hh
          exact ⟨_, _, _, hh⟩
        · cases c0
      obtain ⟨arr, e, fz, hh⟩ := hblk
      have harr : ∀ i u, W.cell? (a.add i) = some u → arr[a.off + i]? = some u := by
        intro i u hu
        rw [add_of hspot] at hu
        unfold World.cell? at hu
        simp only [hh] at hu
        exact hu
      refine ⟨ρA a, mRow e (es.flatMap ocell), .slice 0 0 len k true, es, some 0, conc_sl0 a hspot len k, Sim.startRow hh _ ?_ (fun i v hv => ?_), wf_mRow _ _, ?_, by omega⟩
      · have hlast : (es.flatMap ocell)[es.length * 4 - 1]? = some ((es.flatMap ocell)[es.length * 4 - 1]'(by omega)) := List.getElem?_eq_getElem _
        obtain ⟨u, _, _, hu⟩ := hcell _ _ hlast
        have := (Array.getElem?_eq_some_iff.1 (harr _ _ hu)).1
        omega
      · obtain ⟨u, h1, h2, h3⟩ := hcell i v hv
        exact ⟨u, h1, h2, harr i u h3⟩
      · rw [← hlen]
        exact .row (at_mRow e _)
end Go.Proofs.Ytcbafpfljencdaa
