import Derived.Test.YthbfinjddaembaaGreatWaLay
import Derived.Test.YthbfinjddaembaaGreatYd
import Derived.Deep.Slices
import Derived.Deep.Fields
import Derived.ChangeSame
import Derived.ProofKit
import Derived.Shelf.Abstract
import Derived.Test.YthbfinjddaembaaGreatZg
import Derived.JoinedCond
/- The law 'skerrylaw09.WalCrashes' returns true for every list of lists of writes, every fuse, every list of picks and every list of fuses. Condition: what it reads is of the bulk that the statement's second form names. -/
/- The law's argument, a list of lists of writes, laid before the abstract machine. -/
set_option linter.unusedVariables false
set_option linter.unusedSimpArgs false
namespace Go.Proofs.YthbfinjddaembaaGreat
open Go Go.Am Go.ChangeShapes Go.WideShapes Go.ChangeAt Go.ChangeMaps Go.RowKit Go.Deep
section
variable {H : Type} {enc : TypeId × Value → H} {P : Program} {w : World} {base : Nat} {spare : Nat → Bool} {held : Bool}
theorem open_slice_fields {t e : TypeId} {fs : Array Field} {fuel : Nat} {cs : List Value} {x : DataW H × List MemPlace} (ht : P.underlying t = some (.slice e)) (he : P.underlying e = some (.struct fs))
    (hone : oneCellFields P fs = true) (hC : P.cellsOf e = fs.size) (h : DataW.trod enc P w base spare held fuel t cs = some x) :
    (cs = [.slice none 0 0] ∧ x = (.nil, [])) ∨
    ∃ (a : Addr) (len cap m : Nat) (D : Nat → DataW H) (Pl : Nat → List MemPlace), cs = [.slice (some a) len cap] ∧ base ≤ a.block ∧ len ≤ cap ∧ cap ≤ maxLen ∧ m = (if spare a.block then cap else len) ∧
      x = (.slice ((List.range len).map D) ((List.range (m - len)).map fun j => D (len + j)), MemPlace.row a (m * fs.size) ++ (List.range m).flatMap Pl) ∧
      ∀ i, i < m → ∃ (ys : List (DataW H × List MemPlace)) (n : Nat), D i = .agg (ys.map (·.1)) ∧ Pl i = ys.flatMap (·.2) ∧ ys.length = fs.size ∧
        ∀ (j : Nat) (f : Field), fs[j]? = some f → ∃ (v : Value) (y : DataW H × List MemPlace), w.cell? (a.add (i * fs.size + j)) = some v ∧ ys[j]? = some y ∧ DataW.trod enc P w base spare held n f.type [v] = some y := by
  rcases open_slice ht h with h0 | ⟨a, len, cap, m, n, D, Pl, hcs, hb, hl, hm, hmm, hx, hi⟩
  · exact .inl h0
  · refine .inr ⟨a, len, cap, m, D, Pl, hcs, hb, hl, hm, hmm, by rw [hC] at hx; exact hx, fun i him => ?_⟩
    obtain ⟨cs', hc, ht'⟩ := hi i him
    rw [hC] at hc
    obtain ⟨ys, n', hn', hy, hlen, hyl, hf⟩ := DataW.trod_struct he ht'
    obtain ⟨_, hcl, hat⟩ := World.cells?_some hc
    simp only [Prod.mk.injEq] at hy
    refine ⟨ys, n', hy.1, hy.2, hyl, fun j f hj => ?_⟩
    obtain ⟨ho, hk⟩ := hone_of hone j f hj
    have hjl : j < fs.size := (Array.getElem?_eq_some_iff.1 hj).1
    have hcell := hat j hjl
    have hv : cs'[j]? = some (cs'[j]'(by omega)) := List.getElem?_eq_getElem (by omega)
    have h1 := hf j f hj
    rw [ho, hk] at h1
    have hone' : (cs'.drop j).take 1 = [cs'[j]'(by omega)] := by
      rw [List.drop_eq_getElem_cons (by omega)]
      rfl
    rw [hone'] at h1
    have hys : ys[j]? = some (ys[j]'(by omega)) := List.getElem?_eq_getElem (by omega)
    refine ⟨_, _, ?_, hys, h1.trans hys⟩
    rw [← Go.Deep.add_add, hcell, hv]
end
theorem add_of {a : Addr} (h : a.spot = none) (i : Nat) : a.add i = ⟨a.block, a.off + i, none⟩ := by
  obtain ⟨b, o, s⟩ := a
  cases h
  exact Addr.add_mk b o i
structure Op (W : World) (ρ : Ren) (m : M) (ρ' : Ren) (m' : M) : Prop where
  sim : Sim Tryz.prog W ρ' m' W
  le : ρ.le ρ'
  wf : Wf m'
  kp : Keep m m' fun _ => False
theorem Op.refl {W : World} {ρ : Ren} {m : M} (hs : Sim Tryz.prog W ρ m W) (hw : Wf m) : Op W ρ m ρ m := ⟨hs, ρ.le_refl, hw, Keep.refl hw _⟩
theorem Op.trans {W : World} {ρ ρ1 ρ2 : Ren} {m m1 m2 : M} (h : Op W ρ m ρ1 m1) (k : Op W ρ1 m1 ρ2 m2) : Op W ρ m ρ2 m2 := ⟨k.sim, Ren.le_trans h.le k.le, k.wf, h.kp.tf k.kp⟩
theorem Op.row {W : World} {ρ : Ren} {m : M} (hs : Sim Tryz.prog W ρ m W) (hw : Wf m) {a : Addr} {l : List AV} (hl : l ≠ []) (hc : ∀ i v, l[i]? = some v → ∃ u, conc ρ v = some u ∧ u.oneCell' = true ∧ W.cell? (a.add i) = some u) :
    a.spot = none ∧ ∃ ρ' m' e, Op W ρ m ρ' m' ∧ AtR m' m.next l ∧ kd m' m.next roK ∧ (∀ len cap, conc ρ' (.slice m.next 0 len cap true) = some (.slice (some a) len cap)) ∧ m' = m.addRo e l := by
  have hpos : 0 < l.length := List.length_pos_iff.2 hl
  have h0 : ∃ u, W.cell? (a.add 0) = some u := by
    obtain ⟨u, _, _, h⟩ := hc 0 _ (List.getElem?_eq_getElem hpos)
    exact ⟨u, h⟩
  obtain ⟨u0, h0⟩ := h0
  have hspot : a.spot = none := by
    have := World.cell?_spot h0
    obtain ⟨b, o, s⟩ := a
    simpa [Addr.add] using this
  have hblk : ∃ arr e fz, W.heap[a.block]? = some (.cells arr e fz) := by
    rw [add_of hspot] at h0
    unfold World.cell? at h0
    split at h0
    · rename_i hh
      exact ⟨_, _, _, hh⟩
    · cases h0
  obtain ⟨arr, e, fz, hh⟩ := hblk
  have harr : ∀ i u, W.cell? (a.add i) = some u → arr[a.off + i]? = some u := by
    intro i u hu
    rw [add_of hspot] at hu
    unfold World.cell? at hu
    simp only [hh] at hu
    exact hu
  obtain ⟨h1, h2⟩ := hs.addRo (a := a) (arr := arr) (e := e) (fz := fz) (Below.lt_of_heap hh) hh l (by
    obtain ⟨u, _, _, h⟩ := hc (l.length - 1) _ (List.getElem?_eq_getElem (by omega))
    have := (Array.getElem?_eq_some_iff.1 (harr _ _ h)).1
    omega) (fun i v hv => by
      obtain ⟨u, h1, h2, h3⟩ := hc i v hv
      exact ⟨u, h1, h2, harr i u h3⟩)
  exact ⟨hspot, _, _, e, ⟨h1, h2, (Keep.addRo hw (F := fun _ => False)).wf, Keep.addRo hw⟩, AtR.addRo m e l, kd.addRo m e l, fun len cap => conc_sln (Ren.put_same _ _ _) hspot len cap, rfl⟩
theorem byte_of {z : Int} (h : (Lit.int .u8 z).wf = true) : ∃ x : UInt8, z = (x.toNat : Int) := by
  have h' : (decide ((0 : Int) ≤ z) && decide (z ≤ 255)) = true := h
  simp only [Bool.and_eq_true, decide_eq_true_eq] at h'
  exact ⟨UInt8.ofNat z.toNat, by rw [show (UInt8.ofNat z.toNat).toNat = z.toNat by simp; omega]; omega⟩
theorem list_of {α : Type} (R : Nat → α → Prop) : ∀ n, (∀ i, i < n → ∃ e, R i e) → ∃ l : List α, l.length = n ∧ ∀ i e, l[i]? = some e → R i e
  | 0, _ => ⟨[], rfl, fun i e h => by cases h⟩
  | n + 1, h => by
    obtain ⟨l, h1, h2⟩ := list_of R n fun i hi => h i (by omega)
    obtain ⟨e, he⟩ := h n (Nat.lt_succ_self n)
    refine ⟨l ++ [e], by simp [h1], fun i e' hi => ?_⟩
    by_cases hin : i < l.length
    · rw [List.getElem?_append_left hin] at hi
      exact h2 i e' hi
    · rw [List.getElem?_append_right (by omega)] at hi
      have := (List.getElem?_eq_some_iff.1 hi).1
      simp at this
      have e0 : i = n := by omega
      subst e0
      rw [show i - l.length = 0 by omega] at hi
      cases hi
      exact he
namespace bulks
theorem one_le {H : Type} (d : DataW H) : 1 ≤ Rows.uptoBulk d := by
  cases d with
  | lit l => cases l <;> simp [Rows.uptoBulk]
  | _ => simp [Rows.uptoBulk]
theorem part_le {H : Type} {d : DataW H} {l : List (DataW H)} (h : d ∈ l) : Rows.uptoBulk d ≤ Rows.uptoBulkAll l := by
  induction l with
  | nil => cases h
  | cons x r ih =>
    simp only [Rows.uptoBulkAll]
    cases List.mem_cons.1 h with
    | inl e => subst e; omega
    | inr e => have := ih e; omega
theorem length_le {H : Type} (l : List (DataW H)) : l.length ≤ Rows.uptoBulkAll l := by
  induction l with
  | nil => simp [Rows.uptoBulkAll]
  | cons x r ih => have := one_le x; simp only [Rows.uptoBulkAll, List.length_cons]; omega
theorem slice_le {H : Type} (elems spare : List (DataW H)) : elems.length + spare.length + 1 ≤ Rows.uptoBulk (.slice elems spare) := by
  have h1 := length_le elems
  have h2 := length_le spare
  simp only [Rows.uptoBulk]
  omega
theorem slice_elems {H : Type} (elems spare : List (DataW H)) : Rows.uptoBulkAll elems + 1 ≤ Rows.uptoBulk (.slice elems spare) := by
  simp only [Rows.uptoBulk]
  omega
end bulks
section
variable {H : Type} {enc : TypeId × Value → H} {W : World} {ρ : Ren} {m : M}
theorem dt_empty {s : AV} (h : s = nils ∨ ∃ a cap, s = .p (.slice (some a) 0 cap)) : DtAt m s [] := by
  rcases h with rfl | ⟨a, cap, rfl⟩
  · exact ⟨rfl, rfl, len_aq (n := 0) rfl, fun h => by cases h⟩
  · exact ⟨rfl, rfl, len_aq (n := 0) rfl, fun h => by cases h⟩
theorem open_bs {fuel : Nat} {v : Value} {x : DataW H × List MemPlace} (h : DataW.trod enc Tryz.prog W 0 (fun _ => true) true fuel 43 [v] = some x) (hs : Sim Tryz.prog W ρ m W) (hw : Wf m) :
    ∃ ρ' m' s t, conc ρ' s = some v ∧ v.oneCell' = true ∧ Op W ρ m ρ' m' ∧ DtAt m' s t := by
  rcases open_ints Tryz.underlying43 Tryz.underlying5 (by kernel_rfl) h with ⟨hcs, _⟩ | ⟨a, len, cap, zs, hcs, _, hl, hm, hz, hx, hcell, hwf⟩
  · cases hcs
    exact ⟨ρ, m, nils, [], conc_nils _, rfl, .refl hs hw, dt_empty (.inl rfl)⟩
  · cases hcs
    simp only [if_true] at hz
    by_cases h0 : len = 0
    · subst h0
      exact ⟨ρ, m, .p (.slice (some a) 0 cap), [], conc_p rfl, rfl, .refl hs hw, dt_empty (.inr ⟨a, cap, rfl⟩)⟩
    · obtain ⟨t, ht1, ht2⟩ := list_of (fun i (c : UInt8) => W.cell? (a.add i) = some (.int .u8 (c.toNat : Int))) len fun i hi => by
        have h1 := hcell i (by omega)
        have h2 := hwf (zs[i]'(by omega)) (List.getElem_mem _)
        obtain ⟨c, hc⟩ := byte_of h2
        refine ⟨c, ?_⟩
        rw [h1, ← hc, List.getD_eq_getElem?_getD, List.getElem?_eq_getElem (by omega)]; rfl
      have hyl : (ycells t).length = t.length := by simp [ycells]
      obtain ⟨hspot, ρ', m', e, hop, hat, hkd, hcn, _⟩ := Op.row (a := a) (l := ycells t) hs hw (fun e => by
        have := congrArg List.length e
        rw [hyl, ht1] at this
        exact h0 this) (fun i v hv => by
          unfold ycells at hv
          rw [List.getElem?_map, Option.map_eq_some_iff] at hv
          obtain ⟨c, hc, rfl⟩ := hv
          exact ⟨.int .u8 (c.toNat : Int), rfl, rfl, ht2 i c hc⟩)
      have hbs : BsAt m' (.slice m.next 0 t.length cap true) t m.next := .row hat (by rw [hyl]; omega) (by rw [List.drop_zero, List.take_of_length_le (by rw [hyl]; exact Nat.le_refl _)])
      subst ht1
      exact ⟨ρ', m', _, t, hcn _ _, rfl, hop, ⟨hbs.len, hbs.cells1, hbs.aq, fun _ => ⟨m.next, hbs, .inr hkd⟩⟩⟩
theorem open_ws {fuel : Nat} {v : Value} {x : DataW H × List MemPlace} (h : DataW.trod enc Tryz.prog W 0 (fun _ => true) true fuel 33 [v] = some x) (hs : Sim Tryz.prog W ρ m W) (hw : Wf m) :
    ∃ ρ' m' s L, conc ρ' s = some v ∧ v.oneCell' = true ∧ Op W ρ m ρ' m' ∧ WsAt m' s L ∧ L.length ≤ Rows.uptoBulk x.1 := by
  rcases open_slice_fields Tryz.underlying33 Tryz.underlying50 (by kernel_rfl) (by kernel_rfl) h with ⟨hcs, _⟩ | ⟨a, len, cap, k, D, Pl, hcs, _, hl, hm, hk, hx, hi⟩
  · cases hcs
    exact ⟨ρ, m, nils, [], conc_nils _, rfl, .refl hs hw, ⟨rfl, fun h => absurd rfl h, fun e he => by cases he⟩, Nat.zero_le _⟩
  · cases hcs
    simp only [if_true] at hk
    subst hk
    by_cases h0 : len = 0
    · subst h0
      exact ⟨ρ, m, .p (.slice (some a) 0 k), [], conc_p rfl, rfl, .refl hs hw, ⟨rfl, fun h => absurd rfl h, fun e he => by cases he⟩, Nat.zero_le _⟩
    · have hE : ∀ i, i < len → ∃ (z : Int) (u : Value) (n : Nat) (y : DataW H × List MemPlace), W.cell? (a.add (i * 2)) = some (.int .i64 z) ∧ W.cell? (a.add (i * 2 + 1)) = some u ∧ DataW.trod enc Tryz.prog W 0 (fun _ => true) true n 43 [u] = some y := by
        intro i hil
        obtain ⟨ys, n, _, _, _, hc⟩ := hi i (by omega)
        obtain ⟨v0, y0, c0, _, t0⟩ := hc 0 _ rfl
        obtain ⟨v1, y1, c1, _, t1⟩ := hc 1 _ rfl
        obtain ⟨z0, e0, _, _⟩ := DataW.trod_int Tryz.underlying3 t0
        cases e0
        exact ⟨z0, v1, n, y1, c0, c1, t1⟩
      have key : ∀ j, j ≤ len → ∃ (ρ' : Ren) (m' : M) (L : List Wr), Op W ρ m ρ' m' ∧ L.length = j ∧ (∀ e ∈ L, DtAt m' e.2.1 e.2.2) ∧ ∀ (i : Nat) (e : Wr), L[i]? = some e → ∃ u, W.cell? (a.add (i * 2)) = some (.int .i64 e.1) ∧ W.cell? (a.add (i * 2 + 1)) = some u ∧ conc ρ' e.2.1 = some u ∧ u.oneCell' = true := by
        intro j
        induction j with
        | zero => intro _; exact ⟨ρ, m, [], .refl hs hw, rfl, (fun e he => by cases he), fun i e he => by cases he⟩
        | succ j ih =>
          intro hj
          obtain ⟨ρ1, m1, L, h1, h2, h3, h4⟩ := ih (by omega)
          obtain ⟨z, u, n, y, g1, g2, g3⟩ := hE j (by omega)
          obtain ⟨ρ2, m2, s, t, c1, c2, c3, c4⟩ := open_bs g3 h1.sim h1.wf
          refine ⟨ρ2, m2, L ++ [(z, s, t)], h1.trans c3, by simp [h2], fun e he => ?_, fun i e he => ?_⟩
          · rcases List.mem_append.1 he with he | he
            · exact (h3 e he).kp h1.wf (E := []) (S := []) c3.kp.k0
            · cases List.mem_singleton.1 he; exact c4
          · by_cases hin : i < L.length
            · rw [List.getElem?_append_left hin] at he
              obtain ⟨u', q1, q2, q3, q4⟩ := h4 i e he
              exact ⟨u', q1, q2, conc_mono c3.le _ _ q3, q4⟩
            · rw [List.getElem?_append_right (by omega)] at he
              have := (List.getElem?_eq_some_iff.1 he).1
              simp at this
              have e0 : i = j := by omega
              subst e0
              rw [show i - L.length = 0 by omega] at he
              cases he
              exact ⟨u, g1, g2, c1, c2⟩
      obtain ⟨ρ1, m1, L, h1, h2, h3, h4⟩ := key len (Nat.le_refl _)
      have hwl := wcells_len L
      obtain ⟨hspot, ρ2, m2, e, hop, hat, hkd, hcn, _⟩ := Op.row (a := a) (l := wcells L) h1.sim h1.wf (fun e => by
        have := congrArg List.length e
        rw [hwl] at this
        simp at this
        omega) (fun i v hv => by
          have hlt := (List.getElem?_eq_some_iff.1 hv).1
          rw [hwl] at hlt
          have hk : i / 2 < L.length := by omega
          have hg := wcells_get L (i / 2) hk
          obtain ⟨u, q1, q2, q3, q4⟩ := h4 (i / 2) _ (List.getElem?_eq_getElem hk)
          have g0 : (wcells L)[i / 2 * 2]? = some (iv L[i / 2].1) := by
            have := congrArg (fun l => l[0]?) hg
            simpa [List.getElem?_take, List.getElem?_drop] using this
          have g1 : (wcells L)[i / 2 * 2 + 1]? = some L[i / 2].2.1 := by
            have := congrArg (fun l => l[1]?) hg
            simpa [List.getElem?_take, List.getElem?_drop] using this
          have hcase : i = i / 2 * 2 ∨ i = i / 2 * 2 + 1 := by omega
          rcases hcase with hc | hc
          · rw [hc, g0] at hv
            cases hv
            exact ⟨_, conc_iv _ _, rfl, (congrArg (fun j => W.cell? (a.add j)) hc).trans q1⟩
          · rw [hc, g1] at hv
            cases hv
            exact ⟨u, q3, q4, (congrArg (fun j => W.cell? (a.add j)) hc).trans q2⟩)
      subst h2
      refine ⟨ρ2, m2, _, L, hcn _ k, rfl, h1.trans hop, ⟨len_sl _ _ _ _ _, fun _ => ⟨_, _, _, [], rfl, by rw [List.append_nil]; exact hat, .inr hkd, hl⟩, fun e he => (h3 e he).kp h1.wf (E := []) (S := []) hop.kp.k0⟩, ?_⟩
      rw [hx]
      have := bulks.slice_le ((List.range L.length).map D) ((List.range (k - L.length)).map fun j => D (L.length + j))
      rw [List.length_map, List.length_range] at this
      have h9 : L.length ≤ Rows.uptoBulk (DataW.slice ((List.range L.length).map D) ((List.range (k - L.length)).map fun j => D (L.length + j))) := by omega
      exact h9
theorem open_sc {fuel : Nat} {v : Value} {x : DataW H × List MemPlace} (h : DataW.trod enc Tryz.prog W 0 (fun _ => true) true fuel 22 [v] = some x) (hs : Sim Tryz.prog W ρ m W) (hw : Wf m) (hb : Rows.uptoBulk x.1 ≤ 2000000) :
    ∃ ρ' m' s X, conc ρ' s = some v ∧ Op W ρ m ρ' m' ∧ ScAt m' s X := by
  rcases open_slice1 Tryz.underlying22 (by kernel_rfl) h with ⟨hcs, _⟩ | ⟨a, len, cap, k, n, V, D, Pl, hcs, _, hl, hm, hk, hx, hi⟩
  · cases hcs
    exact ⟨ρ, m, nils, [], conc_nils _, .refl hs hw, ⟨rfl, fun h => absurd rfl h, fun e he => by cases he⟩⟩
  · cases hcs
    simp only [if_true] at hk
    subst hk
    by_cases h0 : len = 0
    · subst h0
      exact ⟨ρ, m, .p (.slice (some a) 0 k), [], conc_p rfl, .refl hs hw, ⟨rfl, fun h => absurd rfl h, fun e he => by cases he⟩⟩
    · have hbk : ∀ i, i < len → Rows.uptoBulk (D i) ≤ 2000000 := fun i hil => by
        have h1 : D i ∈ (List.range len).map D := List.mem_map_of_mem (List.mem_range.2 hil)
        have h2 := bulks.part_le h1
        rw [hx] at hb
        have hb : Rows.uptoBulk (DataW.slice ((List.range len).map D) ((List.range (k - len)).map fun j => D (len + j))) ≤ 2000000 := hb
        have h3 := bulks.slice_elems ((List.range len).map D) ((List.range (k - len)).map fun j => D (len + j))
        omega
      have key : ∀ j, j ≤ len → ∃ (ρ' : Ren) (m' : M) (X : List (AV × List Wr)), Op W ρ m ρ' m' ∧ X.length = j ∧ (∀ e ∈ X, WsAt m' e.1 e.2 ∧ e.2.length ≤ 2000000) ∧ ∀ (i : Nat) (e : AV × List Wr), X[i]? = some e → ∃ u, W.cell? (a.add i) = some u ∧ conc ρ' e.1 = some u ∧ u.oneCell' = true := by
        intro j
        induction j with
        | zero => intro _; exact ⟨ρ, m, [], .refl hs hw, rfl, (fun e he => by cases he), fun i e he => by cases he⟩
        | succ j ih =>
          intro hj
          obtain ⟨ρ1, m1, X, h1, h2, h3, h4⟩ := ih (by omega)
          obtain ⟨g1, g2⟩ := hi j (by omega)
          obtain ⟨ρ2, m2, s, L, c1, c2, c3, c4, c5⟩ := open_ws g2 h1.sim h1.wf
          refine ⟨ρ2, m2, X ++ [(s, L)], h1.trans c3, by simp [h2], fun e he => ?_, fun i e he => ?_⟩
          · rcases List.mem_append.1 he with he | he
            · exact ⟨(h3 e he).1.k0 h1.wf c3.kp, (h3 e he).2⟩
            · cases List.mem_singleton.1 he
              exact ⟨c4, Nat.le_trans c5 (hbk j (by omega))⟩
          · by_cases hin : i < X.length
            · rw [List.getElem?_append_left hin] at he
              obtain ⟨u', q1, q2, q3⟩ := h4 i e he
              exact ⟨u', q1, conc_mono c3.le _ _ q2, q3⟩
            · rw [List.getElem?_append_right (by omega)] at he
              have := (List.getElem?_eq_some_iff.1 he).1
              simp at this
              have e0 : i = j := by omega
              subst e0
              rw [show i - X.length = 0 by omega] at he
              cases he
              exact ⟨V i, g1, c1, c2⟩
      obtain ⟨ρ1, m1, X, h1, h2, h3, h4⟩ := key len (Nat.le_refl _)
      obtain ⟨hspot, ρ2, m2, e, hop, hat, hkd, hcn, _⟩ := Op.row (a := a) (l := X.map (·.1)) h1.sim h1.wf (fun e => by
        have := congrArg List.length e
        simp at this
        subst this
        exact h0 h2.symm) (fun i v hv => by
          rw [List.getElem?_map, Option.map_eq_some_iff] at hv
          obtain ⟨e, he, rfl⟩ := hv
          obtain ⟨u, q1, q2, q3⟩ := h4 i e he
          exact ⟨u, q2, q3, q1⟩)
      subst h2
      exact ⟨ρ2, m2, _, X, hcn _ k, h1.trans hop, ⟨len_sl _ _ _ _ _, fun _ => ⟨_, _, _, rfl, hat, hkd⟩, fun e he => ⟨(h3 e he).1.k0 h1.wf hop.kp, (h3 e he).2⟩⟩⟩
end
end Go.Proofs.YthbfinjddaembaaGreat
/- Picks and fuses that are handed in, laid before the abstract machine. -/
namespace Go.Proofs.YthbfinjddaembaaGreat
open Go Go.Am Go.ChangeShapes Go.WideShapes Go.ChangeAt Go.ChangeMaps Go.RowKit Go.Deep
theorem wf_le {z : Int} (h : (Lit.int .i64 z).wf = true) : z ≤ 9223372036854775807 := by
  have h' : (decide ((-9223372036854775808 : Int) ≤ z) && decide (z ≤ 9223372036854775807)) = true := h
  simp only [Bool.and_eq_true, decide_eq_true_eq] at h'
  exact h'.2
section
variable {H : Type} {enc : TypeId × Value → H} {W : World} {ρ : Ren} {m : M}
theorem open_pk {fuel : Nat} {v : Value} {x : DataW H × List MemPlace} (h : DataW.trod enc Tryz.prog W 0 (fun _ => true) true fuel 69 [v] = some x) (hs : Sim Tryz.prog W ρ m W) (hw : Wf m) :
    ∃ ρ' m' s zs, conc ρ' s = some v ∧ v.oneCell' = true ∧ Op W ρ m ρ' m' ∧ PkAt m' s zs ∧ ∀ z ∈ zs, z ≤ 9223372036854775807 := by
  rcases open_ints Tryz.underlying69 Tryz.underlying3 (by kernel_rfl) h with ⟨hcs, _⟩ | ⟨a, len, cap, zs, hcs, _, hl, hm, hz, hx, hcell, hwf⟩
  · cases hcs
    exact ⟨ρ, m, nils, [], conc_nils _, rfl, .refl hs hw, ⟨rfl, fun h => absurd rfl h⟩, fun z hz => by cases hz⟩
  · cases hcs
    simp only [if_true] at hz
    by_cases h0 : len = 0
    · subst h0
      exact ⟨ρ, m, .p (.slice (some a) 0 cap), [], conc_p rfl, rfl, .refl hs hw, ⟨rfl, fun h => absurd rfl h⟩, fun z hz => by cases hz⟩
    · have hlen : (zs.take len).length = len := by rw [List.length_take]; omega
      have hget : ∀ i, i < len → W.cell? (a.add i) = some (.int .i64 ((zs.take len)[i]?.getD 0)) := fun i hi => by
        rw [hcell i (by omega), List.getD_eq_getElem?_getD, List.getElem?_take, if_pos hi]
      obtain ⟨hspot, ρ', m', e, hop, hat, hkd, hcn, _⟩ := Op.row (a := a) (l := (zs.take len).map iv) hs hw (fun e => by
        have := congrArg List.length e
        rw [List.length_map, hlen] at this
        exact h0 this) (fun i v hv => by
          rw [List.getElem?_map, Option.map_eq_some_iff] at hv
          obtain ⟨z, hz', rfl⟩ := hv
          have hi := (List.getElem?_eq_some_iff.1 hz').1
          refine ⟨.int .i64 z, conc_iv _ _, rfl, ?_⟩
          rw [hget i (by omega), hz']; rfl)
      refine ⟨ρ', m', .slice m.next 0 len cap true, zs.take len, hcn _ _, rfl, hop, ⟨by rw [hlen]; rfl, fun _ => ⟨m.next, 0, cap, _, by rw [hlen], by omega, hkd, hat, fun i hi => ?_⟩⟩, fun z hz => wf_le (hwf z (List.mem_of_mem_take hz))⟩
      rw [Nat.zero_add, List.getElem?_map, List.getElem?_eq_getElem hi]; rfl
theorem open_pks {fuel : Nat} {v : Value} {x : DataW H × List MemPlace} (h : DataW.trod enc Tryz.prog W 0 (fun _ => true) true fuel 68 [v] = some x) (hs : Sim Tryz.prog W ρ m W) (hw : Wf m) :
    ∃ ρ' m' s X, conc ρ' s = some v ∧ Op W ρ m ρ' m' ∧ PksAt m' s X := by
  rcases open_slice1 Tryz.underlying68 (by kernel_rfl) h with ⟨hcs, _⟩ | ⟨a, len, cap, k, n, V, D, Pl, hcs, _, hl, hm, hk, hx, hi⟩
  · cases hcs
    exact ⟨ρ, m, nils, [], conc_nils _, .refl hs hw, ⟨rfl, fun h => absurd rfl h, fun e he => by cases he⟩⟩
  · cases hcs
    simp only [if_true] at hk
    subst hk
    by_cases h0 : len = 0
    · subst h0
      exact ⟨ρ, m, .p (.slice (some a) 0 k), [], conc_p rfl, .refl hs hw, ⟨rfl, fun h => absurd rfl h, fun e he => by cases he⟩⟩
    · have key : ∀ j, j ≤ len → ∃ (ρ' : Ren) (m' : M) (X : List (AV × List Int)), Op W ρ m ρ' m' ∧ X.length = j ∧ (∀ e ∈ X, PkAt m' e.1 e.2) ∧ ∀ (i : Nat) (e : AV × List Int), X[i]? = some e → ∃ u, W.cell? (a.add i) = some u ∧ conc ρ' e.1 = some u ∧ u.oneCell' = true := by
        intro j
        induction j with
        | zero => intro _; exact ⟨ρ, m, [], .refl hs hw, rfl, (fun e he => by cases he), fun i e he => by cases he⟩
        | succ j ih =>
          intro hj
          obtain ⟨ρ1, m1, X, h1, h2, h3, h4⟩ := ih (by omega)
          obtain ⟨g1, g2⟩ := hi j (by omega)
          obtain ⟨ρ2, m2, s, L, c1, c2, c3, c4, _⟩ := open_pk g2 h1.sim h1.wf
          refine ⟨ρ2, m2, X ++ [(s, L)], h1.trans c3, by simp [h2], fun e he => ?_, fun i e he => ?_⟩
          · rcases List.mem_append.1 he with he | he
            · exact (h3 e he).kp h1.wf (E := []) (S := []) c3.kp.k0
            · cases List.mem_singleton.1 he
              exact c4
          · by_cases hin : i < X.length
            · rw [List.getElem?_append_left hin] at he
              obtain ⟨u', q1, q2, q3⟩ := h4 i e he
              exact ⟨u', q1, conc_mono c3.le _ _ q2, q3⟩
            · rw [List.getElem?_append_right (by omega)] at he
              have := (List.getElem?_eq_some_iff.1 he).1
              simp at this
              have e0 : i = j := by omega
              subst e0
              rw [show i - X.length = 0 by omega] at he
              cases he
              exact ⟨V i, g1, c1, c2⟩
      obtain ⟨ρ1, m1, X, h1, h2, h3, h4⟩ := key len (Nat.le_refl _)
      obtain ⟨hspot, ρ2, m2, e, hop, hat, hkd, hcn, _⟩ := Op.row (a := a) (l := X.map (·.1)) h1.sim h1.wf (fun e => by
        have := congrArg List.length e
        simp at this
        subst this
        exact h0 h2.symm) (fun i v hv => by
          rw [List.getElem?_map, Option.map_eq_some_iff] at hv
          obtain ⟨e, he, rfl⟩ := hv
          obtain ⟨u, q1, q2, q3⟩ := h4 i e he
          exact ⟨u, q2, q3, q1⟩)
      subst h2
      exact ⟨ρ2, m2, _, X, hcn _ k, h1.trans hop, ⟨len_sl _ _ _ _ _, fun _ => ⟨_, _, _, rfl, hat, hkd⟩, fun e he => (h3 e he).kp h1.wf (E := []) (S := []) hop.kp.k0⟩⟩
end
end Go.Proofs.YthbfinjddaembaaGreat
set_option linter.unusedSimpArgs false
set_option linter.unusedVariables false
namespace Go.Proofs.YthbfinjddaembaaGreat
open Go Go.Am Go.ChangeShapes Go.WideShapes Go.ChangeAt Go.ChangeMaps Go.RowKit Go.Deep
theorem Tryz.own : ownKnob Tryz.prog.godebug = none := by kernel_rfl
theorem Tryz.laidOut : laidOutB Tryz.prog = true := by kernel_rfl
theorem Tryz.good : Am.goodB Tryz.prog = true := by decide +kernel
noncomputable def tb1 : Tb := sortedTb Tryz.prog 52 3 [92]
theorem tb1_ok (w0 : World) : TbOk Tryz.prog w0 tb1 := sortedTb_ok (kt := 3) fun kf h => by
  simp only [List.mem_cons, List.not_mem_nil, or_false] at h
  subst h
  exact sortsKeysC
theorem ranWakes : Am.isTrue (Am.arun Tryz.prog tb1 100000 7 [] Am.m0) = true := by decide +kernel
theorem wakesTrue : Am.TrueAt Tryz.prog 7 := ⟨enters_of Tryz.func7 (by kernel_rfl) rfl, fun w => Am.closed_calls (Am.good_of Tryz.good) tb1_ok ranWakes Tryz.func7 rfl w⟩
theorem sortRowsC : SortsRows Tryz.prog 91 := {
  enters := enters_of Tryz.func91 (by kernel_rfl) rfl
  sort := fun blk off cap ss W hH hblk hsz => Go.Proofs.AnyM.slices_Sort_int Tryz.sortC blk off cap ss W hH hblk hsz
  none := fun p cap W => Go.Proofs.AnyM.slices_Sort_int_none Tryz.sortC p cap W }
noncomputable def tb2 : Tb := withSort (withTrue tb1 [7]) 91
theorem tb2_ok (w0 : World) : TbOk Tryz.prog w0 tb2 := withSort_ok (Am.withTrue_ok (tb1_ok w0) fun g h => by
  simp only [List.mem_cons, List.not_mem_nil, or_false] at h
  subst h
  exact wakesTrue) sortRowsC
def smallU : Value := .agg #[.int .i64 64, .int .i64 60, .int .i64 6, .int .i64 9, .int .i64 2, .int .i64 11, .int .i64 1, .int .i64 12, .int .i64 1, .int .i64 13, .int .i64 3, .int .i64 16]
theorem small_cn (ρ : Ren) : conc ρ smallV = some smallU := rfl
theorem ranSmall : Am.isVal smallV (Am.arun Tryz.prog tb2 100000 8 [] Am.m0) = true := by decide +kernel
theorem smallAt : Am.ValAt Tryz.prog 8 smallV smallU := ⟨enters_of Tryz.func8 (by kernel_rfl) rfl, small_cn, fun w => Am.closed_val (Am.good_of Tryz.good) tb2_ok ranSmall small_cn Tryz.func8 rfl w⟩
theorem tb_ok (w0 : World) : TbOk Tryz.prog w0 tb := withVal_ok (tb2_ok w0) smallAt
theorem concs_1 {ρ : Ren} {x : AV} {v : Value} (h : conc ρ x = some v) {l : List AV} {vs : List Value} (k : concs ρ l = some vs) : concs ρ (x :: l) = some (v :: vs) := concs_cons.2 ⟨v, vs, h, k, rfl⟩
theorem bulk_le {H : Type} {d e f g : DataW H} (hk : Rows.uptoSmall H ([d, e, f, g] ++ []) = true) : Rows.uptoBulk d ≤ 2000000 := by
  have h := of_decide_eq_true hk
  simp only [List.cons_append, List.nil_append, Rows.uptoBulkAll] at h
  omega
set_option maxRecDepth 100000 in
theorem walCrashes_lifted (os : Os) (started : os.Started) (H : Type) (enc : TypeId × Value → H) (F : Stop.Interp) :
    ReturnsInHanded {} Tryz.checked os 5 .any ((Rows.OpenSpec.upto Rows.walCrashesSpec).pre6 enc Tryz.prog Tryz.f5 Rows.walCrashesUptoRow.domain false) (((Rows.OpenSpec.upto Rows.walCrashesSpec).at F).post enc Tryz.prog Tryz.f5 false true false false) := by
  refine returnsInHanded_of_cond (C := Tryz.checked) (s := Rows.OpenSpec.upto Rows.walCrashesSpec) (k := Rows.uptoSmall) rfl Tryz.own started (by kernel_rfl) Tryz.func5
    (OpenSpec.witness (enc := enc) (C := Tryz.checked) (s := Rows.OpenSpec.upto Rows.walCrashesSpec) (k := Rows.uptoSmall) rfl false ⟨#[], #[.slice none 0 0, .int .i64 0, .slice none 0 0, .slice none 0 0], []⟩ 8 (by kernel_rfl) (by kernel_rfl) (by kernel_rfl)
      (x := ([.nil, .lit (.int .i64 0), .nil, .nil], [], [])) (by kernel_rfl) rfl (by kernel_rfl)) ?_
  intro W base args ds gs before hval0 hW _ hk _
  have hval : ∀ (j : Nat) t v, Tryz.f5.params[j]? = some t → args[j]? = some v → Value.okWide Tryz.prog W .any base t v := hval0
  have hW' := hW
  obtain ⟨p, q, hA0, hV, rfl, hfz, hnd⟩ := hW
  have hA : DataW.TrodAll enc Tryz.prog W 0 (fun _ => true) true Tryz.f5.params.toList args.toList ds p := hA0
  rw [Tryz.params5] at hA hval
  obtain ⟨v0, v1, v2, v3, d0, d1, d2, d3, p0, p1, p2, p3, rfl, rfl, rfl, h0, h1, h2, h3⟩ := trodAll_four hA
  obtain ⟨rfl, rfl⟩ := trodVars_none hV
  obtain ⟨n, rfl, rfl, rfl, wn⟩ := open_int Tryz.underlying3 (hval 1 3 v1 rfl rfl) h1
  have hb0 := bulk_le hk
  obtain ⟨a0, len0, cap0, rfl⟩ := okWide_slice Tryz.underlying22 (hval 0 22 v0 rfl rfl)
  obtain ⟨a2, len2, cap2, rfl⟩ := okWide_slice Tryz.underlying68 (hval 2 68 v2 rfl rfl)
  obtain ⟨a3, len3, cap3, rfl⟩ := okWide_slice Tryz.underlying69 (hval 3 69 v3 rfl rfl)
  obtain ⟨f0, hf0⟩ := h0
  obtain ⟨f2, hf2⟩ := h2
  obtain ⟨f3, hf3⟩ := h3
  have g0 : DataW.trod enc Tryz.prog W 0 (fun _ => true) true f0 22 [.slice a0 len0 cap0] = some (d0, p0) := hf0
  have g2 : DataW.trod enc Tryz.prog W 0 (fun _ => true) true f2 68 [.slice a2 len2 cap2] = some (d2, p2) := hf2
  have g3 : DataW.trod enc Tryz.prog W 0 (fun _ => true) true f3 69 [.slice a3 len3 cap3] = some (d3, p3) := hf3
  obtain ⟨ρ1, m1, x, X, hx, hop1, hX⟩ := open_sc (x := (d0, p0)) g0 (Sim.start W) (fun b _ => get_m0 b) hb0
  obtain ⟨ρ2, m2, px, Z, hpx, hop2, hZ⟩ := open_pks (x := (d2, p2)) g2 hop1.sim hop1.wf
  obtain ⟨ρ3, m3, ax, zs, hax, _, hop3, hzs, hle⟩ := open_pk (x := (d3, p3)) g3 hop2.sim hop2.wf
  have h0 : DataW.Trod enc Tryz.prog W 0 (fun _ => true) true 22 (.slice a0 len0 cap0) d0 p0 := ⟨f0, hf0⟩
  have h2 : DataW.Trod enc Tryz.prog W 0 (fun _ => true) true 68 (.slice a2 len2 cap2) d2 p2 := ⟨f2, hf2⟩
  have h3 : DataW.Trod enc Tryz.prog W 0 (fun _ => true) true 69 (.slice a3 len3 cap3) d3 p3 := ⟨f3, hf3⟩
  have hlt : ∀ z, z ∈ p0 ++ p2 ++ p3 → z.block < W.heap.size := fun z hz => by simpa using hW'.lt z (by simpa using hz)
  have hX3 := (hX.k0 hop1.wf hop2.kp).k0 hop2.wf hop3.kp
  have hZ3 := hZ.kp hop2.wf (E := []) (S := []) hop3.kp.k0
  refine (wp_true (Am.good_of Tryz.good) tb_ok (crashes_spec (ff := n) hop3.wf hX3 hZ3 hzs hle (wf_le wn)) (concs_1 (conc_mono (Ren.le_trans hop2.le hop3.le) _ _ hx) (concs_1 (v := .int .i64 n) (conc_iv _ _) (concs_1 (conc_mono hop3.le _ _ hpx) (concs_1 hax (concs_nil ρ3))))) hop3.sim Tryz.func5 rfl).mono fun e W' ⟨he, hb⟩ => ?_
  subst he
  exact ⟨_, rfl, post_same hW' (fun _ _ _ => trodAll_mk1 (shut_bool Tryz.underlying4 true)) (trodAll_mk4 (Below.trod Tryz.laidOut (by kernel_rfl) (of_decide_eq_true (by kernel_rfl)) h0 hb fun z hz => hlt z (by simp [hz])) (shut_int Tryz.underlying3 wn) (Below.trod Tryz.laidOut (by kernel_rfl) (of_decide_eq_true (by kernel_rfl)) h2 hb fun z hz => hlt z (by simp [hz])) (Below.trod Tryz.laidOut (by kernel_rfl) (of_decide_eq_true (by kernel_rfl)) h3 hb fun z hz => hlt z (by simp [hz]))) rfl hb⟩
theorem walCrashes_holds : Rows.WalCrashesUptoSaid :=
  OpenClaim.holds_of_cond 5 Tryz.f5 rfl rfl rfl rfl rfl rfl rfl ⟨rfl, rfl, rfl, rfl, rfl⟩ rfl rfl rfl rfl rfl (by kernel_rfl) Tryz.func5 (by kernel_rfl)
    (of_decide_eq_true (by kernel_rfl)) (by unfold Func.isWrapper; first | (rw [if_pos (by decide +kernel)]; kernel_rfl) | (rw [if_neg (by decide +kernel)]; exact ⟨rfl, rfl⟩))
    (fun os started H enc _ F => walCrashes_lifted os started H enc F)
#print axioms walCrashes_holds
end Go.Proofs.YthbfinjddaembaaGreat
