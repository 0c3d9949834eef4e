import Derived.Test.YtmkbjcjlnidjiaaCaLay
import Derived.Test.YtmkbjcjlnidjiaaCh
import Derived.Deep.Slices
import Derived.Deep.Fields
import Derived.ChangeSame
import Derived.ProofKit
import Derived.Shelf.Abstract
/- The law 'skerrylaw08.CacheReads' returns true for every capacity, every row of picks and every script. Conditions: none beyond those that the statement itself has. -/
set_option linter.unusedSimpArgs false
set_option linter.unusedVariables false
namespace Go.Proofs.Ytmkbjcjlnidjiaa
open Go Go.Am Go.ChangeShapes Go.WideShapes Go.ChangeAt Go.ChangeMaps Go.RowKit Go.Deep

theorem Try.own : ownKnob Try.prog.godebug = none := by kernel_rfl
theorem Try.laidOut : laidOutB Try.prog = true := by kernel_rfl
theorem Try.good : Am.goodB Try.prog = true := by decide +kernel
noncomputable def tb1 : Tb := sortedTb Try.prog 31 3 [51]
theorem tb1_ok (w0 : World) : TbOk Try.prog w0 tb1 := sortedTb_ok (kt := 3) fun kf h => by
  simp only [List.mem_cons, List.not_mem_nil, or_false] at h
  subst h
  exact sortsKeysC
theorem ranWakes : Am.isTrue (Am.arun Try.prog tb1 100000 6 [] Am.m0) = true := by decide +kernel
theorem wakesTrue : Am.TrueAt Try.prog 6 := ⟨enters_of Try.func6 (by kernel_rfl) rfl, fun w => Am.closed_calls (Am.good_of Try.good) tb1_ok ranWakes Try.func6 rfl w⟩
theorem sortRowsC : SortsRows Try.prog 47 := {
  enters := enters_of Try.func47 (by kernel_rfl) rfl
  sort := fun blk off cap ss W hH hblk hsz => Go.Proofs.AnyM.slices_Sort_int Try.sortC blk off cap ss W hH hblk hsz
  none := fun p cap W => Go.Proofs.AnyM.slices_Sort_int_none Try.sortC p cap W }
theorem tb_ok (w0 : World) : Am.TbOk Try.prog w0 tb := withSort_ok (Am.withTrue_ok (tb1_ok w0) fun g h => by
  simp only [List.mem_cons, List.not_mem_nil, or_false] at h
  subst h
  exact wakesTrue) sortRowsC
theorem concs_1 {ρ : Ren} {x : AV} {v : Value} (h : conc ρ x = some v) {l : List AV} {vs : List Value} (k : concs ρ l = some vs) : concs ρ (x :: l) = some (v :: vs) := concs_cons.2 ⟨v, vs, h, k, rfl⟩
theorem bytes3 : Try.prog.bytesOf 3 = 8 := by kernel_rfl
theorem reach_le {n : Nat} (h : n * Try.prog.bytesOf 3 ≤ reachBytes) : n * 8 ≤ 140737488355328 := by
  rw [bytes3] at h
  exact Nat.le_trans h (by decide)
theorem bytes51 : Try.prog.bytesOf 51 = 48 := by kernel_rfl
theorem list_of {α : Type} (R : Nat → α → Prop) : ∀ n, (∀ i, i < n → ∃ e, R i e) → ∃ l : List α, l.length = n ∧ ∀ i e, l[i]? = some e → R i e
  | 0, _ => ⟨[], rfl, fun i e h => by cases h⟩
  | n + 1, h => by
    obtain ⟨l, h1, h2⟩ := list_of R n fun i hi => h i (by omega)
    obtain ⟨e, he⟩ := h n (Nat.lt_succ_self n)
    refine ⟨l ++ [e], by simp [h1], fun i e' hi => ?_⟩
    by_cases hin : i < l.length
    · rw [List.getElem?_append_left hin] at hi
      exact h2 i e' hi
    · rw [List.getElem?_append_right (by omega)] at hi
      have : i - l.length = 0 := by
        have := (List.getElem?_eq_some_iff.1 hi).1
        simp at this
        omega
      rw [this] at hi
      cases hi
      have : i = n := by omega
      rw [this]; exact he
theorem add_of {a : Addr} (h : a.spot = none) (i : Nat) : a.add i = ⟨a.block, a.off + i, none⟩ := by
  obtain ⟨b, o, s⟩ := a
  cases h
  exact Addr.add_mk b o i
theorem flat4' (es : List Sop) : ∀ (i : Nat) (v : AV), (es.flatMap scells)[i]? = some v → ∃ k e, es[k]? = some e ∧ k * 4 ≤ i ∧ i < k * 4 + 4 ∧ (scells e)[i - k * 4]? = some v := by
  induction es with
  | nil => intro i v h; cases h
  | cons e es ih =>
    intro i v h
    rw [List.flatMap_cons] at h
    have he : (scells e).length = 4 := rfl
    by_cases hi : i < 4
    · rw [List.getElem?_append_left (by omega)] at h
      exact ⟨0, e, rfl, by omega, by omega, by simpa using h⟩
    · rw [List.getElem?_append_right (by omega), he] at h
      obtain ⟨k, e', h1, h2, h3, h4⟩ := ih _ _ h
      refine ⟨k + 1, e', by simpa using h1, by omega, by omega, ?_⟩
      rw [show i - (k + 1) * 4 = i - 4 - k * 4 by omega]
      exact h4
theorem sflat_len (u : List Sop) : (u.flatMap scells).length = u.length * 4 := by
  induction u with
  | nil => rfl
  | cons p ps ih => rw [List.flatMap_cons, List.length_append, ih]; simp [scells]; omega
set_option maxRecDepth 20000 in
theorem open_ops {H : Type} {enc : TypeId × Value → H} {W : World} {base : Nat} {v : Value} {d : DataW H} {p : List MemPlace} (hval : Value.okWide Try.prog W .any base 48 v) (h : DataW.Trod enc Try.prog W 0 (fun _ => true) true 48 v d p) {ρ : Ren} {m : M} (hs : Sim Try.prog W ρ m W) (hw : Wf m)
    (hwt : ∀ elems spare, d = .slice elems spare → (elems.length + spare.length) * Try.prog.bytesOf 51 ≤ reachBytes) :
    ∃ (ρ' : Ren) (m' : M) (x : AV) (es : List Sop), conc ρ' x = some v ∧ Sim Try.prog W ρ' m' W ∧ ρ.le ρ' ∧ Wf m' ∧ Keep m m' (fun _ => False) ∧ ScAt m' x es ∧ es.length * 48 ≤ 140737488355328 := by
  obtain ⟨a0, len, cap, rfl⟩ := okWide_slice Try.underlying48 hval
  obtain ⟨fuel, hf⟩ := h
  rcases open_slice Try.underlying48 hf with ⟨hcs, _⟩ | ⟨a, len', cap', k, nn, D, Pl, hcs, _, hl, hm, hk, hx, hi⟩
  · simp [Value.cells] at hcs
    obtain ⟨rfl, rfl, rfl⟩ := hcs
    exact ⟨ρ, m, nils, [], conc_nils _, hs, ρ.le_refl, hw, Keep.refl hw _, .nil, by simp⟩
  · simp [Value.cells] at hcs
    obtain ⟨rfl, rfl, rfl⟩ := hcs
    simp only [if_true] at hk
    subst hk
    have hspot : a.spot = none := by
      simp only [Value.okWide, Try.underlying48, Cell.okWide, Cell.ok] at hval
      exact hval.2.2.2.1
    have hd : d = _ := (Prod.mk.inj hx).1
    have hbytes := hwt _ _ hd
    simp only [List.length_map, List.length_range] at hbytes
    rw [bytes51] at hbytes
    have hreach : reachBytes ≤ 140737488355328 := by decide
    by_cases h0 : len = 0
    · subst h0
      obtain ⟨h1, h2⟩ := hs.bump ⟨a.block, a.off, 0⟩
      exact ⟨_, m.bump, .slice m.next 0 0 k true, [], conc_sln (Ren.put_same _ _ _) hspot 0 k, h1, h2, (Keep.bump hw (F := fun _ => False)).wf, Keep.bump hw, .empty, by simp⟩
    · have hE : ∀ i, i < len → ∃ e : Sop, W.cell? (a.add (i * 4)) = some (.int .i64 e.1) ∧ W.cell? (a.add (i * 4 + 1)) = some (.int .i64 e.2.1) ∧ W.cell? (a.add (i * 4 + 2)) = some (.int .u8 (e.2.2.1.toNat : Int)) ∧ ∃ u, e.2.2.2 = .p u ∧ u.oneCell' = true ∧ W.cell? (a.add (i * 4 + 3)) = some u := by
        intro i hil
        obtain ⟨cs', hc, ht'⟩ := hi i (by omega)
        have hC : Try.prog.cellsOf 51 = 4 := by kernel_rfl
        rw [hC] at hc
        obtain ⟨ys, n', _, _, hlen4, hyl, hfl⟩ := DataW.trod_struct Try.underlying51 ht'
        obtain ⟨_, hcl, hat⟩ := World.cells?_some hc
        have t0 := hfl 0 _ rfl
        have t1 := hfl 1 _ rfl
        have t2 := hfl 2 _ rfl
        have t3 := hfl 3 _ rfl
        match cs', hcl with
        | [c0, c1, c2, c3], _ =>
          match ys, hyl with
          | [y0, y1, y2, y3], _ =>
            have t0 : DataW.trod enc Try.prog W 0 (fun _ => true) true n' 3 [c0] = some y0 := t0
            have t1 : DataW.trod enc Try.prog W 0 (fun _ => true) true n' 3 [c1] = some y1 := t1
            have t2 : DataW.trod enc Try.prog W 0 (fun _ => true) true n' 5 [c2] = some y2 := t2
            have t3 : DataW.trod enc Try.prog W 0 (fun _ => true) true n' 22 [c3] = some y3 := t3
            obtain ⟨i0, e0, _, _⟩ := DataW.trod_int Try.underlying3 t0
            obtain ⟨i1, e1, _, _⟩ := DataW.trod_int Try.underlying3 t1
            obtain ⟨i2, e2, _, w2⟩ := DataW.trod_int Try.underlying5 t2
            have h3 : c3.oneCell' = true := by
              rcases open_slice Try.underlying22 t3 with ⟨e, _⟩ | ⟨_, _, _, _, _, _, _, e, _⟩ <;> cases e <;> rfl
            cases e0; cases e1; cases e2
            have hb : 0 ≤ i2 ∧ i2 ≤ 255 := by
              have w2' : (decide ((0 : Int) ≤ i2) && decide (i2 ≤ 255)) = true := w2
              simpa using w2'
            have h0' := hat 0 (by omega)
            have h1' := hat 1 (by omega)
            have h2' := hat 2 (by omega)
            have h3' := hat 3 (by omega)
            rw [Go.Deep.add_add] at h0' h1' h2' h3'
            refine ⟨(i0, i1, UInt8.ofNat i2.toNat, .p c3), h0', h1', ?_, c3, rfl, h3, h3'⟩
            rw [h2']
            show some (Value.int .u8 i2) = some (Value.int .u8 (((UInt8.ofNat i2.toNat).toNat : Nat) : Int))
            rw [show (UInt8.ofNat i2.toNat).toNat = i2.toNat by simp; omega, show ((i2.toNat : Nat) : Int) = i2 by omega]
      obtain ⟨es, hlen, hes⟩ := list_of _ len hE
      have hcell : ∀ i v, (es.flatMap scells)[i]? = some v → ∃ u, (∀ ρ, conc ρ v = some u) ∧ u.oneCell' = true ∧ W.cell? (a.add i) = some u := by
        intro i v hv
        obtain ⟨k, e, h1, h2, h3, h4⟩ := flat4' es i v hv
        obtain ⟨c0, c1, c2, u3, e3, o3, c3⟩ := hes k e h1
        have hcases : i = k * 4 ∨ i = k * 4 + 1 ∨ i = k * 4 + 2 ∨ i = k * 4 + 3 := by omega
        rcases hcases with rfl | rfl | rfl | rfl
        · rw [Nat.sub_self] at h4
          cases h4
          exact ⟨_, fun ρ => conc_iv _ _, rfl, c0⟩
        · rw [show k * 4 + 1 - k * 4 = 1 by omega] at h4
          cases h4
          exact ⟨_, fun ρ => conc_iv _ _, rfl, c1⟩
        · rw [show k * 4 + 2 - k * 4 = 2 by omega] at h4
          cases h4
          exact ⟨_, fun ρ => rfl, rfl, c2⟩
        · rw [show k * 4 + 3 - k * 4 = 3 by omega] at h4
          have h4 : some e.2.2.2 = some v := h4
          cases h4
          rw [e3]
          exact ⟨u3, fun ρ => conc_p o3, o3, c3⟩
      have hfl := sflat_len es
      have hblk : ∃ arr e fz, W.heap[a.block]? = some (.cells arr e fz) := by
        obtain ⟨e, c0, _⟩ := hE 0 (by omega)
        unfold World.cell? at c0
        split at c0
        · rename_i hh
          exact ⟨_, _, _, hh⟩
        · cases c0
      obtain ⟨arr, e, fz, hh⟩ := hblk
      have harr : ∀ i u, W.cell? (a.add i) = some u → arr[a.off + i]? = some u := by
        intro i u hu
        rw [add_of hspot] at hu
        unfold World.cell? at hu
        simp only [hh] at hu
        exact hu
      obtain ⟨h1, h2⟩ := hs.addRo (a := a) (arr := arr) (e := e) (fz := fz) (Below.lt_of_heap hh) hh (es.flatMap scells) (by
        have hlast : (es.flatMap scells)[es.length * 4 - 1]? = some ((es.flatMap scells)[es.length * 4 - 1]'(by omega)) := List.getElem?_eq_getElem _
        obtain ⟨u, _, _, hu⟩ := hcell _ _ hlast
        have := (Array.getElem?_eq_some_iff.1 (harr _ _ hu)).1
        omega) (fun i v hv => by
          obtain ⟨u, h1, h2, h3⟩ := hcell i v hv
          exact ⟨u, h1 _, h2, harr i u h3⟩)
      refine ⟨_, m.addRo e (es.flatMap scells), .slice m.next 0 len k true, es, conc_sln (Ren.put_same _ _ _) hspot len k, h1, h2, (Keep.addRo hw (F := fun _ => False)).wf, Keep.addRo hw, ?_, by omega⟩
      rw [← hlen]
      exact .row (AtR.addRo m e _) (kd.addRo m e _)
set_option maxRecDepth 100000 in
theorem cacheReads_lifted (os : Os) (started : os.Started) (H : Type) (enc : TypeId × Value → H) :
    ReturnsInHanded {} Try.checked os 5 .any (Rows.cacheReadsSpec.pre6 enc Try.prog Try.f5 Rows.cacheReadsRow.domain false) (Rows.cacheReadsSpec.post enc Try.prog Try.f5 false true false false) := by
  refine returnsInHanded_of_change_sized (C := Try.checked) Try.own started (by kernel_rfl) Try.func5
    (ChangeSpec.witness6 (enc := enc) (C := Try.checked) false ⟨#[], #[.int .i64 0, .slice none 0 0, .slice none 0 0], []⟩ 8 (by kernel_rfl) (by kernel_rfl) (by kernel_rfl) (by kernel_rfl)) ?_
  intro W base args ds gs before hval0 hW hcnd hsize _
  have hval : ∀ (j : Nat) t v, Try.f5.params[j]? = some t → args[j]? = some v → Value.okWide Try.prog W .any base t v := hval0
  have hW' := hW
  obtain ⟨p, q, hA0, hV, rfl, hfz, hnd⟩ := hW
  have hA : DataW.TrodAll enc Try.prog W 0 (fun _ => true) true Try.f5.params.toList args.toList ds p := hA0
  have hsz : (DataW.weightsEach Try.prog (Try.f5.params.toList ++ Rows.cacheReadsSpec.plain.varTypes Try.prog) (ds ++ gs)).all (· ≤ reachBytes) = true := hsize
  rw [Try.params5] at hA hval hsz
  obtain ⟨v0, v1, v2, d0, d1, d2, p0, p1, p2, rfl, rfl, rfl, h0, h1, h2⟩ := trodAll_three hA
  obtain ⟨rfl, rfl⟩ := trodVars_none hV
  obtain ⟨a, rfl, rfl, rfl, wa⟩ := open_int Try.underlying3 (hval 0 3 v0 rfl rfl) h0
  obtain ⟨ρ1, m1, x, ps, po, hx, hs1, hle1, hw1, hk1, hR1, _, hb1⟩ := open_nums Try.underlying22 Try.underlying3 (by kernel_rfl) (hval 1 22 v1 rfl rfl) h1 (Sim.start W) (fun b _ => get_m0 b) (B := 8) (fun elems spare hd => by
    subst hd
    exact reach_le (sized_slice hsz (j := 1) (t := 22) rfl rfl Try.underlying22))
  obtain ⟨ρ2, m2, y, ops, hy, hs2, hle2, hw2, hk2, hR2, hb2⟩ := open_ops (hval 2 48 v2 rfl rfl) h2 hs1 hw1 (fun elems spare hd => by
    subst hd
    exact sized_slice hsz (j := 2) (t := 48) rfl rfl Try.underlying48)
  have hlt : ∀ z, z ∈ p1 ++ p2 → z.block < W.heap.size := fun z hz => by simpa using hW'.lt z (by simpa using hz)
  refine (wp_true (Am.good_of Try.good) tb_ok (reads_spec (a := a) hw2 (hR1.keep hw1 hk2 fun _ _ h => h) hb1 hR2 (by omega)) (concs_1 (conc_iv ρ2 a) (concs_1 (conc_mono hle2 _ _ hx) (concs_1 hy (concs_nil ρ2)))) hs2 Try.func5 rfl).mono fun e W' ⟨he, hb⟩ => ?_
  subst he
  exact ⟨_, rfl, post_same hW' (fun _ _ _ => trodAll_mk1 (shut_bool Try.underlying4 true)) (trodAll_mk3 (shut_int Try.underlying3 wa) (Below.trod Try.laidOut (by kernel_rfl) (of_decide_eq_true (by kernel_rfl)) h1 hb fun z hz => hlt z (by simp [hz])) (Below.trod Try.laidOut (by kernel_rfl) (of_decide_eq_true (by kernel_rfl)) h2 hb fun z hz => hlt z (by simp [hz]))) rfl hb⟩
theorem cacheReads_holds : Rows.CacheReadsSaid :=
  OpenClaim.holds_of_wide 5 Try.f5 rfl rfl rfl rfl rfl rfl rfl ⟨rfl, rfl, rfl, rfl, rfl⟩ rfl rfl rfl rfl rfl (by kernel_rfl) Try.func5 (by kernel_rfl)
    (of_decide_eq_true (by kernel_rfl)) (by unfold Func.isWrapper; first | (rw [if_pos (by decide +kernel)]; kernel_rfl) | (rw [if_neg (by decide +kernel)]; exact ⟨rfl, rfl⟩))
    (fun os started H enc _ => cacheReads_lifted os started H enc)
end Go.Proofs.Ytmkbjcjlnidjiaa
