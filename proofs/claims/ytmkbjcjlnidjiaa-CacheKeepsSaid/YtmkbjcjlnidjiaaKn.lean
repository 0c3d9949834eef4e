import Derived.Test.YtmkbjcjlnidjiaaCaLay
import Derived.Test.YtmkbjcjlnidjiaaKm
import Derived.Deep.Slices
import Derived.Deep.Fields
import Derived.ChangeSame
import Derived.ProofKit
import Derived.Shelf.Abstract
/- The law 'skerrylaw08.CacheKeeps' returns true for every two bytes, every row of picks and every row of blocks. Conditions: none beyond those that the statement itself has. -/
set_option linter.unusedSimpArgs false
set_option linter.unusedVariables false
namespace Go.Am
open Go Go.RowKit Go.ChangeShapes Go.WideShapes Go.ChangeAt Go.ChangeMaps Go.Deep
theorem open_numsK {H : Type} {enc : TypeId × Value → H} {P : Program} {W : World} {base : Nat} {t e : TypeId} {k : IntKind} {v : Value} {d : DataW H} {p : List MemPlace} (ht : P.underlying t = some (.slice e)) (he : P.underlying e = some (.int k)) (hC : P.cellsOf e = 1)
    (hval : Value.okWide P W .any base t v) (h : DataW.Trod enc P W 0 (fun _ => true) true t v d p) {ρ : Ren} {m : M} (hs : Sim P W ρ m W) (hw : Wf m) {B : Nat}
    (hwt : ∀ elems spare, d = .slice elems spare → (elems.length + spare.length) * B ≤ 140737488351232) :
    ∃ (ρ' : Ren) (m' : M) (x : AV) (zs : List Int) (o : Option Nat), conc ρ' x = some v ∧ Sim P W ρ' m' W ∧ ρ.le ρ' ∧ Wf m' ∧ Keep m m' (fun _ => False) ∧ RsAt m' x (zs.map (kv k)) o ∧ (∀ b, o = some b → kd m' b roK) ∧ (∀ n ∈ zs, (Lit.int k n).wf = true) ∧ zs.length * B ≤ 140737488351232 := by
  obtain ⟨a0, len, cap, rfl⟩ := okWide_slice ht hval
  obtain ⟨fuel, hf⟩ := h
  rcases open_ints ht he hC hf with ⟨hcs, _⟩ | ⟨a, len', cap', zs, hcs, _, hl, hm, hz, hx, hcell, hwf⟩
  · simp [Value.cells] at hcs
    obtain ⟨rfl, rfl, rfl⟩ := hcs
    exact ⟨ρ, m, nils, [], none, conc_nils _, hs, ρ.le_refl, hw, Keep.refl hw _, .nil, (fun b hb => by cases hb), (fun n hn => by cases hn), by simp⟩
  · simp [Value.cells] at hcs
    obtain ⟨rfl, rfl, rfl⟩ := hcs
    simp only [if_true] at hz
    have hspot : a.spot = none := by
      simp only [Value.okWide, ht, Cell.okWide, Cell.ok] at hval
      exact hval.2.2.2.1
    by_cases h0 : len = 0
    · subst h0
      obtain ⟨h1, h2⟩ := hs.bump ⟨a.block, a.off, 0⟩
      exact ⟨_, m.bump, .slice m.next 0 0 cap true, [], none, conc_sln (Ren.put_same _ _ _) hspot 0 cap, h1, h2, (Keep.bump hw (F := fun _ => False)).wf, Keep.bump hw, .empty, (fun b hb => by cases hb), (fun n hn => by cases hn), by simp⟩
    · have hlen : (zs.take len).length = len := by rw [List.length_take]; omega
      have hc' : ∀ i, i < len → W.cell? (a.add i) = some (.int k (zs.getD i 0)) := fun i hi => hcell i (by omega)
      have hblk : ∃ arr e fz, W.heap[a.block]? = some (.cells arr e fz) := by
        have c0 := hc' 0 (by omega)
        unfold World.cell? at c0
        split at c0
        · rename_i hh
          exact ⟨_, _, _, hh⟩
        · cases c0
      obtain ⟨arr, e', fz, hh⟩ := hblk
      have harr : ∀ i u, W.cell? (a.add i) = some u → arr[a.off + i]? = some u := by
        intro i u hu
        have : a.add i = ⟨a.block, a.off + i, none⟩ := by
          obtain ⟨b, o, s⟩ := a
          cases hspot
          exact Addr.add_mk b o i
        rw [this] at hu
        unfold World.cell? at hu
        simp only [hh] at hu
        exact hu
      have hget : ∀ i v, ((zs.take len).map (kv k))[i]? = some v → i < len ∧ v = kv k (zs.getD i 0) := by
        intro i v hv
        rw [List.getElem?_map, List.getElem?_take] at hv
        by_cases hi : i < len
        · rw [if_pos hi] at hv
          refine ⟨hi, ?_⟩
          rw [List.getD_eq_getElem?_getD]
          cases hzi : zs[i]? with
          | none => rw [hzi] at hv; cases hv
          | some z => rw [hzi] at hv; cases hv; rfl
        · rw [if_neg hi] at hv; cases hv
      obtain ⟨h1, h2⟩ := hs.addRo (a := a) (arr := arr) (e := e') (fz := fz) (Below.lt_of_heap hh) hh ((zs.take len).map (kv k)) (by
        rw [List.length_map, hlen]
        have := (Array.getElem?_eq_some_iff.1 (harr (len - 1) _ (hc' (len - 1) (by omega)))).1
        omega) (fun i v hv => by
          obtain ⟨hi, rfl⟩ := hget i v hv
          exact ⟨_, conc_kv _ _ _, rfl, harr i _ (hc' i hi)⟩)
      refine ⟨_, m.addRo e' ((zs.take len).map (kv k)), .slice m.next 0 len cap true, zs.take len, some m.next, conc_sln (Ren.put_same _ _ _) hspot len cap, h1, h2, (Keep.addRo hw (F := fun _ => False)).wf, Keep.addRo hw, ?_, (fun b hb => by cases hb; exact kd.addRo m e' _), fun n hn => hwf n (List.mem_of_mem_take hn), ?_⟩
      rotate_left
      · have h1 := hwt _ _ (Prod.mk.inj hx).1
        refine Nat.le_trans (Nat.mul_le_mul_right B ?_) h1
        unfold lits
        rw [List.length_map]
        omega
      have := RsAt.row (cap := cap) (lim := true) (AtR.addRo m e' ((zs.take len).map (kv k)))
      rw [List.length_map, hlen] at this
      exact this
end Go.Am
namespace Go.Proofs.Ytmkbjcjlnidjiaa
open Go Go.Am Go.ChangeShapes Go.WideShapes Go.ChangeAt Go.ChangeMaps Go.RowKit Go.Deep
theorem Try.own : ownKnob Try.prog.godebug = none := by kernel_rfl
theorem Try.laidOut : laidOutB Try.prog = true := by kernel_rfl
theorem Try.good : Am.goodB Try.prog = true := by decide +kernel
noncomputable def tb1 : Tb := sortedTb Try.prog 31 3 [51]
theorem tb1_ok (w0 : World) : TbOk Try.prog w0 tb1 := sortedTb_ok (kt := 3) fun kf h => by
  simp only [List.mem_cons, List.not_mem_nil, or_false] at h
  subst h
  exact sortsKeysC
theorem ranWakes : Am.isTrue (Am.arun Try.prog tb1 100000 6 [] Am.m0) = true := by decide +kernel
theorem wakesTrue : Am.TrueAt Try.prog 6 := ⟨enters_of Try.func6 (by kernel_rfl) rfl, fun w => Am.closed_calls (Am.good_of Try.good) tb1_ok ranWakes Try.func6 rfl w⟩
theorem sortRowsC : SortsRows Try.prog 47 := {
  enters := enters_of Try.func47 (by kernel_rfl) rfl
  sort := fun blk off cap ss W hH hblk hsz => Go.Proofs.AnyM.slices_Sort_int Try.sortC blk off cap ss W hH hblk hsz
  none := fun p cap W => Go.Proofs.AnyM.slices_Sort_int_none Try.sortC p cap W }
theorem tb_ok (w0 : World) : Am.TbOk Try.prog w0 tb := withSort_ok (Am.withTrue_ok (tb1_ok w0) fun g h => by
  simp only [List.mem_cons, List.not_mem_nil, or_false] at h
  subst h
  exact wakesTrue) sortRowsC
theorem concs_1 {ρ : Ren} {x : AV} {v : Value} (h : conc ρ x = some v) {l : List AV} {vs : List Value} (k : concs ρ l = some vs) : concs ρ (x :: l) = some (v :: vs) := concs_cons.2 ⟨v, vs, h, k, rfl⟩
theorem bytes3 : Try.prog.bytesOf 3 = 8 := by kernel_rfl
theorem reach_le {n : Nat} (h : n * Try.prog.bytesOf 3 ≤ reachBytes) : n * 8 ≤ 140737488351232 := by
  rw [bytes3] at h
  exact Nat.le_trans h (by decide)
theorem byte_of {z : Int} (h : (Lit.int .u8 z).wf = true) : ∃ x : UInt8, z = (x.toNat : Int) := by
  have h' : (decide ((0 : Int) ≤ z) && decide (z ≤ 255)) = true := h
  simp only [Bool.and_eq_true, decide_eq_true_eq] at h'
  exact ⟨UInt8.ofNat z.toNat, by rw [show (UInt8.ofNat z.toNat).toNat = z.toNat by simp; omega]; omega⟩
set_option maxRecDepth 100000 in
theorem cacheKeeps_lifted (os : Os) (started : os.Started) (H : Type) (enc : TypeId × Value → H) :
    ReturnsInHanded {} Try.checked os 3 .any (Rows.cacheKeepsSpec.pre6 enc Try.prog Try.f3 Rows.cacheKeepsRow.domain false) (Rows.cacheKeepsSpec.post enc Try.prog Try.f3 false true false false) := by
  refine returnsInHanded_of_change_sized (C := Try.checked) Try.own started (by kernel_rfl) Try.func3
    (ChangeSpec.witness6 (enc := enc) (C := Try.checked) false ⟨#[], #[.int .u8 0, .int .u8 0, .slice none 0 0, .slice none 0 0], []⟩ 8 (by kernel_rfl) (by kernel_rfl) (by kernel_rfl) (by kernel_rfl)) ?_
  intro W base args ds gs before hval0 hW hcnd hsize _
  have hval : ∀ (j : Nat) t v, Try.f3.params[j]? = some t → args[j]? = some v → Value.okWide Try.prog W .any base t v := hval0
  have hW' := hW
  obtain ⟨p, q, hA0, hV, rfl, hfz, hnd⟩ := hW
  have hA : DataW.TrodAll enc Try.prog W 0 (fun _ => true) true Try.f3.params.toList args.toList ds p := hA0
  have hsz : (DataW.weightsEach Try.prog (Try.f3.params.toList ++ Rows.cacheKeepsSpec.plain.varTypes Try.prog) (ds ++ gs)).all (· ≤ reachBytes) = true := hsize
  rw [Try.params3] at hA hval hsz
  obtain ⟨v0, v1, v2, v3, d0, d1, d2, d3, p0, p1, p2, p3, rfl, rfl, rfl, h0, h1, h2, h3⟩ := trodAll_four hA
  obtain ⟨rfl, rfl⟩ := trodVars_none hV
  obtain ⟨a, rfl, rfl, rfl, wa⟩ := open_int Try.underlying5 (hval 0 5 v0 rfl rfl) h0
  obtain ⟨b, rfl, rfl, rfl, wb⟩ := open_int Try.underlying5 (hval 1 5 v1 rfl rfl) h1
  obtain ⟨x, rfl⟩ := byte_of wa
  obtain ⟨y, rfl⟩ := byte_of wb
  obtain ⟨ρ1, m1, px, ps, po, hx, hs1, hle1, hw1, hk1, hR1, hr1, _, hb1⟩ := open_numsK Try.underlying22 Try.underlying3 (by kernel_rfl) (hval 2 22 v2 rfl rfl) h2 (Sim.start W) (fun b _ => get_m0 b) (B := 8) (fun elems spare hd => by
    subst hd
    exact reach_le (sized_slice hsz (j := 2) (t := 22) rfl rfl Try.underlying22))
  obtain ⟨ρ2, m2, lx, zs, lo, hy, hs2, hle2, hw2, hk2, hR2, hr2, _, hb2⟩ := open_numsK Try.underlying22 Try.underlying3 (by kernel_rfl) (hval 3 22 v3 rfl rfl) h3 hs1 hw1 (B := 8) (fun elems spare hd => by
    subst hd
    exact reach_le (sized_slice hsz (j := 3) (t := 22) rfl rfl Try.underlying22))
  have hlt : ∀ z, z ∈ p2 ++ p3 → z.block < W.heap.size := fun z hz => by simpa using hW'.lt z (by simpa using hz)
  refine (wp_true (Am.good_of Try.good) tb_ok (keeps_spec (x := x) (y := y) hw2 (hR1.keep hw1 hk2 fun _ _ h => h) hb1 ⟨lo, hR2, hr2⟩ hb2) (concs_1 (v := .int .u8 (x.toNat : Int)) rfl (concs_1 (v := .int .u8 (y.toNat : Int)) rfl (concs_1 (conc_mono hle2 _ _ hx) (concs_1 hy (concs_nil ρ2))))) hs2 Try.func3 rfl).mono fun e W' ⟨he, hb⟩ => ?_
  subst he
  exact ⟨_, rfl, post_same hW' (fun _ _ _ => trodAll_mk1 (shut_bool Try.underlying4 true)) (trodAll_mk4 (shut_int Try.underlying5 wa) (shut_int Try.underlying5 wb) (Below.trod Try.laidOut (by kernel_rfl) (of_decide_eq_true (by kernel_rfl)) h2 hb fun z hz => hlt z (by simp [hz])) (Below.trod Try.laidOut (by kernel_rfl) (of_decide_eq_true (by kernel_rfl)) h3 hb fun z hz => hlt z (by simp [hz]))) rfl hb⟩
theorem cacheKeeps_holds : Rows.CacheKeepsSaid :=
  OpenClaim.holds_of_wide 3 Try.f3 rfl rfl rfl rfl rfl rfl rfl ⟨rfl, rfl, rfl, rfl, rfl⟩ rfl rfl rfl rfl rfl (by kernel_rfl) Try.func3 (by kernel_rfl)
    (of_decide_eq_true (by kernel_rfl)) (by unfold Func.isWrapper; first | (rw [if_pos (by decide +kernel)]; kernel_rfl) | (rw [if_neg (by decide +kernel)]; exact ⟨rfl, rfl⟩))
    (fun os started H enc _ => cacheKeeps_lifted os started H enc)
end Go.Proofs.Ytmkbjcjlnidjiaa
