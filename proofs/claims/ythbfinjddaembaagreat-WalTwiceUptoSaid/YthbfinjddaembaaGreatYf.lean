import Derived.Test.YthbfinjddaembaaGreatYe
import Derived.JoinedCond
/- The law 'skerrylaw09.WalTwice' returns true for every list of lists of writes and every number. Condition: what it reads is of the bulk that the statement's second form names. -/
set_option linter.unusedVariables false
set_option linter.unusedVariables false
namespace Go.Proofs.YthbfinjddaembaaGreat
open Go Go.Am Go.ChangeShapes Go.WideShapes Go.ChangeAt Go.ChangeMaps Go.RowKit Go.Deep
theorem Tryz.own : ownKnob Tryz.prog.godebug = none := by kernel_rfl
theorem Tryz.laidOut : laidOutB Tryz.prog = true := by kernel_rfl
theorem Tryz.good : Am.goodB Tryz.prog = true := by decide +kernel
noncomputable def tb1 : Tb := sortedTb Tryz.prog 52 3 [92]
theorem tb1_ok (w0 : World) : TbOk Tryz.prog w0 tb1 := sortedTb_ok (kt := 3) fun kf h => by
  simp only [List.mem_cons, List.not_mem_nil, or_false] at h
  subst h
  exact sortsKeysC
theorem ranWakes : Am.isTrue (Am.arun Tryz.prog tb1 100000 7 [] Am.m0) = true := by decide +kernel
theorem wakesTrue : Am.TrueAt Tryz.prog 7 := ⟨enters_of Tryz.func7 (by kernel_rfl) rfl, fun w => Am.closed_calls (Am.good_of Tryz.good) tb1_ok ranWakes Tryz.func7 rfl w⟩
theorem sortRowsC : SortsRows Tryz.prog 91 := {
  enters := enters_of Tryz.func91 (by kernel_rfl) rfl
  sort := fun blk off cap ss W hH hblk hsz => Go.Proofs.AnyM.slices_Sort_int Tryz.sortC blk off cap ss W hH hblk hsz
  none := fun p cap W => Go.Proofs.AnyM.slices_Sort_int_none Tryz.sortC p cap W }
noncomputable def tb2 : Tb := withSort (withTrue tb1 [7]) 91
theorem tb2_ok (w0 : World) : TbOk Tryz.prog w0 tb2 := withSort_ok (Am.withTrue_ok (tb1_ok w0) fun g h => by
  simp only [List.mem_cons, List.not_mem_nil, or_false] at h
  subst h
  exact wakesTrue) sortRowsC
def smallU : Value := .agg #[.int .i64 64, .int .i64 60, .int .i64 6, .int .i64 9, .int .i64 2, .int .i64 11, .int .i64 1, .int .i64 12, .int .i64 1, .int .i64 13, .int .i64 3, .int .i64 16]
theorem small_cn (ρ : Ren) : conc ρ smallV = some smallU := rfl
theorem ranSmall : Am.isVal smallV (Am.arun Tryz.prog tb2 100000 8 [] Am.m0) = true := by decide +kernel
theorem smallAt : Am.ValAt Tryz.prog 8 smallV smallU := ⟨enters_of Tryz.func8 (by kernel_rfl) rfl, small_cn, fun w => Am.closed_val (Am.good_of Tryz.good) tb2_ok ranSmall small_cn Tryz.func8 rfl w⟩
theorem tb_ok (w0 : World) : TbOk Tryz.prog w0 tb := withVal_ok (tb2_ok w0) smallAt
theorem concs_1 {ρ : Ren} {x : AV} {v : Value} (h : conc ρ x = some v) {l : List AV} {vs : List Value} (k : concs ρ l = some vs) : concs ρ (x :: l) = some (v :: vs) := concs_cons.2 ⟨v, vs, h, k, rfl⟩
theorem bulk_le {H : Type} {d e : DataW H} (hk : Rows.uptoSmall H ([d, e] ++ []) = true) : Rows.uptoBulk d ≤ 2000000 := by
  have h := of_decide_eq_true hk
  simp only [List.cons_append, List.nil_append, Rows.uptoBulkAll] at h
  omega
set_option maxRecDepth 100000 in
theorem walTwice_lifted (os : Os) (started : os.Started) (H : Type) (enc : TypeId × Value → H) (F : Stop.Interp) :
    ReturnsInHanded {} Tryz.checked os 3 .any ((Rows.OpenSpec.upto Rows.walTwiceSpec).pre6 enc Tryz.prog Tryz.f3 Rows.walTwiceUptoRow.domain false) (((Rows.OpenSpec.upto Rows.walTwiceSpec).at F).post enc Tryz.prog Tryz.f3 false true false false) := by
  refine returnsInHanded_of_cond (C := Tryz.checked) (s := Rows.OpenSpec.upto Rows.walTwiceSpec) (k := Rows.uptoSmall) rfl Tryz.own started (by kernel_rfl) Tryz.func3
    (OpenSpec.witness (enc := enc) (C := Tryz.checked) (s := Rows.OpenSpec.upto Rows.walTwiceSpec) (k := Rows.uptoSmall) rfl false ⟨#[], #[.slice none 0 0, .int .i64 0], []⟩ 8 (by kernel_rfl) (by kernel_rfl) (by kernel_rfl)
      (x := ([.nil, .lit (.int .i64 0)], [], [])) (by kernel_rfl) rfl (by kernel_rfl)) ?_
  intro W base args ds gs before hval0 hW _ hk _
  have hval : ∀ (j : Nat) t v, Tryz.f3.params[j]? = some t → args[j]? = some v → Value.okWide Tryz.prog W .any base t v := hval0
  have hW' := hW
  obtain ⟨p, q, hA0, hV, rfl, hfz, hnd⟩ := hW
  have hA : DataW.TrodAll enc Tryz.prog W 0 (fun _ => true) true Tryz.f3.params.toList args.toList ds p := hA0
  rw [Tryz.params3] at hA hval
  obtain ⟨v0, v1, d0, d1, p0, p1, rfl, rfl, rfl, h0, h1⟩ := trodAll_two hA
  obtain ⟨rfl, rfl⟩ := trodVars_none hV
  obtain ⟨n, rfl, rfl, rfl, wn⟩ := open_int Tryz.underlying3 (hval 1 3 v1 rfl rfl) h1
  have hb0 := bulk_le hk
  obtain ⟨a0, len, cap, rfl⟩ := okWide_slice Tryz.underlying22 (hval 0 22 v0 rfl rfl)
  obtain ⟨fuel, hf0⟩ := h0
  have hf : DataW.trod enc Tryz.prog W 0 (fun _ => true) true fuel 22 [.slice a0 len cap] = some (d0, p0) := hf0
  obtain ⟨ρ1, m1, x, X, hx, hop, hX⟩ := open_sc (x := (d0, p0)) hf (Sim.start W) (fun b _ => get_m0 b) hb0
  have h0 : DataW.Trod enc Tryz.prog W 0 (fun _ => true) true 22 (.slice a0 len cap) d0 p0 := ⟨fuel, hf0⟩
  have hlt : ∀ z, z ∈ p0 → z.block < W.heap.size := fun z hz => by simpa using hW'.lt z (by simpa using hz)
  refine (wp_true (Am.good_of Tryz.good) tb_ok (twice_spec (nn := n) hop.wf hX) (concs_1 hx (concs_1 (v := .int .i64 n) (conc_iv _ _) (concs_nil ρ1))) hop.sim Tryz.func3 rfl).mono fun e W' ⟨he, hb⟩ => ?_
  subst he
  exact ⟨_, rfl, post_same hW' (fun _ _ _ => trodAll_mk1 (shut_bool Tryz.underlying4 true)) (trodAll_mk2 (Below.trod Tryz.laidOut (by kernel_rfl) (of_decide_eq_true (by kernel_rfl)) h0 hb fun z hz => hlt z hz) (shut_int Tryz.underlying3 wn)) rfl hb⟩
theorem walTwice_holds : Rows.WalTwiceUptoSaid :=
  OpenClaim.holds_of_cond 3 Tryz.f3 rfl rfl rfl rfl rfl rfl rfl ⟨rfl, rfl, rfl, rfl, rfl⟩ rfl rfl rfl rfl rfl (by kernel_rfl) Tryz.func3 (by kernel_rfl)
    (of_decide_eq_true (by kernel_rfl)) (by unfold Func.isWrapper; first | (rw [if_pos (by decide +kernel)]; kernel_rfl) | (rw [if_neg (by decide +kernel)]; exact ⟨rfl, rfl⟩))
    (fun os started H enc _ F => walTwice_lifted os started H enc F)
#print axioms walTwice_holds
end Go.Proofs.YthbfinjddaembaaGreat
