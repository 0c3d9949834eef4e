import Derived.Test.YtmkbjcjlnidjiaaCaLay
import Derived.Test.YtmkbjcjlnidjiaaCaM
import Derived.Deep.Slices
import Derived.Deep.Fields
import Derived.ChangeSame
import Derived.ProofKit
import Derived.Shelf.Abstract
/- The law 'skerrylaw08.CachePins' returns true for every capacity, every row of picks and every row of blocks. Conditions: none beyond those that the statement itself has. -/
namespace Go.Proofs.Ytmkbjcjlnidjiaa
open Go Go.Am Go.ChangeShapes Go.WideShapes Go.ChangeAt Go.ChangeMaps Go.RowKit Go.Deep

theorem Try.own : ownKnob Try.prog.godebug = none := by kernel_rfl
theorem Try.laidOut : laidOutB Try.prog = true := by kernel_rfl
theorem Try.good : Am.goodB Try.prog = true := by decide +kernel
noncomputable def tb1 : Tb := sortedTb Try.prog 31 3 [51]
theorem tb1_ok (w0 : World) : TbOk Try.prog w0 tb1 := sortedTb_ok (kt := 3) fun kf h => by
  simp only [List.mem_cons, List.not_mem_nil, or_false] at h
  subst h
  exact sortsKeysC
theorem ranWakes : Am.isTrue (Am.arun Try.prog tb1 100000 6 [] Am.m0) = true := by decide +kernel
theorem wakesTrue : Am.TrueAt Try.prog 6 := ⟨enters_of Try.func6 (by kernel_rfl) rfl, fun w => Am.closed_calls (Am.good_of Try.good) tb1_ok ranWakes Try.func6 rfl w⟩
theorem tb_ok (w0 : World) : Am.TbOk Try.prog w0 tb := Am.withTrue_ok (tb1_ok w0) fun g h => by
  simp only [List.mem_cons, List.not_mem_nil, or_false] at h
  subst h
  exact wakesTrue
theorem concs_1 {ρ : Ren} {x : AV} {v : Value} (h : conc ρ x = some v) {l : List AV} {vs : List Value} (k : concs ρ l = some vs) : concs ρ (x :: l) = some (v :: vs) := concs_cons.2 ⟨v, vs, h, k, rfl⟩
theorem bytes3 : Try.prog.bytesOf 3 = 8 := by kernel_rfl
theorem reach_le {n : Nat} (h : n * Try.prog.bytesOf 3 ≤ reachBytes) : n * 8 ≤ 140737488355328 := by
  rw [bytes3] at h
  exact Nat.le_trans h (by decide)

set_option maxRecDepth 100000 in
theorem cachePins_lifted (os : Os) (started : os.Started) (H : Type) (enc : TypeId × Value → H) :
    ReturnsInHanded {} Try.checked os 4 .any (Rows.cachePinsSpec.pre6 enc Try.prog Try.f4 Rows.cachePinsRow.domain false) (Rows.cachePinsSpec.post enc Try.prog Try.f4 false true false false) := by
  refine returnsInHanded_of_change_sized (C := Try.checked) Try.own started (by kernel_rfl) Try.func4
    (ChangeSpec.witness6 (enc := enc) (C := Try.checked) false ⟨#[], #[.int .i64 0, .slice none 0 0, .slice none 0 0], []⟩ 8 (by kernel_rfl) (by kernel_rfl) (by kernel_rfl) (by kernel_rfl)) ?_
  intro W base args ds gs before hval0 hW hcnd hsize _
  have hval : ∀ (j : Nat) t v, Try.f4.params[j]? = some t → args[j]? = some v → Value.okWide Try.prog W .any base t v := hval0
  have hW' := hW
  obtain ⟨p, q, hA0, hV, rfl, hfz, hnd⟩ := hW
  have hA : DataW.TrodAll enc Try.prog W 0 (fun _ => true) true Try.f4.params.toList args.toList ds p := hA0
  have hsz : (DataW.weightsEach Try.prog (Try.f4.params.toList ++ Rows.cachePinsSpec.plain.varTypes Try.prog) (ds ++ gs)).all (· ≤ reachBytes) = true := hsize
  rw [Try.params4] at hA hval hsz
  obtain ⟨v0, v1, v2, d0, d1, d2, p0, p1, p2, rfl, rfl, rfl, h0, h1, h2⟩ := trodAll_three hA
  obtain ⟨rfl, rfl⟩ := trodVars_none hV
  obtain ⟨a, rfl, rfl, rfl, wa⟩ := open_int Try.underlying3 (hval 0 3 v0 rfl rfl) h0
  obtain ⟨ρ1, m1, x, ps, po, hx, hs1, hle1, hw1, hk1, hR1, _, hb1⟩ := open_nums Try.underlying22 Try.underlying3 (by kernel_rfl) (hval 1 22 v1 rfl rfl) h1 (Sim.start W) (fun b _ => get_m0 b) (B := 8) (fun elems spare hd => by
    subst hd
    exact reach_le (sized_slice hsz (j := 1) (t := 22) rfl rfl Try.underlying22))
  obtain ⟨ρ2, m2, y, zs, o, hy, hs2, hle2, hw2, hk2, hR2, _, hb2⟩ := open_nums Try.underlying22 Try.underlying3 (by kernel_rfl) (hval 2 22 v2 rfl rfl) h2 hs1 hw1 (B := 8) (fun elems spare hd => by
    subst hd
    exact reach_le (sized_slice hsz (j := 2) (t := 22) rfl rfl Try.underlying22))
  have hlt : ∀ z, z ∈ p1 ++ p2 → z.block < W.heap.size := fun z hz => by simpa using hW'.lt z (by simpa using hz)
  refine (wp_true (Am.good_of Try.good) tb_ok (pins_spec (a := a) hw2 (hR1.keep hw1 hk2 fun _ _ h => h) hb1 hR2) (concs_1 (conc_iv ρ2 a) (concs_1 (conc_mono hle2 _ _ hx) (concs_1 hy (concs_nil ρ2)))) hs2 Try.func4 rfl).mono fun e W' ⟨he, hb⟩ => ?_
  subst he
  exact ⟨_, rfl, post_same hW' (fun _ _ _ => trodAll_mk1 (shut_bool Try.underlying4 true)) (trodAll_mk3 (shut_int Try.underlying3 wa) (Below.trod Try.laidOut (by kernel_rfl) (of_decide_eq_true (by kernel_rfl)) h1 hb fun z hz => hlt z (by simp [hz])) (Below.trod Try.laidOut (by kernel_rfl) (of_decide_eq_true (by kernel_rfl)) h2 hb fun z hz => hlt z (by simp [hz]))) rfl hb⟩
theorem cachePins_holds : Rows.CachePinsSaid :=
  OpenClaim.holds_of_wide 4 Try.f4 rfl rfl rfl rfl rfl rfl rfl ⟨rfl, rfl, rfl, rfl, rfl⟩ rfl rfl rfl rfl rfl (by kernel_rfl) Try.func4 (by kernel_rfl)
    (of_decide_eq_true (by kernel_rfl)) (by unfold Func.isWrapper; first | (rw [if_pos (by decide +kernel)]; kernel_rfl) | (rw [if_neg (by decide +kernel)]; exact ⟨rfl, rfl⟩))
    (fun os started H enc _ => cachePins_lifted os started H enc)
end Go.Proofs.Ytmkbjcjlnidjiaa
