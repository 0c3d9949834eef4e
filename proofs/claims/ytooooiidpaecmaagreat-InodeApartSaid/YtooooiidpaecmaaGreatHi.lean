import Derived.Test.YtooooiidpaecmaaGreatHh
import Derived.Test.YtooooiidpaecmaaGreatIaOk
import Derived.Deep.Slices
import Derived.Deep.Fields
import Derived.ChangeSame
import Derived.ProofKit
import Derived.Shelf.Abstract
set_option linter.unusedVariables false
set_option linter.unusedSimpArgs false
/- The law 'skerrylaw13.InodeApart' returns true for every two rows of numbers. Conditions: none beyond those that the statement itself has. -/
namespace Go.Proofs.YtooooiidpaecmaaGreat
open Go Go.Am Go.ChangeShapes Go.WideShapes Go.ChangeAt Go.ChangeMaps Go.RowKit Go.Deep
theorem Tryz.laidOut : laidOutB Tryz.prog = true := by kernel_rfl
theorem concs_1 {ρ : Ren} {x : AV} {v : Value} (h : conc ρ x = some v) {l : List AV} {vs : List Value} (k : concs ρ l = some vs) : concs ρ (x :: l) = some (v :: vs) := concs_cons.2 ⟨v, vs, h, k, rfl⟩
theorem bytes3 : Tryz.prog.bytesOf 3 = 8 := by kernel_rfl
theorem reach_le {n : Nat} (h : n * Tryz.prog.bytesOf 3 ≤ reachBytes) : n * 8 ≤ 140737488355328 := by
  rw [bytes3] at h
  exact Nat.le_trans h (by decide)
set_option maxRecDepth 100000 in
theorem inodeApart_lifted (os : Os) (started : os.Started) (H : Type) (enc : TypeId × Value → H) :
    ReturnsInHanded {} Tryz.checked os 4 .any (Rows.inodeApartSpec.pre6 enc Tryz.prog Tryz.f4 Rows.inodeApartRow.domain false) (Rows.inodeApartSpec.post enc Tryz.prog Tryz.f4 false true false false) := by
  refine returnsInHanded_of_change_sized (C := Tryz.checked) Tryz.own started (by kernel_rfl) Tryz.func4
    (ChangeSpec.witness6 (enc := enc) (C := Tryz.checked) false ⟨#[], #[.slice none 0 0, .slice none 0 0], []⟩ 8 (by kernel_rfl) (by kernel_rfl) (by kernel_rfl) (by kernel_rfl)) ?_
  intro W base args ds gs before hval0 hW hcnd hsize _
  have hval : ∀ (j : Nat) t v, Tryz.f4.params[j]? = some t → args[j]? = some v → Value.okWide Tryz.prog W .any base t v := hval0
  have hW' := hW
  obtain ⟨p, q, hA0, hV, rfl, hfz, hnd⟩ := hW
  have hA : DataW.TrodAll enc Tryz.prog W 0 (fun _ => true) true Tryz.f4.params.toList args.toList ds p := hA0
  have hsz : (DataW.weightsEach Tryz.prog (Tryz.f4.params.toList ++ Rows.inodeApartSpec.plain.varTypes Tryz.prog) (ds ++ gs)).all (· ≤ reachBytes) = true := hsize
  rw [Tryz.params4] at hA hval hsz
  obtain ⟨v0, v1, d0, d1, p0, p1, rfl, rfl, rfl, h0, h1⟩ := trodAll_two hA
  obtain ⟨rfl, rfl⟩ := trodVars_none hV
  obtain ⟨ρ1, q0, q1, x, zs, o, y, ws, o', hx, hy, hs1, hR1, hR2, hb1, hb2⟩ := open_nums2 Tryz.underlying22 Tryz.underlying3 (by kernel_rfl) (hval 0 22 v0 rfl rfl) h0 (hval 1 22 v1 rfl rfl) h1 (B := 8) (fun elems spare hd => by
    subst hd
    exact reach_le (sized_slice hsz (j := 0) (t := 22) rfl rfl Tryz.underlying22)) (fun elems spare hd => by
    subst hd
    exact reach_le (sized_slice hsz (j := 1) (t := 22) rfl rfl Tryz.underlying22))
  have hlt : ∀ z, z ∈ p0 ++ p1 → z.block < W.heap.size := fun z hz => by simpa using hW'.lt z (by simpa using hz)
  refine (wp_true (Am.good_of Tryz.good) tb_ok (apart_spec hR1 hR2 (by omega) (by omega)) (concs_1 hx (concs_1 hy (concs_nil ρ1))) hs1 Tryz.func4 rfl).mono fun e W' ⟨he, hb⟩ => ?_
  subst he
  exact ⟨_, rfl, post_same hW' (fun _ _ _ => trodAll_mk1 (shut_bool Tryz.underlying4 true)) (trodAll_mk2 (Below.trod Tryz.laidOut (by kernel_rfl) (of_decide_eq_true (by kernel_rfl)) h0 hb fun z hz => hlt z (by simp [hz])) (Below.trod Tryz.laidOut (by kernel_rfl) (of_decide_eq_true (by kernel_rfl)) h1 hb fun z hz => hlt z (by simp [hz]))) rfl hb⟩
theorem inodeApart_holds : Rows.InodeApartSaid :=
  OpenClaim.holds_of_wide 4 Tryz.f4 rfl rfl rfl rfl rfl rfl rfl ⟨rfl, rfl, rfl, rfl, rfl⟩ rfl rfl rfl rfl rfl (by kernel_rfl) Tryz.func4 (by kernel_rfl)
    (of_decide_eq_true (by kernel_rfl)) (by unfold Func.isWrapper; first | (rw [if_pos (by decide +kernel)]; kernel_rfl) | (rw [if_neg (by decide +kernel)]; exact ⟨rfl, rfl⟩))
    (fun os started H enc _ => inodeApart_lifted os started H enc)
#print axioms inodeApart_holds
end Go.Proofs.YtooooiidpaecmaaGreat
