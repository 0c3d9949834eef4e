import Derived.Test.YtooooiidpaecmaaGreatGy
import Derived.Test.YtooooiidpaecmaaGreatIaOk
import Derived.Deep.Slices
import Derived.Deep.Fields
import Derived.ChangeSame
import Derived.ProofKit
import Derived.Shelf.Abstract
set_option linter.unusedVariables false
set_option linter.unusedSimpArgs false
/- The law 'skerrylaw13.InodeKeeps' returns true for every row of numbers. Conditions: none beyond those that the statement itself has. -/
namespace Go.Proofs.YtooooiidpaecmaaGreat
open Go Go.Am Go.ChangeShapes Go.WideShapes Go.ChangeAt Go.ChangeMaps Go.RowKit Go.Deep
theorem Tryz.laidOut : laidOutB Tryz.prog = true := by kernel_rfl
theorem concs_1 {ρ : Ren} {x : AV} {v : Value} (h : conc ρ x = some v) {l : List AV} {vs : List Value} (k : concs ρ l = some vs) : concs ρ (x :: l) = some (v :: vs) := concs_cons.2 ⟨v, vs, h, k, rfl⟩
theorem bytes3 : Tryz.prog.bytesOf 3 = 8 := by kernel_rfl
theorem reach_le {n : Nat} (h : n * Tryz.prog.bytesOf 3 ≤ reachBytes) : n * 8 ≤ 140737488355328 := by
  rw [bytes3] at h
  exact Nat.le_trans h (by decide)
set_option maxRecDepth 100000 in
theorem inodeKeeps_lifted (os : Os) (started : os.Started) (H : Type) (enc : TypeId × Value → H) :
    ReturnsInHanded {} Tryz.checked os 3 .any (Rows.inodeKeepsSpec.pre6 enc Tryz.prog Tryz.f3 Rows.inodeKeepsRow.domain false) (Rows.inodeKeepsSpec.post enc Tryz.prog Tryz.f3 false true false false) := by
  refine returnsInHanded_of_change_sized (C := Tryz.checked) Tryz.own started (by kernel_rfl) Tryz.func3
    (ChangeSpec.witness6 (enc := enc) (C := Tryz.checked) false ⟨#[], #[.slice none 0 0], []⟩ 8 (by kernel_rfl) (by kernel_rfl) (by kernel_rfl) (by kernel_rfl)) ?_
  intro W base args ds gs before hval0 hW hcnd hsize _
  have hval : ∀ (j : Nat) t v, Tryz.f3.params[j]? = some t → args[j]? = some v → Value.okWide Tryz.prog W .any base t v := hval0
  have hW' := hW
  obtain ⟨p, q, hA0, hV, rfl, hfz, hnd⟩ := hW
  have hA : DataW.TrodAll enc Tryz.prog W 0 (fun _ => true) true Tryz.f3.params.toList args.toList ds p := hA0
  have hsz : (DataW.weightsEach Tryz.prog (Tryz.f3.params.toList ++ Rows.inodeKeepsSpec.plain.varTypes Tryz.prog) (ds ++ gs)).all (· ≤ reachBytes) = true := hsize
  rw [Tryz.params3] at hA hval hsz
  obtain ⟨v0, d0, rfl, rfl, h0⟩ := trodAll_one hA
  obtain ⟨rfl, rfl⟩ := trodVars_none hV
  obtain ⟨ρ1, bq, x, zs, o, hx, hs1, hR1, _, hb1⟩ := open_nums0 Tryz.underlying22 Tryz.underlying3 (by kernel_rfl) (hval 0 22 v0 rfl rfl) h0 (B := 8) (fun elems spare hd => by
    subst hd
    exact reach_le (sized_slice hsz (j := 0) (t := 22) rfl rfl Tryz.underlying22))
  have hlt : ∀ z, z ∈ p → z.block < W.heap.size := fun z hz => by simpa using hW'.lt z (by simpa using hz)
  refine (wp_true (Am.good_of Tryz.good) tb_ok (keeps_spec hR1) (concs_1 hx (concs_nil ρ1)) hs1 Tryz.func3 rfl).mono fun e W' ⟨he, hb⟩ => ?_
  subst he
  exact ⟨_, rfl, post_same hW' (fun _ _ _ => trodAll_mk1 (shut_bool Tryz.underlying4 true)) (trodAll_mk1 (Below.trod Tryz.laidOut (by kernel_rfl) (of_decide_eq_true (by kernel_rfl)) h0 hb fun z hz => hlt z hz)) rfl hb⟩
theorem inodeKeeps_holds : Rows.InodeKeepsSaid :=
  OpenClaim.holds_of_wide 3 Tryz.f3 rfl rfl rfl rfl rfl rfl rfl ⟨rfl, rfl, rfl, rfl, rfl⟩ rfl rfl rfl rfl rfl (by kernel_rfl) Tryz.func3 (by kernel_rfl)
    (of_decide_eq_true (by kernel_rfl)) (by unfold Func.isWrapper; first | (rw [if_pos (by decide +kernel)]; kernel_rfl) | (rw [if_neg (by decide +kernel)]; exact ⟨rfl, rfl⟩))
    (fun os started H enc _ => inodeKeeps_lifted os started H enc)
#print axioms inodeKeeps_holds
end Go.Proofs.YtooooiidpaecmaaGreat
