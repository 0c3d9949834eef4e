import Derived.Test.YtooooiidpaecmaaGreatNe
import Derived.Test.YtooooiidpaecmaaGreatIaOk
import Derived.Deep.Slices
import Derived.Deep.Fields
import Derived.ChangeSame
import Derived.ProofKit
import Derived.Shelf.Abstract
set_option linter.unusedVariables false
set_option linter.unusedSimpArgs false
/- The law 'skerrylaw14.FileHoles' returns true for every place, byte and size. Conditions: none beyond those that the statement itself has. -/
namespace Go.Proofs.YtooooiidpaecmaaGreat
open Go Go.Am Go.ChangeShapes Go.WideShapes Go.ChangeAt Go.ChangeMaps Go.RowKit Go.Deep
theorem concs_1 {ρ : Ren} {x : AV} {v : Value} (h : conc ρ x = some v) {l : List AV} {vs : List Value} (k : concs ρ l = some vs) : concs ρ (x :: l) = some (v :: vs) := concs_cons.2 ⟨v, vs, h, k, rfl⟩
theorem byte_of {z : Int} (h : (Lit.int .u8 z).wf = true) : ∃ x : UInt8, z = (x.toNat : Int) := by
 have h' : (decide ((0 : Int) ≤ z) && decide (z ≤ 255)) = true := h
 simp only [Bool.and_eq_true, decide_eq_true_eq] at h'
 exact ⟨UInt8.ofNat z.toNat, by rw [show (UInt8.ofNat z.toNat).toNat = z.toNat by simp; omega]; omega⟩
theorem start_mS (W : World) : ∃ ρ, Sim Tryz.prog W ρ (mS none) W := by
 obtain ⟨k1, _⟩ := (Sim.start (P := Tryz.prog) W).bump ⟨0, 0, 0⟩
 exact ⟨_, k1.same (fun b => by rw [get_mS, M.get_bump, get_m0]; split <;> rfl) rfl⟩
set_option maxRecDepth 100000 in
theorem fileHoles_lifted (os : Os) (started : os.Started) (H : Type) (enc : TypeId × Value → H) :
  ReturnsInHanded {} Tryz.checked os 7 .any (Rows.fileHolesSpec.pre6 enc Tryz.prog Tryz.f7 Rows.fileHolesRow.domain false) (Rows.fileHolesSpec.post enc Tryz.prog Tryz.f7 false true false false) := by
 refine returnsInHanded_of_change_sized (C := Tryz.checked) Tryz.own started (by kernel_rfl) Tryz.func7
  (ChangeSpec.witness6 (enc := enc) (C := Tryz.checked) false ⟨#[], #[.int .i64 0, .int .u8 0, .int .i64 0], []⟩ 8 (by kernel_rfl) (by kernel_rfl) (by kernel_rfl) (by kernel_rfl)) ?_
 intro W base args ds gs before hval0 hW hcnd hsize _
 have hval : ∀ (j : Nat) t v, Tryz.f7.params[j]? = some t → args[j]? = some v → Value.okWide Tryz.prog W .any base t v := hval0
 have hW' := hW
 obtain ⟨p, q, hA0, hV, rfl, hfz, hnd⟩ := hW
 have hA : DataW.TrodAll enc Tryz.prog W 0 (fun _ => true) true Tryz.f7.params.toList args.toList ds p := hA0
 rw [Tryz.params7] at hA hval
 obtain ⟨v0, v1, v2, d0, d1, d2, p0, p1, p2, rfl, rfl, rfl, h0, h1, h2⟩ := trodAll_three hA
 obtain ⟨rfl, rfl⟩ := trodVars_none hV
 obtain ⟨a, rfl, rfl, rfl, wa⟩ := open_int Tryz.underlying3 (hval 0 3 v0 rfl rfl) h0
 obtain ⟨b, rfl, rfl, rfl, wb⟩ := open_int Tryz.underlying5 (hval 1 5 v1 rfl rfl) h1
 obtain ⟨c, rfl, rfl, rfl, wc⟩ := open_int Tryz.underlying3 (hval 2 3 v2 rfl rfl) h2
 obtain ⟨x, rfl⟩ := byte_of wb
 obtain ⟨ρ1, hs1⟩ := start_mS W
 refine (wp_true (Am.good_of Tryz.good) tb_ok (holes_spec (q := none) (at' := a) (size := c) (x := x)) (concs_1 (v := .int .i64 a) (conc_kv ρ1 .i64 a) (concs_1 (v := .int .u8 (x.toNat : Int)) rfl (concs_1 (v := .int .i64 c) (conc_kv ρ1 .i64 c) (concs_nil ρ1)))) hs1 Tryz.func7 rfl).mono fun e W' ⟨he, hb⟩ => ?_
 subst he
 exact ⟨_, rfl, post_same hW' (fun _ _ _ => trodAll_mk1 (shut_bool Tryz.underlying4 true)) (trodAll_mk3 (shut_int Tryz.underlying3 wa) (shut_int Tryz.underlying5 wb) (shut_int Tryz.underlying3 wc)) rfl hb⟩
theorem fileHoles_holds : Rows.FileHolesSaid :=
 OpenClaim.holds_of_wide 7 Tryz.f7 rfl rfl rfl rfl rfl rfl rfl ⟨rfl, rfl, rfl, rfl, rfl⟩ rfl rfl rfl rfl rfl (by kernel_rfl) Tryz.func7 (by kernel_rfl)
  (of_decide_eq_true (by kernel_rfl)) (by unfold Func.isWrapper; first | (rw [if_pos (by decide +kernel)]; kernel_rfl) | (rw [if_neg (by decide +kernel)]; exact ⟨rfl, rfl⟩))
  (fun os started H enc _ => fileHoles_lifted os started H enc)
#print axioms fileHoles_holds
end Go.Proofs.YtooooiidpaecmaaGreat
