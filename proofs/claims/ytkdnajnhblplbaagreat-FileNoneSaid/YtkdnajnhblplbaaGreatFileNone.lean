/- The law 'skerrylaw14.FileNone' returns true whenever it is called (it has no argument). Conditions: none beyond those that the statement itself has. -/
import Derived.Test.YtkdnajnhblplbaaGreatW14
namespace Go.Proofs.YtkdnajnhblplbaaGreat
open Go.ChangeShapes Go.WideShapes Go.ChangeAt Go.RowKit

theorem ranFileNone : Am.isTrue (Am.arun Tryz.prog tb14 100000 8 [] Am.m0) = true := by decide +kernel
set_option maxRecDepth 100000 in
theorem fileNone_lifted (os : Os) (started : os.Started) (H : Type) (enc : TypeId × Value → H) :
    ReturnsInHanded {} Tryz.checked os 8 .any (Rows.fileNoneSpec.pre6 enc Tryz.prog Tryz.f8 Rows.fileNoneRow.domain false) (Rows.fileNoneSpec.post enc Tryz.prog Tryz.f8 false true false false) := by
  refine returnsInHanded_of_change (C := Tryz.checked) Tryz.own started (by kernel_rfl) Tryz.func8
    (ChangeSpec.witness6 (enc := enc) (C := Tryz.checked) false ⟨#[], #[], []⟩ 8 (by kernel_rfl) (by kernel_rfl) (by kernel_rfl) (by kernel_rfl)) ?_
  intro W base args ds gs before hval0 hW hcnd _
  have hW' := hW
  obtain ⟨p, q, hA0, hV, rfl, hfz, hnd⟩ := hW
  have hA : DataW.TrodAll enc Tryz.prog W 0 (fun _ => true) true Tryz.f8.params.toList args.toList ds p := hA0
  rw [Tryz.params8] at hA
  obtain ⟨rfl, rfl, rfl⟩ := trodAll_none hA
  obtain ⟨rfl, rfl⟩ := trodVars_none hV
  refine (Am.closed_calls (Am.good_of Tryz.good) tb14_ok ranFileNone Tryz.func8 rfl W).mono fun e W' ⟨he, hb⟩ => ?_
  subst he
  exact ⟨_, rfl, Am.post_of_below hW' (fun _ _ _ => trodAll_mk1 (shut_bool Tryz.underlying4 true)) (fun _ => rfl) (fun _ => rfl) hb (ok_one (by kernel_rfl) rfl (okWide_bool_mk Tryz.underlying4 true))⟩
theorem fileNone_holds : Rows.FileNoneSaid :=
  OpenClaim.holds_of_wide 8 Tryz.f8 rfl rfl rfl rfl rfl rfl rfl ⟨rfl, rfl, rfl, rfl, rfl⟩ rfl rfl rfl rfl rfl (by kernel_rfl) Tryz.func8 (by kernel_rfl)
    (of_decide_eq_true (by kernel_rfl)) (by unfold Func.isWrapper; first | (rw [if_pos (by decide +kernel)]; kernel_rfl) | (rw [if_neg (by decide +kernel)]; exact ⟨rfl, rfl⟩))
    (fun os started H enc _ => fileNone_lifted os started H enc)
end Go.Proofs.YtkdnajnhblplbaaGreat
