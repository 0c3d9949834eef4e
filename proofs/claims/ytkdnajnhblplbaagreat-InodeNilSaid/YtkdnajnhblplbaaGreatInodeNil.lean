/- The law 'skerrylaw13.InodeNil' returns true whenever it is called (it has no argument). Conditions: none beyond those that the statement itself has. -/
import Derived.Test.YtkdnajnhblplbaaGreatLay
namespace Go.Proofs.YtkdnajnhblplbaaGreat
open Go.ChangeShapes Go.WideShapes Go.ChangeAt Go.RowKit

theorem ranInodeNil : Am.isTrue (Am.arun Tryz.prog tb 100000 7 [] Am.m0) = true := by decide +kernel
set_option maxRecDepth 100000 in
theorem inodeNil_lifted (os : Os) (started : os.Started) (H : Type) (enc : TypeId × Value → H) :
    ReturnsInHanded {} Tryz.checked os 7 .any (Rows.inodeNilSpec.pre6 enc Tryz.prog Tryz.f7 Rows.inodeNilRow.domain false) (Rows.inodeNilSpec.post enc Tryz.prog Tryz.f7 false true false false) := by
  refine returnsInHanded_of_change (C := Tryz.checked) Tryz.own started (by kernel_rfl) Tryz.func7
    (ChangeSpec.witness6 (enc := enc) (C := Tryz.checked) false ⟨#[], #[], []⟩ 8 (by kernel_rfl) (by kernel_rfl) (by kernel_rfl) (by kernel_rfl)) ?_
  intro W base args ds gs before hval0 hW hcnd _
  have hW' := hW
  obtain ⟨p, q, hA0, hV, rfl, hfz, hnd⟩ := hW
  have hA : DataW.TrodAll enc Tryz.prog W 0 (fun _ => true) true Tryz.f7.params.toList args.toList ds p := hA0
  rw [Tryz.params7] at hA
  obtain ⟨rfl, rfl, rfl⟩ := trodAll_none hA
  obtain ⟨rfl, rfl⟩ := trodVars_none hV
  refine (Am.closed_calls (Am.good_of Tryz.good) tb_ok ranInodeNil Tryz.func7 rfl W).mono fun e W' ⟨he, hb⟩ => ?_
  subst he
  exact ⟨_, rfl, Am.post_of_below hW' (fun _ _ _ => trodAll_mk1 (shut_bool Tryz.underlying4 true)) (fun _ => rfl) (fun _ => rfl) hb (ok_one (by kernel_rfl) rfl (okWide_bool_mk Tryz.underlying4 true))⟩
theorem inodeNil_holds : Rows.InodeNilSaid :=
  OpenClaim.holds_of_wide 7 Tryz.f7 rfl rfl rfl rfl rfl rfl rfl ⟨rfl, rfl, rfl, rfl, rfl⟩ rfl rfl rfl rfl rfl (by kernel_rfl) Tryz.func7 (by kernel_rfl)
    (of_decide_eq_true (by kernel_rfl)) (by unfold Func.isWrapper; first | (rw [if_pos (by decide +kernel)]; kernel_rfl) | (rw [if_neg (by decide +kernel)]; exact ⟨rfl, rfl⟩))
    (fun os started H enc _ => inodeNil_lifted os started H enc)
end Go.Proofs.YtkdnajnhblplbaaGreat
