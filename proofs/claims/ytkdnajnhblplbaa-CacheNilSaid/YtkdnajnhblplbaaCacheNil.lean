/- The law 'skerrylaw08.CacheNil' returns true whenever it is called (it has no argument). Conditions: none beyond those that the statement itself has. -/
import Derived.Test.YtkdnajnhblplbaaLay
namespace Go.Proofs.Ytkdnajnhblplbaa
open Go.ChangeShapes Go.WideShapes Go.ChangeAt Go.RowKit

theorem ranCacheNil : Am.isTrue (Am.arun Try.prog tb 100000 4 [] Am.m0) = true := by decide +kernel
set_option maxRecDepth 100000 in
theorem cacheNil_lifted (os : Os) (started : os.Started) (H : Type) (enc : TypeId × Value → H) :
    ReturnsInHanded {} Try.checked os 4 .any (Rows.cacheNilSpec.pre6 enc Try.prog Try.f4 Rows.cacheNilRow.domain false) (Rows.cacheNilSpec.post enc Try.prog Try.f4 false true false false) := by
  refine returnsInHanded_of_change (C := Try.checked) Try.own started (by kernel_rfl) Try.func4
    (ChangeSpec.witness6 (enc := enc) (C := Try.checked) false ⟨#[], #[], []⟩ 8 (by kernel_rfl) (by kernel_rfl) (by kernel_rfl) (by kernel_rfl)) ?_
  intro W base args ds gs before hval0 hW hcnd _
  have hW' := hW
  obtain ⟨p, q, hA0, hV, rfl, hfz, hnd⟩ := hW
  have hA : DataW.TrodAll enc Try.prog W 0 (fun _ => true) true Try.f4.params.toList args.toList ds p := hA0
  rw [Try.params4] at hA
  obtain ⟨rfl, rfl, rfl⟩ := trodAll_none hA
  obtain ⟨rfl, rfl⟩ := trodVars_none hV
  refine (Am.closed_calls (Am.good_of Try.good) tb_ok ranCacheNil Try.func4 rfl W).mono fun e W' ⟨he, hb⟩ => ?_
  subst he
  exact ⟨_, rfl, Am.post_of_below hW' (fun _ _ _ => trodAll_mk1 (shut_bool Try.underlying4 true)) (fun _ => rfl) (fun _ => rfl) hb (ok_one (by kernel_rfl) rfl (okWide_bool_mk Try.underlying4 true))⟩
theorem cacheNil_holds : Rows.CacheNilSaid :=
  OpenClaim.holds_of_wide 4 Try.f4 rfl rfl rfl rfl rfl rfl rfl ⟨rfl, rfl, rfl, rfl, rfl⟩ rfl rfl rfl rfl rfl (by kernel_rfl) Try.func4 (by kernel_rfl)
    (of_decide_eq_true (by kernel_rfl)) (by unfold Func.isWrapper; first | (rw [if_pos (by decide +kernel)]; kernel_rfl) | (rw [if_neg (by decide +kernel)]; exact ⟨rfl, rfl⟩))
    (fun os started H enc _ => cacheNil_lifted os started H enc)
end Go.Proofs.Ytkdnajnhblplbaa
