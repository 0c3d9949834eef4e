/- The law 'skerrylaw12.AllocGives' returns true for every number and both answers to its second question. Conditions: none beyond those that the statement itself has. -/
import Derived.Test.YtlhplhcfbofdnaaGreatGivesA
import Derived.Test.YtlhplhcfbofdnaaGreatGivesB
import Derived.Test.YtlhplhcfbofdnaaGreatGivesC
import Derived.Test.YtlhplhcfbofdnaaGreatGivesD
namespace Go.Proofs.YtlhplhcfbofdnaaGreat
open Go.ChangeShapes Go.WideShapes Go.ChangeAt Go.RowKit

theorem givesAll : ∀ (k : Nat), k ≤ 4 → ∀ b : Bool, Am.isTrue (Am.arun Tryz.prog tb12 100000 3 [.n k, .b b] Am.m0) = true := fun k hk b =>
  match k, hk, b with
    | 0, _, true => gives0_true
    | 0, _, false => gives0_false
    | 1, _, true => gives1_true
    | 1, _, false => gives1_false
    | 2, _, true => gives2_true
    | 2, _, false => gives2_false
    | 3, _, true => gives3_true
    | 3, _, false => gives3_false
    | 4, _, true => gives4_true
    | 4, _, false => gives4_false
    | k + 5, h, _ => absurd h (by omega)
theorem givesNegAll : ∀ b : Bool, Am.isTrue (Am.arun Tryz.prog tb12 100000 3 [.sym 1, .b b] Am.m0) = true
  | true => givesNeg_true
  | false => givesNeg_false
theorem givesBigAll : ∀ b : Bool, Am.isTrue (Am.arun Tryz.prog tb12 100000 3 [.sym 18, .b b] Am.m0) = true
  | true => givesBig_true
  | false => givesBig_false
/-- A number that is not known: symbols 1 and 18. -/
def sgN (c : Int) : Nat → Value := fun _ => .int .i64 c
theorem allocGives_any (c : Int) (b : Bool) (W : World) :
    Calls Tryz.prog 3 #[.int .i64 c, .bool b] W fun e W' => e = .returned (.bool true) ∧ Below W.heap.size W W' := by
  have one : ∀ s : Am.AV, Am.conc (Am.ρS (sgN c)) s = some (.int .i64 c) → Am.isTrue (Am.arun Tryz.prog tb12 100000 3 [s, .b b] Am.m0) = true → Calls Tryz.prog 3 #[.int .i64 c, .bool b] W fun e W' => e = .returned (.bool true) ∧ Below W.heap.size W W' :=
    fun s hs hr => Am.law_calls (Am.good_of Tryz.good) tb12_ok hr (Am.concs_cons.2 ⟨_, _, hs, Am.concs_cons.2 ⟨_, _, Am.conc_b b, Am.concs_nil _, rfl⟩, rfl⟩) Tryz.func3 rfl W
  cases c with
  | negSucc k => exact one (.sym 1) rfl (givesNegAll b)
  | ofNat k =>
    by_cases hk : k ≤ 4
    · exact one (.n k) rfl (givesAll k hk b)
    · refine one (.sym 18) ?_ (givesBigAll b)
      show (if Am.symOk 18 (.int .i64 (.ofNat k)) then some (Value.int .i64 (.ofNat k)) else none) = _
      have : Am.symOk 18 (.int .i64 (.ofNat k)) = true := by
        show decide (18 / 4 < k) = true
        exact decide_eq_true (by omega)
      rw [this]
      rfl
set_option maxRecDepth 100000 in
theorem allocGives_lifted (os : Os) (started : os.Started) (H : Type) (enc : TypeId × Value → H) :
    ReturnsInHanded {} Tryz.checked os 3 .any (Rows.allocGivesSpec.pre6 enc Tryz.prog Tryz.f3 Rows.allocGivesRow.domain false) (Rows.allocGivesSpec.post enc Tryz.prog Tryz.f3 false true false false) := by
  refine returnsInHanded_of_change (C := Tryz.checked) Tryz.own started (by kernel_rfl) Tryz.func3
    (ChangeSpec.witness6 (enc := enc) (C := Tryz.checked) false ⟨#[], #[.int .i64 0, .bool false], []⟩ 8 (by kernel_rfl) (by kernel_rfl) (by kernel_rfl) (by kernel_rfl)) ?_
  intro W base args ds gs before hval0 hW hcnd _
  have hval : ∀ (j : Nat) t v, Tryz.f3.params[j]? = some t → args[j]? = some v → Value.okWide Tryz.prog W .any base t v := hval0
  have hW' := hW
  obtain ⟨p, q, hA0, hV, rfl, hfz, hnd⟩ := hW
  have hA : DataW.TrodAll enc Tryz.prog W 0 (fun _ => true) true Tryz.f3.params.toList args.toList ds p := hA0
  rw [Tryz.params3] at hA hval
  obtain ⟨v0, v1, d0, d1, p0, p1, rfl, rfl, rfl, h0, h1⟩ := trodAll_two hA
  obtain ⟨rfl, rfl⟩ := trodVars_none hV
  obtain ⟨c, rfl, rfl, rfl, wc⟩ := open_int Tryz.underlying3 (hval 0 3 v0 rfl rfl) h0
  obtain ⟨x, rfl, rfl, rfl⟩ := open_bool Tryz.underlying4 (hval 1 4 v1 rfl rfl) h1
  clear hA0 hval0
  simp only [List.append_nil] at hW'
  refine (allocGives_any c x W).mono fun e W' ⟨he, hb⟩ => ?_
  subst he
  exact ⟨_, rfl, Am.post_of_below hW' (fun _ _ _ => trodAll_mk1 (shut_bool Tryz.underlying4 true)) (fun sp => trodAll_mk2 (shut_int Tryz.underlying3 wc) (shut_bool Tryz.underlying4 x)) (fun _ => rfl) hb (ok_one (by kernel_rfl) rfl (okWide_bool_mk Tryz.underlying4 true))⟩
theorem allocGives_holds : Rows.AllocGivesSaid :=
  OpenClaim.holds_of_wide 3 Tryz.f3 rfl rfl rfl rfl rfl rfl rfl ⟨rfl, rfl, rfl, rfl, rfl⟩ rfl rfl rfl rfl rfl (by kernel_rfl) Tryz.func3 (by kernel_rfl)
    (of_decide_eq_true (by kernel_rfl)) (by unfold Func.isWrapper; first | (rw [if_pos (by decide +kernel)]; kernel_rfl) | (rw [if_neg (by decide +kernel)]; exact ⟨rfl, rfl⟩))
    (fun os started H enc _ => allocGives_lifted os started H enc)
end Go.Proofs.YtlhplhcfbofdnaaGreat
