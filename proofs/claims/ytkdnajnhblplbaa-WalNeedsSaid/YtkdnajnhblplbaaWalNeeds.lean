/- The law 'skerrylaw09.WalNeeds' returns true for every number and every byte. Conditions: none beyond those that the statement itself has. -/
import Derived.Test.YtkdnajnhblplbaaNeedsA
import Derived.Test.YtkdnajnhblplbaaNeedsB
import Derived.Test.YtkdnajnhblplbaaNeedsC
import Derived.Test.YtkdnajnhblplbaaNeedsD
namespace Go.Proofs.Ytkdnajnhblplbaa
open Go.ChangeShapes Go.WideShapes Go.ChangeAt Go.RowKit

theorem needsAll : ∀ k : Nat, k ≤ 40 → Am.isTrue (Am.arun Try.prog tb09 100000 5 [.n k, .sym 0] Am.m0) = true := fun k hk =>
  match k, hk with
    | 0, _ => needs0
    | 1, _ => needs1
    | 2, _ => needs2
    | 3, _ => needs3
    | 4, _ => needs4
    | 5, _ => needs5
    | 6, _ => needs6
    | 7, _ => needs7
    | 8, _ => needs8
    | 9, _ => needs9
    | 10, _ => needs10
    | 11, _ => needs11
    | 12, _ => needs12
    | 13, _ => needs13
    | 14, _ => needs14
    | 15, _ => needs15
    | 16, _ => needs16
    | 17, _ => needs17
    | 18, _ => needs18
    | 19, _ => needs19
    | 20, _ => needs20
    | 21, _ => needs21
    | 22, _ => needs22
    | 23, _ => needs23
    | 24, _ => needs24
    | 25, _ => needs25
    | 26, _ => needs26
    | 27, _ => needs27
    | 28, _ => needs28
    | 29, _ => needs29
    | 30, _ => needs30
    | 31, _ => needs31
    | 32, _ => needs32
    | 33, _ => needs33
    | 34, _ => needs34
    | 35, _ => needs35
    | 36, _ => needs36
    | 37, _ => needs37
    | 38, _ => needs38
    | 39, _ => needs39
    | 40, _ => needs40
    | k + 41, h => absurd h (by omega)
/-- A number and a byte that are not known: symbols 1, 162 and 0. -/
def sgN (c x : Int) : Nat → Value := fun i => if i = 0 then .int .u8 x else .int .i64 c
theorem walNeeds_any (c x : Int) (wx : (Lit.int .u8 x).wf = true) (W : World) :
    Calls Try.prog 5 #[.int .i64 c, .int .u8 x] W fun e W' => e = .returned (.bool true) ∧ Below W.heap.size W W' := by
  obtain ⟨y, rfl⟩ := Am.wf_u8 wx
  have h0 : Am.conc (Am.ρS (sgN c (.ofNat y))) (.sym 0) = some (.int .u8 (.ofNat y)) := rfl
  have one : ∀ s : Am.AV, Am.conc (Am.ρS (sgN c (.ofNat y))) s = some (.int .i64 c) → Am.isTrue (Am.arun Try.prog tb09 100000 5 [s, .sym 0] Am.m0) = true → Calls Try.prog 5 #[.int .i64 c, .int .u8 (.ofNat y)] W fun e W' => e = .returned (.bool true) ∧ Below W.heap.size W W' :=
    fun s hs hr => Am.law_calls (Am.good_of Try.good) tb09_ok hr (Am.concs_cons.2 ⟨_, _, hs, Am.concs_cons.2 ⟨_, _, h0, Am.concs_nil _, rfl⟩, rfl⟩) Try.func5 rfl W
  cases c with
  | negSucc k => exact one (.sym 1) rfl needsNeg
  | ofNat k =>
    by_cases hk : k ≤ 40
    · exact one (.n k) rfl (needsAll k hk)
    · refine one (.sym 162) ?_ needsBig
      show (if Am.symOk 162 (.int .i64 (.ofNat k)) then some (Value.int .i64 (.ofNat k)) else none) = _
      have : Am.symOk 162 (.int .i64 (.ofNat k)) = true := by
        show decide (162 / 4 < k) = true
        exact decide_eq_true (by omega)
      rw [this]
      rfl
set_option maxRecDepth 100000 in
theorem walNeeds_lifted (os : Os) (started : os.Started) (H : Type) (enc : TypeId × Value → H) :
    ReturnsInHanded {} Try.checked os 5 .any (Rows.walNeedsSpec.pre6 enc Try.prog Try.f5 Rows.walNeedsRow.domain false) (Rows.walNeedsSpec.post enc Try.prog Try.f5 false true false false) := by
  refine returnsInHanded_of_change (C := Try.checked) Try.own started (by kernel_rfl) Try.func5
    (ChangeSpec.witness6 (enc := enc) (C := Try.checked) false ⟨#[], #[.int .i64 0, .int .u8 0], []⟩ 8 (by kernel_rfl) (by kernel_rfl) (by kernel_rfl) (by kernel_rfl)) ?_
  intro W base args ds gs before hval0 hW hcnd _
  have hval : ∀ (j : Nat) t v, Try.f5.params[j]? = some t → args[j]? = some v → Value.okWide Try.prog W .any base t v := hval0
  have hW' := hW
  obtain ⟨p, q, hA0, hV, rfl, hfz, hnd⟩ := hW
  have hA : DataW.TrodAll enc Try.prog W 0 (fun _ => true) true Try.f5.params.toList args.toList ds p := hA0
  rw [Try.params5] at hA hval
  obtain ⟨v0, v1, d0, d1, p0, p1, rfl, rfl, rfl, h0, h1⟩ := trodAll_two hA
  obtain ⟨rfl, rfl⟩ := trodVars_none hV
  obtain ⟨c, rfl, rfl, rfl, wc⟩ := open_int Try.underlying3 (hval 0 3 v0 rfl rfl) h0
  obtain ⟨x, rfl, rfl, rfl, wx⟩ := open_int Try.underlying5 (hval 1 5 v1 rfl rfl) h1
  clear hA0 hval0
  simp only [List.append_nil] at hW'
  refine (walNeeds_any c x wx W).mono fun e W' ⟨he, hb⟩ => ?_
  subst he
  exact ⟨_, rfl, Am.post_of_below hW' (fun _ _ _ => trodAll_mk1 (shut_bool Try.underlying4 true)) (fun sp => trodAll_mk2 (shut_int Try.underlying3 wc) (shut_int Try.underlying5 wx)) (fun _ => rfl) hb (ok_one (by kernel_rfl) rfl (okWide_bool_mk Try.underlying4 true))⟩
theorem walNeeds_holds : Rows.WalNeedsSaid :=
  OpenClaim.holds_of_wide 5 Try.f5 rfl rfl rfl rfl rfl rfl rfl ⟨rfl, rfl, rfl, rfl, rfl⟩ rfl rfl rfl rfl rfl (by kernel_rfl) Try.func5 (by kernel_rfl)
    (of_decide_eq_true (by kernel_rfl)) (by unfold Func.isWrapper; first | (rw [if_pos (by decide +kernel)]; kernel_rfl) | (rw [if_neg (by decide +kernel)]; exact ⟨rfl, rfl⟩))
    (fun os started H enc _ => walNeeds_lifted os started H enc)
end Go.Proofs.Ytkdnajnhblplbaa
