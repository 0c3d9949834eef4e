import Derived.Test.YtooooiidpaecmaaGreatFo
import Derived.Test.YtooooiidpaecmaaGreatIaOk
import Derived.Deep.Slices
import Derived.Deep.Fields
import Derived.ChangeSame
import Derived.ProofKit
import Derived.Shelf.Abstract
set_option linter.unusedVariables false
set_option linter.unusedSimpArgs false
/- The law 'skerrylaw14.FileKeeps' returns true for all bytes, every place and every byte. Conditions: none beyond those that the statement itself has. -/
namespace Go.Proofs.YtooooiidpaecmaaGreat
open Go Go.Am Go.ChangeShapes Go.WideShapes Go.ChangeAt Go.ChangeMaps Go.RowKit Go.Deep
theorem Tryz.laidOut : laidOutB Tryz.prog = true := by kernel_rfl
theorem concs_1 {ρ : Ren} {x : AV} {v : Value} (h : conc ρ x = some v) {l : List AV} {vs : List Value} (k : concs ρ l = some vs) : concs ρ (x :: l) = some (v :: vs) := concs_cons.2 ⟨v, vs, h, k, rfl⟩
theorem byte_of {z : Int} (h : (Lit.int .u8 z).wf = true) : ∃ x : UInt8, z = (x.toNat : Int) := by
 have h' : (decide ((0 : Int) ≤ z) && decide (z ≤ 255)) = true := h
 simp only [Bool.and_eq_true, decide_eq_true_eq] at h'
 exact ⟨UInt8.ofNat z.toNat, by rw [show (UInt8.ofNat z.toNat).toNat = z.toNat by simp; omega]; omega⟩
theorem bytes_of : ∀ {zs : List Int}, (∀ n ∈ zs, (Lit.int .u8 n).wf = true) → ∃ d : Bs, zs.map (kv .u8) = ycells d
 | [], _ => ⟨[], rfl⟩
 | z :: zs, h => by
  obtain ⟨x, rfl⟩ := byte_of (h z (List.mem_cons_self ..))
  obtain ⟨d, hd⟩ := bytes_of fun n hn => h n (List.mem_cons_of_mem _ hn)
  exact ⟨x :: d, by rw [List.map_cons, hd]; rfl⟩
set_option maxRecDepth 100000 in
theorem fileKeeps_lifted (os : Os) (started : os.Started) (H : Type) (enc : TypeId × Value → H) :
  ReturnsInHanded {} Tryz.checked os 6 .any (Rows.fileKeepsSpec.pre6 enc Tryz.prog Tryz.f6 Rows.fileKeepsRow.domain false) (Rows.fileKeepsSpec.post enc Tryz.prog Tryz.f6 false true false false) := by
 refine returnsInHanded_of_change_sized (C := Tryz.checked) Tryz.own started (by kernel_rfl) Tryz.func6
  (ChangeSpec.witness6 (enc := enc) (C := Tryz.checked) false ⟨#[], #[.slice none 0 0, .int .i64 0, .int .u8 0], []⟩ 8 (by kernel_rfl) (by kernel_rfl) (by kernel_rfl) (by kernel_rfl)) ?_
 intro W base args ds gs before hval0 hW hcnd hsize _
 have hval : ∀ (j : Nat) t v, Tryz.f6.params[j]? = some t → args[j]? = some v → Value.okWide Tryz.prog W .any base t v := hval0
 have hW' := hW
 obtain ⟨p, q, hA0, hV, rfl, hfz, hnd⟩ := hW
 have hA : DataW.TrodAll enc Tryz.prog W 0 (fun _ => true) true Tryz.f6.params.toList args.toList ds p := hA0
 rw [Tryz.params6] at hA hval
 obtain ⟨v0, v1, v2, d0, d1, d2, p0, p1, p2, rfl, rfl, rfl, h0, h1, h2⟩ := trodAll_three hA
 obtain ⟨rfl, rfl⟩ := trodVars_none hV
 obtain ⟨a, rfl, rfl, rfl, wa⟩ := open_int Tryz.underlying3 (hval 1 3 v1 rfl rfl) h1
 obtain ⟨b, rfl, rfl, rfl, wb⟩ := open_int Tryz.underlying5 (hval 2 5 v2 rfl rfl) h2
 obtain ⟨y, rfl⟩ := byte_of wb
 obtain ⟨ρ1, bq, x, zs, o, hx, hs1, hR1, hz1, _⟩ := open_nums0 (B := 0) Tryz.underlying59 Tryz.underlying5 (by kernel_rfl) (hval 0 59 v0 rfl rfl) h0 (fun elems spare hd => by omega)
 obtain ⟨d, hd⟩ := bytes_of hz1
 rw [hd] at hR1
 have hlt : ∀ z, z ∈ p0 → z.block < W.heap.size := fun z hz => by simpa using hW'.lt z (by simpa using hz)
 refine (wp_true (Am.good_of Tryz.good) tb_ok (fkeeps_spec (at' := a) (y := y) hR1) (concs_1 hx (concs_1 (v := .int .i64 a) (conc_kv ρ1 .i64 a) (concs_1 (v := .int .u8 (y.toNat : Int)) rfl (concs_nil ρ1)))) hs1 Tryz.func6 rfl).mono fun e W' ⟨he, hb⟩ => ?_
 subst he
 exact ⟨_, rfl, post_same hW' (fun _ _ _ => trodAll_mk1 (shut_bool Tryz.underlying4 true)) (trodAll_mk3 (Below.trod Tryz.laidOut (by kernel_rfl) (of_decide_eq_true (by kernel_rfl)) h0 hb fun z hz => hlt z hz) (shut_int Tryz.underlying3 wa) (shut_int Tryz.underlying5 wb)) rfl hb⟩
theorem fileKeeps_holds : Rows.FileKeepsSaid :=
 OpenClaim.holds_of_wide 6 Tryz.f6 rfl rfl rfl rfl rfl rfl rfl ⟨rfl, rfl, rfl, rfl, rfl⟩ rfl rfl rfl rfl rfl (by kernel_rfl) Tryz.func6 (by kernel_rfl)
  (of_decide_eq_true (by kernel_rfl)) (by unfold Func.isWrapper; first | (rw [if_pos (by decide +kernel)]; kernel_rfl) | (rw [if_neg (by decide +kernel)]; exact ⟨rfl, rfl⟩))
  (fun os started H enc _ => fileKeeps_lifted os started H enc)
end Go.Proofs.YtooooiidpaecmaaGreat
