import Derived.Test.YtooooiidpaecmaaGreatAmP
import Derived.Lib.Bytealg
import Derived.ProofKit
import Derived.KernelRfl
/- The abstract machine: from a run to a row. -/
namespace Go.Am
open Go Go.RowKit Go.ChangeShapes Go.WideShapes
noncomputable def goodB (P : Program) : Bool := P.follows .mixedOrders && P.funcs.toList.all fun fn => !(fn.name == "runtime.NumGoroutine") && (fn.body.isSome || !(fn.name == escName || (fn.name == cloneName || (fn.name == indexName || (fn.name == truncName || fn.name == countName)))) || fn.origin == "")
theorem ext_some {n : String} {args : List AV} {m m' : M} {v : AV} (h : ext n args m = some (v, m')) :
  (n = escName ∧ args = [v] ∧ m' = m) ∨ (n = cloneName ∧ ∃ t b q, args = [.iface t (.map b)] ∧ m.mapF b = some q ∧ v = .iface t (.map m.next) ∧ m' = m.new (.obj (.map q.1 q.2))) ∨
  (n = indexName ∧ ∃ x c s, args = [x, .y c] ∧ c ≤ 255 ∧ toS x = some s ∧ v = Option.rec (motive := fun _ => AV) (.p (.int .i64 (-1))) (fun i => .n i) (indexB s.data.toList c 0) ∧ m' = m) ∨
  (n = truncName ∧ ∃ a u, args = [.p (.float .f64 a)] ∧ semP (Extern.MathFloor.toIntegral truncName .zero #[.float .f64 a]) = some u ∧ u.oneCell' = true ∧ v = cv1 u ∧ m' = m) ∨
  (n = countName ∧ ∃ x c s, args = [x, .y c] ∧ c ≤ 255 ∧ toS x = some s ∧ v = .n (countB s.data.toList c 0) ∧ m' = m) := by
 unfold ext at h
 split at h
 ·rename_i x c
  cases h1 : decide (n = indexName) && Nat.ble c 255 with
  | true =>
   rw [h1, bc_true] at h
   simp only [Bool.and_eq_true] at h1
   obtain ⟨s, hs, h⟩ := ob_some h
   cases h
   exact .inr (.inr (.inl ⟨of_decide_eq_true h1.1, x, c, s, rfl, Nat.le_of_ble_eq_true h1.2, hs, rfl, rfl⟩))
  | false =>
   rw [h1, bc_false] at h
   obtain ⟨h1, h⟩ := bc_some h
   simp only [Bool.and_eq_true] at h1
   obtain ⟨s, hs, h⟩ := ob_some h
   cases h
   exact .inr (.inr (.inr (.inr ⟨of_decide_eq_true h1.1, x, c, s, rfl, Nat.le_of_ble_eq_true h1.2, hs, rfl, rfl⟩)))
 ·rename_i x
  by_cases h1 : n = escName
  ·rw [decide_eq_true h1, bc_true] at h
   cases h
   exact .inl ⟨h1, rfl, rfl⟩
  ·rw [decide_eq_false h1, bc_false] at h
   by_cases h1 : n = truncName
   ·rw [decide_eq_true h1, bc_true] at h
    split at h
    ·rename_i a
     obtain ⟨u, hu, h⟩ := ob_some h
     obtain ⟨h2, h⟩ := bc_some h
     cases h
     exact .inr (.inr (.inr (.inl ⟨h1, a, u, rfl, hu, h2, rfl, rfl⟩)))
    ·cases h
   rw [decide_eq_false h1, bc_false] at h
   obtain ⟨h2, h⟩ := bc_some h
   obtain ⟨t, u, rfl, h⟩ := elIf_some h
   rcases elMap_some h with ⟨b, rfl, h⟩ | ⟨_, h⟩
   ·obtain ⟨q, hq, h⟩ := ob_some h
    cases h
    exact .inr (.inl ⟨of_decide_eq_true h2, t, b, q, rfl, hq, rfl, rfl⟩)
   ·cases h
 ·cases h
def Ours (n : String) : Prop := n = escName ∨ n = cloneName ∨ n = indexName ∨ n = truncName ∨ n = countName
theorem look_next (n : String) (hn : Ours n) : Extern.allNextRows.lookup n = none ∧ Extern.allNextRows.lookup "" = none := by rcases hn with rfl | rfl | rfl | rfl | rfl <;> exact ⟨by kernel_rfl, by kernel_rfl⟩
theorem look_generic (n : String) (hn : Ours n) : Extern.allGenericRows.lookup n = none := by rcases hn with rfl | rfl | rfl | rfl | rfl <;> kernel_rfl
theorem look_typed (n : String) (hn : Ours n) : Extern.allTypedRows.lookup n = none := by rcases hn with rfl | rfl | rfl | rfl | rfl <;> kernel_rfl
theorem look_all : Extern.allRows.lookup escName = some Extern.AbiNoEscape.same := by kernel_rfl
theorem look_clone : Extern.allRows.lookup cloneName = some Extern.MapsClone.clone := by kernel_rfl
theorem look_index : Extern.allRows.lookup indexName = some Extern.BytealgIndexByte.indexByte := by kernel_rfl
theorem look_trunc : Extern.allRows.lookup truncName = some (Extern.MathFloor.toIntegral truncName .zero) := by kernel_rfl
theorem look_count : Extern.allRows.lookup countName = some Extern.BytealgCount.count := by kernel_rfl
theorem find_ext {fn : Func} {f : Array Value → Sem Value} (hn : Ours fn.name) (ho : fn.origin = "") (hf : Extern.allRows.lookup fn.name = some f) : Extern.findNext fn = none ∧ Extern.find fn = some f := by
 constructor
 ·simp [Extern.findNext, ho, look_next _ hn]
 ·simp [Extern.find, look_generic _ hn, look_typed _ hn, hf]
theorem find_range {s : ByteArray} {b : UInt8} : ∀ (l : List UInt8) (k : Nat), (∀ j, l[j]? = s.data[k + j]?) → k + l.length = s.size → ∀ (r : Option Nat), indexB l b.toNat k = r → (List.range' k l.length).find? (fun i => s[i]! == b) = r
 | [], k, _, _, r, h => by cases h; rfl
 | c :: l, k, hl, hk, r, h => by
  have h0 := hl 0
  simp only [List.getElem?_cons_zero, Nat.add_zero] at h0
  have hc : s[k]! = c := by
   have hlt : k < s.size := by simp only [List.length_cons] at hk; omega
   have h1 := (Array.getElem?_eq_some_iff.1 h0.symm).2
   rw [getElem!_pos s k hlt]
   exact h1
  have ih := find_range (b := b) l (k + 1) (fun j => by have := hl (j + 1); simpa [Nat.add_assoc, Nat.add_comm 1] using this) (by simp only [List.length_cons] at hk; omega)
  simp only [List.length_cons, List.range'_succ, List.find?_cons, hc]
  unfold indexB at h
  by_cases hcb : c = b
  ·subst hcb
   rw [Nat.beq_refl, bc_true] at h
   cases h
   simp
  ·have hb : Nat.beq c.toNat b.toNat = false := by
    cases h : Nat.beq c.toNat b.toNat with
    | false => rfl
    | true => exact absurd (UInt8.toNat_inj.1 (Nat.eq_of_beq_eq_true h)) hcb
   rw [hb, bc_false] at h
   have hbe : (c == b) = false := by simpa using hcb
   rw [hbe]
   exact ih r h
theorem index_ok {s : ByteArray} {c : Nat} (hc : c ≤ 255) {ρ : Ren} {w : World} {P : Program} :
  ∃ u, (Extern.BytealgIndexByte.indexByte #[.string s, .int .u8 (c : Int)]).run P w = .ok u w ∧ conc ρ (Option.rec (motive := fun _ => AV) (.p (.int .i64 (-1))) (fun i => .n i) (indexB s.data.toList c 0)) = some u := by
 have hb : (UInt8.ofNat c).toNat = c := by simp; omega
 have hf := find_range (s := s) (b := UInt8.ofNat c) s.data.toList 0 (fun j => by simp) (by show 0 + s.data.toList.length = s.data.size; simp) _ rfl
 rw [hb] at hf
 have hlen : s.data.toList.length = s.size := by show s.data.toList.length = s.data.size; simp
 rw [hlen, ← List.range_eq_range'] at hf
 have e : Extern.BytealgIndexByte.indexByte #[.string s, .int .u8 (c : Int)] = (do
   let b ← Extern.Bytes.bytesOf (.string s)
   let c ← Extern.Bytes.asByte (.int .u8 (c : Int))
   match (List.range b.size).find? fun i => b[i]! == c with
   | some i => pure (goInt i)
   | none => pure (goInt (-1))) := rfl
 rw [e]
 cases hi : indexB s.data.toList c 0 with
 | none =>
  rw [hi] at hf
  exact ⟨.int .i64 (-1), by simp [Extern.Bytes.bytesOf, Extern.Bytes.asByte, hf, goInt], conc_p rfl⟩
 | some i =>
  rw [hi] at hf
  exact ⟨goInt i, by simp [Extern.Bytes.bytesOf, Extern.Bytes.asByte, hf], conc_n i⟩
theorem countB_eq (c : UInt8) : ∀ (l : List UInt8) (k : Nat), countB l c.toNat k = k + l.count c
 | [], k => rfl
 | b :: l, k => by
  unfold countB
  rw [countB_eq c l, List.count_cons]
  by_cases h : b = c
  ·subst h
   rw [Nat.beq_refl, bc_true]
   simp
   omega
  ·have hb : Nat.beq b.toNat c.toNat = false := by
    cases h2 : Nat.beq b.toNat c.toNat with
    | false => rfl
    | true => exact absurd (UInt8.toNat_inj.1 (Nat.eq_of_beq_eq_true h2)) h
   rw [hb, bc_false]
   have hbe : (b == c) = false := by simpa using h
   rw [hbe]
   simp
theorem count_ok {s : ByteArray} {c : Nat} (hc : c ≤ 255) {ρ : Ren} {w : World} {P : Program} :
  ∃ u, (Extern.BytealgCount.count #[.string s, .int .u8 (c : Int)]).run P w = .ok u w ∧ conc ρ (.n (countB s.data.toList c 0)) = some u := by
 have hb : (UInt8.ofNat c).toNat = c := by simp; omega
 have h := countB_eq (UInt8.ofNat c) s.data.toList 0
 rw [hb, Nat.zero_add] at h
 refine ⟨_, Lib.run_countString s c w, ?_⟩
 rw [h]
 exact conc_n _
theorem good_of {P : Program} (h : goodB P = true) : Good P := {
 mixed := by simp only [goodB, Bool.and_eq_true] at h; exact h.1
 name := by
  intro g fn hg
  simp only [goodB, Bool.and_eq_true, List.all_eq_true] at h
  have := (h.2 fn (by simpa using Array.mem_of_getElem? hg)).1
  simpa using this
 ext := by
  intro g fn args m m' v hg hb he w0 ρ vs w hv hsim
  simp only [goodB, Bool.and_eq_true, List.all_eq_true] at h
  have ho := (h.2 fn (by simpa using Array.mem_of_getElem? hg)).2
  rcases ext_some he with ⟨hn, ha, hm⟩ | ⟨hn, t, b, q, ha, hq, hv', hm⟩ | ⟨hn, x, c, s, ha, hc, hs, hv', hm⟩ | ⟨hn, a, z, ha, hz, h1, hv', hm⟩ | ⟨hn, x, c, s, ha, hc, hs, hv', hm⟩
  ·subst ha hm
   have ho : fn.origin = "" := by simpa [hb, hn] using ho
   obtain ⟨u, us, h1, h2, rfl⟩ := concs_cons.1 hv
   rw [concs_nil] at h2
   cases h2
   refine ⟨ρ, u, w, ?_, h1, ρ.le_refl, hsim⟩
   obtain ⟨f1, f2⟩ := find_ext (.inl hn) ho (by rw [hn]; exact look_all)
   have hne : ¬ fn.name = "runtime.NumGoroutine" := by rw [hn]; decide
   have hs : Extern.AbiNoEscape.same #[u] = pure u := rfl
   simp [callFunc, hg, hne, hb, f1, f2, hs]
  ·subst ha hm hv'
   have ho : fn.origin = "" := by simpa [hb, hn] using ho
   obtain ⟨u, us, h1, h2, rfl⟩ := concs_cons.1 hv
   rw [concs_nil] at h2
   cases h2
   obtain ⟨ρ', z, w', h3, h4, h5, h6⟩ := clone_ok hsim hq h1
   refine ⟨ρ', z, w', ?_, h4, h5, h6⟩
   obtain ⟨f1, f2⟩ := find_ext (.inr (.inl hn)) ho (by rw [hn]; exact look_clone)
   have hne : ¬ fn.name = "runtime.NumGoroutine" := by rw [hn]; decide
   simp [callFunc, hg, hne, hb, f1, f2, h3]
  ·subst ha hm hv'
   have ho : fn.origin = "" := by simpa [hb, hn] using ho
   obtain ⟨u, us, h1, h2, rfl⟩ := concs_cons.1 hv
   obtain ⟨u2, us2, h3, h4, rfl⟩ := concs_cons.1 h2
   rw [concs_nil] at h4
   cases h4
   have hu := toS_conc hs h1
   subst hu
   rw [conc_y] at h3
   cases h3
   obtain ⟨z, h5, h6⟩ := index_ok (s := s) hc (ρ := ρ) (w := w) (P := P)
   refine ⟨ρ, z, w, ?_, h6, ρ.le_refl, hsim⟩
   obtain ⟨f1, f2⟩ := find_ext (.inr (.inr (.inl hn))) ho (by rw [hn]; exact look_index)
   have hne : ¬ fn.name = "runtime.NumGoroutine" := by rw [hn]; decide
   simp only [Int.ofNat_eq_natCast]
   simp [callFunc, hg, hne, hb, f1, f2, h5]
  ·subst ha hm hv'
   have ho : fn.origin = "" := by simpa [hb, hn] using ho
   obtain ⟨u, us, h2, h3, rfl⟩ := concs_cons.1 hv
   rw [concs_nil] at h3
   cases h3
   rw [conc_p rfl] at h2
   cases h2
   have h5 := semP_ok (P := P) (w := w) hz
   refine ⟨ρ, z, w, ?_, conc_cv1 ρ z h1, ρ.le_refl, hsim⟩
   obtain ⟨f1, f2⟩ := find_ext (.inr (.inr (.inr (.inl hn)))) ho (by rw [hn]; exact look_trunc)
   have hne : ¬ fn.name = "runtime.NumGoroutine" := by rw [hn]; decide
   simp [callFunc, hg, hne, hb, f1, f2, h5]
  ·subst ha hm hv'
   have ho : fn.origin = "" := by simpa [hb, hn] using ho
   obtain ⟨u, us, h1, h2, rfl⟩ := concs_cons.1 hv
   obtain ⟨u2, us2, h3, h4, rfl⟩ := concs_cons.1 h2
   rw [concs_nil] at h4
   cases h4
   have hu := toS_conc hs h1
   subst hu
   rw [conc_y] at h3
   cases h3
   obtain ⟨z, h5, h6⟩ := count_ok (s := s) hc (ρ := ρ) (w := w) (P := P)
   refine ⟨ρ, z, w, ?_, h6, ρ.le_refl, hsim⟩
   obtain ⟨f1, f2⟩ := find_ext (.inr (.inr (.inr (.inr hn)))) ho (by rw [hn]; exact look_count)
   have hne : ¬ fn.name = "runtime.NumGoroutine" := by rw [hn]; decide
   simp only [Int.ofNat_eq_natCast]
   simp [callFunc, hg, hne, hb, f1, f2, h5]
 }
def ρ0 : Ren := ⟨fun _ => none, fun _ => undef⟩
theorem get_m0 (b : Nat) : m0.get b = none := by unfold M.get m0; cases pth b <;> rfl
theorem cel_m0 (b : Nat) : m0.cel b = none := by unfold M.cel; rw [get_m0]; rfl
theorem Sim.start {P : Program} (w : World) : Sim P w ρ0 m0 w := {
 base := Below.refl _ _
 next := fun b _ => ⟨rfl, get_m0 b⟩
 blk := fun b B h => by rw [get_m0] at h; cases h
 mvok := fun b c x h _ => by rw [cel_m0] at h; cases h
 own := fun b c _ _ _ _ h => by rw [cel_m0] at h; cases h
 ext := fun b c _ _ _ _ h => by rw [cel_m0] at h; cases h
 mown := fun b c _ _ _ _ h => by rw [get_m0] at h; cases h
 }
theorem closed_calls {P : Program} (hP : Good P) {T : Tb} (hT : ∀ w0, TbOk P w0 T) {n : Nat} {g : FuncId} (hr : isTrue (arun P T n g [] m0) = true) {fn : Func} {c : Code} (hfn : P.funcs[g]? = some fn) (hb : fn.body = some c) (w : World) :
  Calls P g #[] w fun e w' => e = .returned (.bool true) ∧ Below w.heap.size w w' := by
 unfold isTrue at hr
 split at hr
 ·rename_i m' he
  refine (arun_calls (w0 := w) hP (hT w) he (ρ := ρ0) (vs := []) (concs_nil _) (Sim.start w) hfn hb).mono fun e w' ⟨u, ρ', h1, h2, h3, h4⟩ => ?_
  rw [conc_b] at h2
  cases h2
  exact ⟨h1, h4.base⟩
 ·cases hr
end Go.Am
