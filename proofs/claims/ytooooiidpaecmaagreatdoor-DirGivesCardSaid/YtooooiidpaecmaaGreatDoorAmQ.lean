import Derived.Test.YtooooiidpaecmaaGreatDoorAmP
import Derived.Lib.Bytealg
import Derived.ProofKit
import Derived.KernelRfl
/- The abstract machine: from a run to a row. -/
namespace Go.Am
open Go Go.RowKit Go.ChangeShapes Go.WideShapes
noncomputable def goodB (P : Program) : Bool := P.follows .mixedOrders && P.funcs.toList.all fun fn => !(fn.name == "runtime.NumGoroutine") && (fn.body.isSome || !(fn.name == a0P || (fn.name == a1L || (fn.name == I3 || (fn.name == P2 || fn.name == a0I)))) || fn.origin == "")
theorem f3Y {n : String} {args : List AV} {m m' : M} {v : AV} (h : ext n args m = some (v, m')) :
  (n = a0P ∧ args = [v] ∧ m' = m) ∨ (n = a1L ∧ ∃ t b q, args = [.iface t (.map b)] ∧ m.mapF b = some q ∧ v = .iface t (.map m.next) ∧ m' = m.new (.obj (.map q.1 q.2))) ∨
  (n = I3 ∧ ∃ x c s, args = [x, .y c] ∧ c ≤ 255 ∧ toS x = some s ∧ v = Option.rec (motive := fun _ => AV) (.p (.int .i64 (-1))) (fun i => .n i) (B8 s.data.toList c 0) ∧ m' = m) ∨
  (n = P2 ∧ ∃ a u, args = [.p (.float .f64 a)] ∧ Y0 (Extern.MathFloor.toIntegral P2 .zero #[.float .f64 a]) = some u ∧ u.oneCell' = true ∧ v = cv1 u ∧ m' = m) ∨
  (n = a0I ∧ ∃ x c s, args = [x, .y c] ∧ c ≤ 255 ∧ toS x = some s ∧ v = .n (a0m s.data.toList c 0) ∧ m' = m) := by
 unfold ext at h
 split at h
 ·rename_i x c
  cases h1 : decide (n = I3) && Nat.ble c 255 with
  | true =>
   rw [h1, l5] at h
   simp only [Bool.and_eq_true] at h1
   obtain ⟨s, hs, h⟩ := d8 h
   cases h
   exact .inr (.inr (.inl ⟨of_decide_eq_true h1.1, x, c, s, rfl, Nat.le_of_ble_eq_true h1.2, hs, rfl, rfl⟩))
  | false =>
   rw [h1, o7] at h
   obtain ⟨h1, h⟩ := j9 h
   simp only [Bool.and_eq_true] at h1
   obtain ⟨s, hs, h⟩ := d8 h
   cases h
   exact .inr (.inr (.inr (.inr ⟨of_decide_eq_true h1.1, x, c, s, rfl, Nat.le_of_ble_eq_true h1.2, hs, rfl, rfl⟩)))
 ·rename_i x
  by_cases h1 : n = a0P
  ·rw [decide_eq_true h1, l5] at h
   cases h
   exact .inl ⟨h1, rfl, rfl⟩
  ·rw [decide_eq_false h1, o7] at h
   by_cases h1 : n = P2
   ·rw [decide_eq_true h1, l5] at h
    split at h
    ·rename_i a
     obtain ⟨u, hu, h⟩ := d8 h
     obtain ⟨h2, h⟩ := j9 h
     cases h
     exact .inr (.inr (.inr (.inl ⟨h1, a, u, rfl, hu, h2, rfl, rfl⟩)))
    ·cases h
   rw [decide_eq_false h1, o7] at h
   obtain ⟨h2, h⟩ := j9 h
   obtain ⟨t, u, rfl, h⟩ := b6J h
   rcases a0H h with ⟨b, rfl, h⟩ | ⟨_, h⟩
   ·obtain ⟨q, hq, h⟩ := d8 h
    cases h
    exact .inr (.inl ⟨of_decide_eq_true h2, t, b, q, rfl, hq, rfl, rfl⟩)
   ·cases h
 ·cases h
def a6u (n : String) : Prop := n = a0P ∨ n = a1L ∨ n = I3 ∨ n = P2 ∨ n = a0I
theorem f2E (n : String) (hn : a6u n) : Extern.allNextRows.lookup n = none ∧ Extern.allNextRows.lookup "" = none := by rcases hn with rfl | rfl | rfl | rfl | rfl <;> exact ⟨by kernel_rfl, by kernel_rfl⟩
theorem f0X (n : String) (hn : a6u n) : Extern.allGenericRows.lookup n = none := by rcases hn with rfl | rfl | rfl | rfl | rfl <;> kernel_rfl
theorem f1Z (n : String) (hn : a6u n) : Extern.allTypedRows.lookup n = none := by rcases hn with rfl | rfl | rfl | rfl | rfl <;> kernel_rfl
theorem f3J : Extern.allRows.lookup a0P = some Extern.AbiNoEscape.same := by kernel_rfl
theorem f1P : Extern.allRows.lookup a1L = some Extern.MapsClone.clone := by kernel_rfl
theorem f2t : Extern.allRows.lookup I3 = some Extern.BytealgIndexByte.indexByte := by kernel_rfl
theorem f2s : Extern.allRows.lookup P2 = some (Extern.MathFloor.toIntegral P2 .zero) := by kernel_rfl
theorem f1X : Extern.allRows.lookup a0I = some Extern.BytealgCount.count := by kernel_rfl
theorem a1Y {fn : Func} {f : Array Value → Sem Value} (hn : a6u fn.name) (ho : fn.origin = "") (hf : Extern.allRows.lookup fn.name = some f) : Extern.findNext fn = none ∧ Extern.find fn = some f := by
 constructor
 ·simp [Extern.findNext, ho, f2E _ hn]
 ·simp [Extern.find, f0X _ hn, f1Z _ hn, hf]
theorem b6w {s : ByteArray} {b : UInt8} : ∀ (l : List UInt8) (k : Nat), (∀ j, l[j]? = s.data[k + j]?) → k + l.length = s.size → ∀ (r : Option Nat), B8 l b.toNat k = r → (List.range' k l.length).find? (fun i => s[i]! == b) = r
 | [], k, _, _, r, h => by cases h; rfl
 | c :: l, k, hl, hk, r, h => by
  have h0 := hl 0
  simp only [List.getElem?_cons_zero, Nat.add_zero] at h0
  have hc : s[k]! = c := by
   have hlt : k < s.size := by simp only [List.length_cons] at hk; omega
   have h1 := (Array.getElem?_eq_some_iff.1 h0.symm).2
   rw [getElem!_pos s k hlt]
   exact h1
  have ih := b6w (b := b) l (k + 1) (fun j => by have := hl (j + 1); simpa [Nat.add_assoc, Nat.add_comm 1] using this) (by simp only [List.length_cons] at hk; omega)
  simp only [List.length_cons, List.range'_succ, List.find?_cons, hc]
  unfold B8 at h
  by_cases hcb : c = b
  ·subst hcb
   rw [Nat.beq_refl, l5] at h
   cases h
   simp
  ·have hb : Nat.beq c.toNat b.toNat = false := by
    cases h : Nat.beq c.toNat b.toNat with
    | false => rfl
    | true => exact absurd (UInt8.toNat_inj.1 (Nat.eq_of_beq_eq_true h)) hcb
   rw [hb, o7] at h
   have hbe : (c == b) = false := by simpa using hcb
   rw [hbe]
   exact ih r h
theorem f3S {s : ByteArray} {c : Nat} (hc : c ≤ 255) {ρ : Ren} {w : World} {P : Program} :
  ∃ u, (Extern.BytealgIndexByte.indexByte #[.string s, .int .u8 (c : Int)]).run P w = .ok u w ∧ d5 ρ (Option.rec (motive := fun _ => AV) (.p (.int .i64 (-1))) (fun i => .n i) (B8 s.data.toList c 0)) = some u := by
 have hb : (UInt8.ofNat c).toNat = c := by simp; omega
 have hf := b6w (s := s) (b := UInt8.ofNat c) s.data.toList 0 (fun j => by simp) (by show 0 + s.data.toList.length = s.data.size; simp) _ rfl
 rw [hb] at hf
 have hlen : s.data.toList.length = s.size := by show s.data.toList.length = s.data.size; simp
 rw [hlen, ← List.range_eq_range'] at hf
 have e : Extern.BytealgIndexByte.indexByte #[.string s, .int .u8 (c : Int)] = (do
   let b ← Extern.Bytes.bytesOf (.string s)
   let c ← Extern.Bytes.asByte (.int .u8 (c : Int))
   match (List.range b.size).find? fun i => b[i]! == c with
   | some i => pure (goInt i)
   | none => pure (goInt (-1))) := rfl
 rw [e]
 cases hi : B8 s.data.toList c 0 with
 | none =>
  rw [hi] at hf
  exact ⟨.int .i64 (-1), by simp [Extern.Bytes.bytesOf, Extern.Bytes.asByte, hf, goInt], l0 rfl⟩
 | some i =>
  rw [hi] at hf
  exact ⟨goInt i, by simp [Extern.Bytes.bytesOf, Extern.Bytes.asByte, hf], C8 i⟩
theorem b7k (c : UInt8) : ∀ (l : List UInt8) (k : Nat), a0m l c.toNat k = k + l.count c
 | [], k => rfl
 | b :: l, k => by
  unfold a0m
  rw [b7k c l, List.count_cons]
  by_cases h : b = c
  ·subst h
   rw [Nat.beq_refl, l5]
   simp
   omega
  ·have hb : Nat.beq b.toNat c.toNat = false := by
    cases h2 : Nat.beq b.toNat c.toNat with
    | false => rfl
    | true => exact absurd (UInt8.toNat_inj.1 (Nat.eq_of_beq_eq_true h2)) h
   rw [hb, o7]
   have hbe : (b == c) = false := by simpa using h
   rw [hbe]
   simp
theorem f4X {s : ByteArray} {c : Nat} (hc : c ≤ 255) {ρ : Ren} {w : World} {P : Program} :
  ∃ u, (Extern.BytealgCount.count #[.string s, .int .u8 (c : Int)]).run P w = .ok u w ∧ d5 ρ (.n (a0m s.data.toList c 0)) = some u := by
 have hb : (UInt8.ofNat c).toNat = c := by simp; omega
 have h := b7k (UInt8.ofNat c) s.data.toList 0
 rw [hb, Nat.zero_add] at h
 refine ⟨_, Lib.run_countString s c w, ?_⟩
 rw [h]
 exact C8 _
theorem good_of {P : Program} (h : goodB P = true) : Good P := {
 mixed := by simp only [goodB, Bool.and_eq_true] at h; exact h.1
 name := by
  intro g fn hg
  simp only [goodB, Bool.and_eq_true, List.all_eq_true] at h
  have := (h.2 fn (by simpa using Array.mem_of_getElem? hg)).1
  simpa using this
 ext := by
  intro g fn args m m' v hg hb he w0 ρ vs w hv hsim
  simp only [goodB, Bool.and_eq_true, List.all_eq_true] at h
  have ho := (h.2 fn (by simpa using Array.mem_of_getElem? hg)).2
  rcases f3Y he with ⟨hn, ha, hm⟩ | ⟨hn, t, b, q, ha, hq, hv', hm⟩ | ⟨hn, x, c, s, ha, hc, hs, hv', hm⟩ | ⟨hn, a, z, ha, hz, h1, hv', hm⟩ | ⟨hn, x, c, s, ha, hc, hs, hv', hm⟩
  ·subst ha hm
   have ho : fn.origin = "" := by simpa [hb, hn] using ho
   obtain ⟨u, us, h1, h2, rfl⟩ := l7.1 hv
   rw [l4] at h2
   cases h2
   refine ⟨ρ, u, w, ?_, h1, ρ.le_refl, hsim⟩
   obtain ⟨f1, f2⟩ := a1Y (.inl hn) ho (by rw [hn]; exact f3J)
   have hne : ¬ fn.name = "runtime.NumGoroutine" := by rw [hn]; decide
   have hs : Extern.AbiNoEscape.same #[u] = pure u := rfl
   simp [callFunc, hg, hne, hb, f1, f2, hs]
  ·subst ha hm hv'
   have ho : fn.origin = "" := by simpa [hb, hn] using ho
   obtain ⟨u, us, h1, h2, rfl⟩ := l7.1 hv
   rw [l4] at h2
   cases h2
   obtain ⟨ρ', z, w', h3, h4, h5, h6⟩ := f3X hsim hq h1
   refine ⟨ρ', z, w', ?_, h4, h5, h6⟩
   obtain ⟨f1, f2⟩ := a1Y (.inr (.inl hn)) ho (by rw [hn]; exact f1P)
   have hne : ¬ fn.name = "runtime.NumGoroutine" := by rw [hn]; decide
   simp [callFunc, hg, hne, hb, f1, f2, h3]
  ·subst ha hm hv'
   have ho : fn.origin = "" := by simpa [hb, hn] using ho
   obtain ⟨u, us, h1, h2, rfl⟩ := l7.1 hv
   obtain ⟨u2, us2, h3, h4, rfl⟩ := l7.1 h2
   rw [l4] at h4
   cases h4
   have hu := H4 hs h1
   subst hu
   rw [Q3] at h3
   cases h3
   obtain ⟨z, h5, h6⟩ := f3S (s := s) hc (ρ := ρ) (w := w) (P := P)
   refine ⟨ρ, z, w, ?_, h6, ρ.le_refl, hsim⟩
   obtain ⟨f1, f2⟩ := a1Y (.inr (.inr (.inl hn))) ho (by rw [hn]; exact f2t)
   have hne : ¬ fn.name = "runtime.NumGoroutine" := by rw [hn]; decide
   simp only [Int.ofNat_eq_natCast]
   simp [callFunc, hg, hne, hb, f1, f2, h5]
  ·subst ha hm hv'
   have ho : fn.origin = "" := by simpa [hb, hn] using ho
   obtain ⟨u, us, h2, h3, rfl⟩ := l7.1 hv
   rw [l4] at h3
   cases h3
   rw [l0 rfl] at h2
   cases h2
   have h5 := a4l (P := P) (w := w) hz
   refine ⟨ρ, z, w, ?_, J9 ρ z h1, ρ.le_refl, hsim⟩
   obtain ⟨f1, f2⟩ := a1Y (.inr (.inr (.inr (.inl hn)))) ho (by rw [hn]; exact f2s)
   have hne : ¬ fn.name = "runtime.NumGoroutine" := by rw [hn]; decide
   simp [callFunc, hg, hne, hb, f1, f2, h5]
  ·subst ha hm hv'
   have ho : fn.origin = "" := by simpa [hb, hn] using ho
   obtain ⟨u, us, h1, h2, rfl⟩ := l7.1 hv
   obtain ⟨u2, us2, h3, h4, rfl⟩ := l7.1 h2
   rw [l4] at h4
   cases h4
   have hu := H4 hs h1
   subst hu
   rw [Q3] at h3
   cases h3
   obtain ⟨z, h5, h6⟩ := f4X (s := s) hc (ρ := ρ) (w := w) (P := P)
   refine ⟨ρ, z, w, ?_, h6, ρ.le_refl, hsim⟩
   obtain ⟨f1, f2⟩ := a1Y (.inr (.inr (.inr (.inr hn)))) ho (by rw [hn]; exact f1X)
   have hne : ¬ fn.name = "runtime.NumGoroutine" := by rw [hn]; decide
   simp only [Int.ofNat_eq_natCast]
   simp [callFunc, hg, hne, hb, f1, f2, h5]
 }
def ρ0 : Ren := ⟨fun _ => none, fun _ => undef⟩
theorem a2o (b : Nat) : m0.get b = none := by unfold M.get m0; cases pth b <;> rfl
theorem b0m (b : Nat) : m0.cel b = none := by unfold M.cel; rw [a2o]; rfl
theorem Sim.start {P : Program} (w : World) : Sim P w ρ0 m0 w := {
 base := Below.refl _ _
 next := fun b _ => ⟨rfl, a2o b⟩
 blk := fun b B h => by rw [a2o] at h; cases h
 mvok := fun b c x h _ => by rw [b0m] at h; cases h
 own := fun b c _ _ _ _ h => by rw [b0m] at h; cases h
 ext := fun b c _ _ _ _ h => by rw [b0m] at h; cases h
 mown := fun b c _ _ _ _ h => by rw [a2o] at h; cases h
 }
theorem closed_calls {P : Program} (hP : Good P) {T : Tb} (hT : ∀ w0, TbOk P w0 T) {n : Nat} {g : FuncId} (hr : isTrue (arun P T n g [] m0) = true) {fn : Func} {c : Code} (hfn : P.funcs[g]? = some fn) (hb : fn.body = some c) (w : World) :
  Calls P g #[] w fun e w' => e = .returned (.bool true) ∧ Below w.heap.size w w' := by
 unfold isTrue at hr
 split at hr
 ·rename_i m' he
  refine (a1J (w0 := w) hP (hT w) he (ρ := ρ0) (vs := []) (l4 _) (Sim.start w) hfn hb).mono fun e w' ⟨u, ρ', h1, h2, h3, h4⟩ => ?_
  rw [conc_b] at h2
  cases h2
  exact ⟨h1, h4.base⟩
 ·cases hr
end Go.Am
