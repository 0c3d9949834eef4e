import Derived.Test.YtooooiidpaecmaaGreatDoorIaA
set_option linter.unusedVariables false
set_option linter.unusedSimpArgs false
/- Bytes in rows of their own. -/
namespace Go.Proofs.YtooooiidpaecmaaGreatDoor
open Go Go.Am
abbrev Bs := List UInt8
theorem f86 (z : List AV) : y4 0 z = [] := rfl
theorem f8d (b o l c : Nat) (q : Bool) : d7 Tryz.prog .eql B3 (.slice b o l c q) i7 = some (.b false) := by kernel_rfl
theorem e6f {m : M} {e : TypeId} {x : AV} {len : Nat} {cells : List AV} {o : Option Nat} (h : SlAt m e 1 x len cells o) {k : Nat} (hk : k < len) : ∃ b cap, x = .slice b 0 len cap false ∧ o = some b ∧ m.rd b k = cells[k]? := by
 cases h with
 | nil => omega
 | row h hl hj hc h0 => exact ⟨_, _, rfl, rfl, by rw [h.rd, List.getElem?_append_left (by omega)]⟩
theorem f1I {m : M} {e e' sz bytes k b : Nat} {z new cells : List AV} {y : AV} (hb : At m b e' true cells) (hw : Wf m) (hy : Rds m y sz k new) (h0 : 0 < k) (hroom : E2 k bytes = true) :
  ∃ m', X9 e sz bytes z (.cst (.slice b 0 0 0 false)) (.cst y) .leaf m = some (.slice m.next 0 k k false, m') ∧ SlAt m' e sz (.slice m.next 0 k k false) k new (some m.next) ∧ Keep m m' (fun _ => False) ∧ m'.next = m.next + 1 := by
 obtain ⟨hy1, hy2, hy3⟩ := hy
 obtain ⟨s', m', h1, h2, h3, h4⟩ := a8d (e := e) (z := z) hy3 h0 hw
 have hs : s' = .slice m.next 0 k k false := by
  unfold G7 at h1
  rw [u9] at h1
  cases h1
  rfl
 subst hs
 have hrd : m.rdN b 0 0 = some [] := by rw [hb.rdN (by omega)]; simp
 obtain ⟨c, c1, c2, c3, c4, c5, c6, c7⟩ := hb.row
 refine ⟨m', ?_, h2, h3, h4⟩
 show (ob (Am.lenA y) fun k => ob (G5 m sz k y) fun new => I5 e sz bytes z m (.slice b 0 0 0 false) k new) = _
 rw [hy1, A8, hy2, A8, b6D]
 rw [Nat.zero_add, v7, decide_eq_false (by omega), o7, hroom, l5, M.cel_some.2 c1, A8, Nat.zero_mul, hrd, A8, c4, c6]
 exact h1
theorem e5W {m : M} {l : Bs} {e : TypeId} {b : Nat} (h : SlAt m e 1 (.slice b 0 l.length l.length false) l.length (i5 l) (some b)) : BsAt m (.slice b 0 l.length l.length false) l b := by
 have hy : (i5 l).length = l.length := by simp [i5]
 cases h with
 | row h hl hj hc h0 => exact .row h.r (by simp; omega) (by rw [List.drop_zero, List.take_append_of_le_length (by omega), List.take_of_length_le (by omega)])
section
variable {m : M}
theorem a19 (n : Nat) : A3 (.y n) = some [.y n] := rfl
theorem a8g (n : Nat) (a : AV) : (List.replicate n [a]).flatten = List.replicate n a := by
 induction n with
 | zero => rfl
 | succ n ih => rw [List.replicate_succ, List.flatten_cons, ih]; rfl
theorem Z0 (n : Nat) (x : UInt8) : i5 (List.replicate n x) = List.replicate n (.y x.toNat) := by
 unfold i5
 rw [List.map_replicate]
end
abbrev uB : Nat := j7 + 1
abbrev BtU (m : M) (s : AV) (l : Bs) (b : Nat) : Prop := Bt m j7 s l b
theorem Y9 {m : M} {s : AV} {l : Bs} {b : Nat} (hw : Wf m) (h : BsAt m s l b) (h0 : l ≠ []) (hl : l.length ≤ 1000000) :
  ∃ m' s' b', BtU m' s' l b' ∧ SlAt m' j7 1 s' l.length (i5 l) (some b') ∧ Keep m m' (fun _ => False) ∧ m.next ≤ b' ∧ Ran Tryz.prog tb X5 [s] m s' m' := by
 have hpos : 0 < l.length := List.length_pos_iff.2 h0
 obtain ⟨m1, ea, ha, hk1, hn1⟩ := l8 hw j7 0 []
 have hw1 := hk1.wf
 have h1 := h.keep hw hk1 fun h => h
 obtain ⟨m2, hr, hs2, hk2, hn2⟩ := f1I (e := j7) (bytes := 1) (z := [.y 0]) ha hw1 h1.src hpos (a0c (by omega) (by omega))
 have hb31 : d7 Tryz.prog .eql B3 s i7 = some (.b false) := by cases h; exact f8d _ _ _ _ _
 refine ⟨m2, _, _, ⟨e5W hs2, hs2.kd⟩, hs2, hk1.ft hk2, by omega, ?_⟩
 refine WpF.go g0Z ?_
 simp -implicitDefEqProofs only [g2b, d8l, e1M, d6i, hb31, f86, ea, hr, ↓reduceIte, Nat.reduceEqDiff, wA, wB, wC, wD]
structure Bu (m : M) (s : AV) (l : Bs) (b : Nat) : Prop where
 bs : BsAt m s l b
 kd : Am.kd m b uB ∨ Am.kd m b roK
end Go.Proofs.YtooooiidpaecmaaGreatDoor
