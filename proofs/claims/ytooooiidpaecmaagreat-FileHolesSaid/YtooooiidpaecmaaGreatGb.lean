import Derived.Test.YtooooiidpaecmaaGreatIaB
set_option linter.unusedVariables false
set_option linter.unusedSimpArgs false
/- Bytes in rows of their own. -/
namespace Go.Proofs.YtooooiidpaecmaaGreat
open Go Go.Am
abbrev Bs := List UInt8
theorem repl_0 (z : List AV) : repl 0 z = [] := rfl
theorem b_sl31 (b o l c : Nat) (q : Bool) : binS Tryz.prog .eql ty_suint8 (.slice b o l c q) nils = some (.b false) := by kernel_rfl
theorem elem1 {m : M} {e : TypeId} {x : AV} {len : Nat} {cells : List AV} {o : Option Nat} (h : SlAt m e 1 x len cells o) {k : Nat} (hk : k < len) : ∃ b cap, x = .slice b 0 len cap false ∧ o = some b ∧ m.rd b k = cells[k]? := by
 cases h with
 | nil => omega
 | row h hl hj hc h0 => exact ⟨_, _, rfl, rfl, by rw [h.rd, List.getElem?_append_left (by omega)]⟩
theorem run_clone0 {m : M} {e e' sz bytes k b : Nat} {z new cells : List AV} {y : AV} (hb : At m b e' true cells) (hw : Wf m) (hy : Rds m y sz k new) (h0 : 0 < k) (hroom : room k bytes = true) :
  ∃ m', rApp e sz bytes z (.cst (.slice b 0 0 0 false)) (.cst y) .leaf m = some (.slice m.next 0 k k false, m') ∧ SlAt m' e sz (.slice m.next 0 k k false) k new (some m.next) ∧ Keep m m' (fun _ => False) ∧ m'.next = m.next + 1 := by
 obtain ⟨hy1, hy2, hy3⟩ := hy
 obtain ⟨s', m', h1, h2, h3, h4⟩ := appNew_at (e := e) (z := z) hy3 h0 hw
 have hs : s' = .slice m.next 0 k k false := by
  unfold appNew at h1
  rw [fc_eq] at h1
  cases h1
  rfl
 subst hs
 have hrd : m.rdN b 0 0 = some [] := by rw [hb.rdN (by omega)]; simp
 obtain ⟨c, c1, c2, c3, c4, c5, c6, c7⟩ := hb.row
 refine ⟨m', ?_, h2, h3, h4⟩
 show (ob (Am.lenA y) fun k => ob (firstA m sz k y) fun new => aappend e sz bytes z m (.slice b 0 0 0 false) k new) = _
 rw [hy1, v_ob, hy2, v_ob, aappend_sl]
 rw [Nat.zero_add, nble, decide_eq_false (by omega), bc_false, hroom, bc_true, M.cel_some.2 c1, v_ob, Nat.zero_mul, hrd, v_ob, c4, c6]
 exact h1
theorem bs_of {m : M} {l : Bs} {e : TypeId} {b : Nat} (h : SlAt m e 1 (.slice b 0 l.length l.length false) l.length (ycells l) (some b)) : BsAt m (.slice b 0 l.length l.length false) l b := by
 have hy : (ycells l).length = l.length := by simp [ycells]
 cases h with
 | row h hl hj hc h0 => exact .row h.r (by simp; omega) (by rw [List.drop_zero, List.take_append_of_le_length (by omega), List.take_of_length_le (by omega)])
section
variable {m : M}
theorem cells_y (n : Nat) : cellsO (.y n) = some [.y n] := rfl
theorem rep_flat (n : Nat) (a : AV) : (List.replicate n [a]).flatten = List.replicate n a := by
 induction n with
 | zero => rfl
 | succ n ih => rw [List.replicate_succ, List.flatten_cons, ih]; rfl
theorem ycells_rep (n : Nat) (x : UInt8) : ycells (List.replicate n x) = List.replicate n (.y x.toNat) := by
 unfold ycells
 rw [List.map_replicate]
end
abbrev uB : Nat := ty_uint8 + 1
abbrev BtU (m : M) (s : AV) (l : Bs) (b : Nat) : Prop := Bt m ty_uint8 s l b
theorem clone_ran2 {m : M} {s : AV} {l : Bs} {b : Nat} (hw : Wf m) (h : BsAt m s l b) (h0 : l ≠ []) (hl : l.length ≤ 1000000) :
  ∃ m' s' b', BtU m' s' l b' ∧ SlAt m' ty_uint8 1 s' l.length (ycells l) (some b') ∧ Keep m m' (fun _ => False) ∧ m.next ≤ b' ∧ Ran Tryz.prog tb fn_a9 [s] m s' m' := by
 have hpos : 0 < l.length := List.length_pos_iff.2 h0
 obtain ⟨m1, ea, ha, hk1, hn1⟩ := addL_at hw ty_uint8 0 []
 have hw1 := hk1.wf
 have h1 := h.keep hw hk1 fun h => h
 obtain ⟨m2, hr, hs2, hk2, hn2⟩ := run_clone0 (e := ty_uint8) (bytes := 1) (z := [.y 0]) ha hw1 h1.src hpos (room_of (by omega) (by omega))
 have hb31 : binS Tryz.prog .eql ty_suint8 s nils = some (.b false) := by cases h; exact b_sl31 _ _ _ _ _
 refine ⟨m2, _, _, ⟨bs_of hs2, hs2.kd⟩, hs2, hk1.ft hk2, by omega, ?_⟩
 refine WpF.go at_a9 ?_
 simp -implicitDefEqProofs only [o_a9, r_a9_0, r_a9_1, r_a9_3, r_a9_0, r_a9_1, r_a9_3, r_a9_0, r_a9_1, r_a9_3, hb31, repl_0, ea, hr, ↓reduceIte, Nat.reduceEqDiff, wA, wB, wC, wD]
structure Bu (m : M) (s : AV) (l : Bs) (b : Nat) : Prop where
 bs : BsAt m s l b
 kd : Am.kd m b uB ∨ Am.kd m b roK
end Go.Proofs.YtooooiidpaecmaaGreat
