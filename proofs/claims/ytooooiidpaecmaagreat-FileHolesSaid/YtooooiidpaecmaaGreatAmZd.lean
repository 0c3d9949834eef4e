import Derived.Test.YtooooiidpaecmaaGreatAmZa
/- The abstract machine: bytes, rows of them, slices that are made and cloned, where values are not known. -/
namespace Go.Am
open Go Go.RowKit
theorem rep_get (z : List AV) : ∀ (n i : Nat) (v : AV), ((List.replicate n z).flatten)[i]? = some v → z[i % z.length]? = some v
 | 0, i, v, h => by cases h
 | n + 1, i, v, h => by
  rw [List.replicate_succ, List.flatten_cons] at h
  by_cases hi : i < z.length
  ·rw [List.getElem?_append_left hi] at h
   rw [Nat.mod_eq_of_lt hi]; exact h
  ·rw [List.getElem?_append_right (by omega)] at h
   have := rep_get z n _ _ h
   rw [Nat.mod_eq_sub_mod (by omega)]; exact this
theorem rep_len (z : List AV) (n : Nat) : ((List.replicate n z).flatten).length = n * z.length := by
 induction n with
 | zero => simp
 | succ n ih => rw [List.replicate_succ, List.flatten_cons, List.length_append, ih, Nat.succ_mul]; omega
theorem zeroAt_mod {z : List AV} {i : Nat} {v : AV} (h : z[i % z.length]? = some v) : zeroAt z i = v := by
 match z with
 | [] => cases h
 | [x] =>
  have : i % [x].length = 0 := by show i % 1 = 0; omega
  rw [this] at h
  show x = v
  simpa using h
 | x :: y :: z =>
  show (x :: y :: z).getD (i % (x :: y :: z).length) AV.undef = v
  rw [List.getD_eq_getElem?_getD, h]; rfl
theorem At.addZr {m : M} {e k : Nat} {z : List AV} (n : Nat) (hk : k = n * z.length) : At (m.addZ e k z) m.next e true ((List.replicate n z).flatten) := by
 refine ⟨_, by unfold M.addZ; rw [M.get_new, if_pos rfl], rfl, by rw [rep_len, hk], rfl, rfl, rfl, fun i v hv => ?_⟩
 rw [rd_eq, getP_leaf]
 exact zeroAt_mod (rep_get z n i v hv)
section
variable {P : Program} {T : Tb} {fr : Fr} {m : M}
theorem o_mksl (e sz bytes : Nat) (z : List AV) (l k : RO) : run (.mksl e sz bytes z l k) fr m = rMkSl e sz bytes z (.cst (ev l fr)) (.cst (ev k fr)) .leaf m := rfl
theorem v_mksl (e sz bytes : Nat) (z : List AV) {n : Nat} (h1 : n ≤ 1099511627776) (h2 : n * bytes ≤ 1099511627776) : rMkSl e sz bytes z (.cst (iv (n : Int))) (.cst (iv (n : Int))) .leaf m = some (.slice m.next 0 n n false, m.addZ e (n * sz) z) := by
 show bc (Nat.ble n n && (Nat.ble n 1099511627776 && Nat.ble (n * bytes) 1099511627776)) (fc (Nat.mul n sz) fun k => some (AV.slice m.next (nat_lit 0) n n false, m.new (.cells ⟨e, k, .leaf, z, none, false, true, false⟩))) none = _
 rw [nble, nble, nble, decide_eq_true (Nat.le_refl n), decide_eq_true h1, decide_eq_true h2]
 rw [show (true && (true && true)) = true from rfl, bc_true, fc_eq]
 rfl
theorem o_b2s (x : RO) : run (.b2s x) fr m = rB2S (.cst (ev x fr)) .leaf m := rfl
inductive BsAt (m : M) : AV → List UInt8 → Nat → Prop where
 | row {b off cap : Nat} {lim : Bool} {l : List UInt8} {cells : List AV} (h : AtR m b cells) (hl : off + l.length ≤ cells.length) (hc : (cells.drop off).take l.length = ycells l) : BsAt m (.slice b off l.length cap lim) l b
theorem BsAt.keep {m m' : M} {s : AV} {l : List UInt8} {b : Nat} {F : Nat → Prop} (h : BsAt m s l b) (hw : Wf m) (k : Keep m m' F) (hf : ¬ F b) : BsAt m' s l b := by
 cases h with
 | row h hl hc => exact .row (h.keep hw k hf) hl hc
theorem BsAt.lt {s : AV} {l : List UInt8} {b : Nat} (h : BsAt m s l b) (hw : Wf m) : b < m.next := by
 cases h with
 | row h hl hc => exact h.lt hw
theorem BsAt.len {s : AV} {l : List UInt8} {b : Nat} (h : BsAt m s l b) : lenK false s = some l.length := by cases h; rfl
theorem BsAt.run_b2s {s : AV} {l : List UInt8} {b : Nat} (h : BsAt m s l b) : rB2S (.cst s) .leaf m = some (tv l, m) := by
 cases h with
 | @row b off cap lim l cells h hl hc =>
  have e : m.rdN b off l.length = some (ycells l) := by rw [h.rdN hl, hc]
  by_cases h0 : l.length = 0
  ·have : l = [] := List.length_eq_zero_iff.1 h0
   subst this
   rfl
  show bc (Nat.beq l.length 0) (some (AV.p (.string ⟨#[]⟩), m)) (ob (m.rdN b off l.length) fun l => Option.rec (motive := fun _ => R) (bc (l.all symB) (some (.txt l, m)) none) (fun s => some (.p (.string ⟨s.toArray⟩), m)) (bytesUp l)) = _
  rw [show Nat.beq l.length 0 = false from by cases l with | nil => exact absurd rfl h0 | cons x l => rfl, bc_false, e, v_ob, bytesUp_y]
  rfl
theorem BsAt.src {s : AV} {l : List UInt8} {b : Nat} (h : BsAt m s l b) : Rds m s 1 l.length (ycells l) := by
 cases h with
 | @row b off cap lim l cells h hl hc =>
  refine ⟨rfl, ?_, by simp [ycells]⟩
  refine firstA_sl (by rw [Nat.mul_one, h.rdN hl, hc]) fun e => ?_
  rw [List.length_eq_zero_iff.1 e]; rfl
end
end Go.Am
