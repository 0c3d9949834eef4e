import Derived.Test.YthbfinjddaembaaGreatWt
import Derived.Test.YthbfinjddaembaaGreatWbA
set_option linter.unusedVariables false
set_option linter.unusedSimpArgs false
/- A part of a Commit: a descriptor, and its blocks. -/
namespace Go.Proofs.YthbfinjddaembaaGreat
open Go Go.Am
abbrev IsAt (m : M) (x : AV) (zs : List Int) (o : Option Nat) : Prop := SlAt m ty_int 1 x zs.length (zs.map iv) o
def datActs (tail : Nat) : Nat → List Bs → List Act
  | _, [] => []
  | u, t :: l => .wr (2 + (tail + u) % 9) t :: datActs tail (u + 1) l
def partActs (seq tail used : Nat) (ks : List Nat) (ts : List Bs) : List Act := .wr (2 + (tail + used) % 9) (descB seq ks) :: datActs tail (used + 1) ts
theorem datActs_take (tail : Nat) : ∀ (ts : List Bs) (u k : Nat) (h : k < ts.length), datActs tail u (ts.take (k + 1)) = datActs tail u (ts.take k) ++ [.wr (2 + (tail + (u + k)) % 9) ts[k]]
  | [], _, k, h => by cases h
  | t :: l, u, 0, h => by simp [datActs]
  | t :: l, u, k + 1, h => by
    have := datActs_take tail l (u + 1) k (by simpa using h)
    simp only [List.take_succ_cons, datActs, List.cons_append, List.getElem_cons_succ]
    rw [this, show u + 1 + k = u + (k + 1) by omega]
theorem datActs_split (tail u : Nat) (ts : List Bs) (k : Nat) : ∃ r, datActs tail u ts = datActs tail u (ts.take k) ++ r := by
  induction ts generalizing u k with
  | nil => exact ⟨[], by simp [datActs]⟩
  | cons t l ih =>
    cases k with
    | zero => exact ⟨datActs tail u (t :: l), rfl⟩
    | succ k =>
      obtain ⟨r, h⟩ := ih (u + 1) k
      exact ⟨r, by simp only [List.take_succ_cons, datActs, List.cons_append]; rw [h]⟩
section
variable {m : M} {lg d mb cb n w : Nat} {seq tail used : Nat} {S : Ds}
set_option maxHeartbeats 2000000 in
theorem part_ds {L : List Wr} {ks : List Nat} {x : AV} (hw : Wf m) (hg : LgAt m lg d mb seq tail used false) (h : DsAt m d cb S) (hB : S.Bd n w) (hn : n ≤ 10000000) (hw4 : w ≤ 300) (hx : WsAt m x L) (hks : L.map (·.1) = ks.map fun k => ((k : Nat) : Int)) (hk1 : ∀ k ∈ ks, k < 2 ^ 16) (h64 : ∀ e ∈ L, e.2.2.length = 64) (hseq : seq < 2 ^ 32) (ht : tail < 9) (hu : used + 1 + L.length ≤ 9)
    {Q : AV → M → Prop} (hQ : ∀ m' sq us, DsAt m' d cb (S.acts (partActs seq tail used ks (L.map (·.2.2)))) → LgAt m' lg d mb sq tail us (S.acts (partActs seq tail used ks (L.map (·.2.2)))).dead → ((S.acts (partActs seq tail used ks (L.map (·.2.2)))).dead = false → sq = seq + 1 ∧ us = used + 1 + L.length) → KeepK m m' (lgK :: devK) → Q (iv (S.acts (partActs seq tail used ks (L.map (·.2.2)))).err) m') :
    WpF Tryz.prog tb fn_d4 [.ptr lg 0, x] m Q := by
  have hxl : lenK false x = some L.length := hx.len
  have hkl : ks.length = L.length := by
    have := congrArg List.length hks
    simpa using this.symm
  refine WpF.go at_d4 ?_
  simp -implicitDefEqProofs only [o_d4, r_d4_0, r_d4_1, r_d4_2, hxl, ↓reduceIte, Nat.reduceEqDiff, Nat.reduceAdd, wA, wB, wC, wD]
  refine GX_loop (fun j fr mk => ∃ k y o, k ≤ L.length ∧ j = L.length - k ∧ (ev (tm 0) fr = .ptr lg 0 ∧ ev (tm 1) fr = x ∧ ev (tm 5) fr = y ∧ ev (tm 14) fr = x ∧ ev (tm 15) fr = iv (L.length : Nat) ∧ ev (tm 16) fr = iv k) ∧ IsAt mk y ((L.take k).map (·.1)) o ∧ (∀ bo, o = some bo → m.next ≤ bo) ∧ Keep m mk (fun _ => False)) (k := L.length) ⟨0, nils, none, Nat.zero_le _, rfl, by simp -implicitDefEqProofs only [nc0, ev_tm, ↓reduceIte, Nat.reduceEqDiff, nc0, and_self], .nil, (fun _ h => by cases h), Keep.refl hw _⟩ ?_
  rintro j fr mk ⟨k, y, o, hk, rfl, ⟨e0, e1, e5, e14, e15, e16⟩, hy, hoy, kk⟩
  by_cases hlt : k < L.length
  · obtain ⟨xb, xc, xq, hxe, hr⟩ := (hx.k0 hw kk).elem hlt
    have hck : L[k]? = some L[k] := List.getElem?_eq_getElem hlt
    generalize hE : L[k] = E at hr hck
    obtain ⟨m1, f1, a1, k1, n1⟩ := addZ_at kk.wf ty_api_Write 2 [iv 0, nils]
    obtain ⟨m2, f2, a2, k2, n2⟩ := a1.st k1.wf 0 [iv E.1, E.2.1]
    have r2 : m2.rd mk.next 0 = some (iv E.1) := by rw [a2.rd]; rfl
    obtain ⟨m3, f3, a3, k3, n3⟩ := addL_at k2.wf ty_int 1 [iv E.1]
    have src : SlAt m3 ty_int 1 (.slice m2.next 0 1 1 false) 1 [iv E.1] (some m2.next) := .row (junk := []) a3 rfl rfl (Nat.le_refl _) (by decide)
    have hlk := kk.next
    have hl1 := k1.next
    have hl2 := k2.next
    have hl3 := k3.next
    have hy3 := ((hy.keep kk.wf k1 fun _ _ h => h).keep k1.wf k2 fun bo hbo e => by have := hy.blk_lt kk.wf hbo; omega).keep k2.wf k3 fun _ _ h => h
    obtain ⟨y', m4, o', ea, hy4, k4, ho4⟩ := hy3.append (bytes := 8) (z := [iv 0]) k3.wf src.src (room_of (by simp; omega) (by omega))
    have hC : (k : Int) + 1 = ((k + 1 : Nat) : Int) := by omega
    have hEq : cellsO E.2.1 = some [E.2.1] := (hx.dt E (List.mem_of_getElem? hck)).cl
    rw [hxe] at e14
    simp -implicitDefEqProofs only [o_d4, r_d4_3, r_d4_4, r_d4_5, r_d4_6, e5, e14, e15, e16, show ((k : Int) < (L.length : Int)) = True from eq_true (by omega), v_iaS 2 xb 0 L.length xc xq hlt, hr, f1, f2, r2, f3, ea, b_add ty_int (show -9223372036854775808 ≤ (k : Int) + 1 by omega) (show (k : Int) + 1 ≤ 9223372036854775807 by omega), ↓reduceIte, Nat.reduceEqDiff, Nat.reduceAdd, Nat.reduceLeDiff, wA, wB, wC, wD]
    rw [← hxe] at e14
    have hoy' : ∀ bo, o' = some bo → m.next ≤ bo := fun bo hbo => by
      rcases ho4 with e | ⟨b', e, h5, _⟩
      · exact hoy bo (e ▸ hbo)
      · rw [e] at hbo; cases hbo; omega
    have kf : Keep m m4 fun _ => False := (((kk.tf k1).trans k2 fun x hx e => by omega).tf k3).trans k4 fun x hx e => absurd (hoy x e) (by omega)
    refine LK_n (k' := L.length - (k + 1)) (by omega) ⟨k + 1, y', o', by omega, rfl, by simp -implicitDefEqProofs only [e0, e1, e14, e15, hC, hxe, ev_tm, ↓reduceIte, Nat.reduceEqDiff, and_self], ?_, hoy', kf⟩
    have e : (L.take (k + 1)).map (·.1) = (L.take k).map (·.1) ++ [E.1] := by
      rw [List.take_add_one, hck]; simp
    rw [e]
    show SlAt m4 ty_int 1 y' ((L.take k).map (·.1) ++ [E.1]).length (((L.take k).map (·.1) ++ [E.1]).map iv) o'
    rw [List.length_append, List.map_append]
    exact hy4
  have hkL : k = L.length := by omega
  subst hkL
  rw [List.take_length] at hy
  have hyN : NsAt mk y ks o := by
    rw [hks] at hy
    have e : (ks.map fun k => ((k : Nat) : Int)).map iv = ks.map ivn := by rw [List.map_map]; rfl
    have hy' : SlAt mk ty_int 1 y (ks.map fun k => ((k : Nat) : Int)).length ((ks.map fun k => ((k : Nat) : Int)).map iv) o := hy
    rw [e, List.length_map] at hy'
    exact hy'
  have g0 := hg.kp hw (E := []) (S := []) kk.k0
  have d0 := h.k0 hw kk
  obtain ⟨m1, s1, b1, rb1, k1, hb1, r1⟩ := desc_ran kk.wf hyN hseq hk1 (by omega)
  have rbu : BtU m1 s1 (descB seq ks) b1 := ⟨rb1.bs, rb1.sl.kd⟩
  have g1 := g0.kp kk.wf (E := []) (S := []) k1.k0
  have d1 := d0.k0 kk.wf k1
  have q13 : mk.rd lg 13 = some (iv seq) := by rw [g0.rd]; rfl
  have q1 : mk.rd lg 1 = some (iv 64) := by rw [g0.rd]; rfl
  have q15 : m1.rd lg 15 = some (iv used) := by rw [g1.rd]; rfl
  have ra1 := at_ran (k := used) g1 (by omega) (by omega)
  have hlen64 : (descB seq ks).length = 64 := descB_len seq (by omega)
  obtain ⟨m2, d2, g2, k2, r2⟩ := lw_ds (k := 2 + (tail + used) % 9) k1.wf g1 d1 hB (by omega) (by omega) (by omega) (bu_of rbu) hlen64
  have hyq : aveq 40 y y = true := hy.aq
  have k02 : KeepK m m2 (lgK :: devK) := ((kk.tf k1).k0 (E := lgK :: devK) (S := [])).tk k2
  have hB2 : (S.wr (2 + (tail + used) % 9) (descB seq ks)).Bd (n + 1) (w + 1) := hB.wr _ hlen64
  generalize hS2 : S.wr (2 + (tail + used) % 9) (descB seq ks) = S2 at d2 g2 r2 hB2
  have hacts : S.acts (partActs seq tail used ks (L.map (·.2.2))) = S2.acts (datActs tail (used + 1) (L.map (·.2.2))) := by rw [← hS2]; rfl
  rw [hacts] at hQ
  cases hd2 : S2.dead with
  | true =>
    rw [err_t hd2] at r2
    rw [Ds.acts_dead hd2, err_t hd2, hd2] at hQ
    rw [hd2] at g2
    simp -implicitDefEqProofs only [o_d4, r_d4_3, r_d4_7, r_d4_8, r_d4_9, r_d4_10, e0, e5, e15, e16, show ((L.length : Int) < (L.length : Int)) = False from eq_false (by omega), q13, q1, r1.eq, q15, ra1.eq, r2.eq, eq70, ↓reduceIte, Nat.reduceEqDiff, Nat.reduceAdd, exists_eq_left', wA, wB, wC, wD]
    exact hQ m2 seq used d2 g2 (fun e => by cases e) k02
  | false =>
    rw [err_f hd2] at r2
    rw [hd2] at g2
    obtain ⟨m3, f3, a3, k3, n3⟩ := g2.st k2.wf 13 [iv (seq + 1 : Nat)]
    have a3 : LgAt m3 lg d mb (seq + 1) tail used false := a3
    have q2 : m2.rd lg 13 = some (iv seq) := by rw [g2.rd]; rfl
    have q3 : m3.rd lg 15 = some (iv used) := by rw [a3.rd]; rfl
    obtain ⟨m4, f4, a4, k4, n4⟩ := a3.st k3.wf 15 [iv (used + 1 : Nat)]
    have a4 : LgAt m4 lg d mb (seq + 1) tail (used + 1) false := a4
    have k34 : KeepK m2 m4 [lgK] := (k3.k1 (E := [lgK]) (S := []) g2.kd).tk (k4.k1 (E := [lgK]) (S := []) a3.kd)
    have d4 := d2.kp k2.wf k34
    have k04 : KeepK m m4 (lgK :: devK) := k02.tk k34
    have hC1 : (seq : Int) + 1 = ((seq + 1 : Nat) : Int) := by omega
    have hC2 : (used : Int) + 1 = ((used + 1 : Nat) : Int) := by omega
    simp -implicitDefEqProofs only [o_d4, r_d4_3, r_d4_7, r_d4_8, r_d4_9, r_d4_11, r_d4_12, r_d4_13, e0, e1, e5, e15, e16, show ((L.length : Int) < (L.length : Int)) = False from eq_false (by omega), q13, q1, r1.eq, q15, ra1.eq, r2.eq, q2, b_add ty_int (show -9223372036854775808 ≤ (seq : Int) + 1 by omega) (show (seq : Int) + 1 ≤ 9223372036854775807 by omega), hC1, f3, q3, b_add ty_int (show -9223372036854775808 ≤ (used : Int) + 1 by omega) (show (used : Int) + 1 ≤ 9223372036854775807 by omega), hC2, f4, hxl, ↓reduceIte, Nat.reduceEqDiff, Nat.reduceAdd, exists_eq_left', wA, wB, wC, wD]
    refine GX_loop (fun j fr mk => ∃ k, k ≤ L.length ∧ j = L.length - k ∧ (ev (tm 0) fr = .ptr lg 0 ∧ ev (tm 72) fr = x ∧ ev (tm 73) fr = iv (L.length : Nat) ∧ ev (tm 74) fr = iv k) ∧ (S2.acts (datActs tail (used + 1) ((L.map (·.2.2)).take k))).dead = false ∧ DsAt mk d cb (S2.acts (datActs tail (used + 1) ((L.map (·.2.2)).take k))) ∧ (S2.acts (datActs tail (used + 1) ((L.map (·.2.2)).take k))).Bd (n + 1 + k) (w + 1 + k) ∧ LgAt mk lg d mb (seq + 1) tail (used + 1 + k) false ∧ KeepK m mk (lgK :: devK)) (k := L.length) ⟨0, Nat.zero_le _, rfl, by simp -implicitDefEqProofs only [e0, nc0, ev_tm, ↓reduceIte, Nat.reduceEqDiff, nc0, and_self], hd2, d4, hB2, a4, k04⟩ ?_
    rintro j fr mk ⟨k, hk, rfl, ⟨e0, e72, e73, e74⟩, hdk, dk, hBk, gk, kk⟩
    by_cases hlt : k < L.length
    · obtain ⟨xb, xc, xq, hxe, hr⟩ := (hx.kp hw kk).elem hlt
      have hck : L[k]? = some L[k] := List.getElem?_eq_getElem hlt
      have hct : ((L.map (·.2.2)).take (k + 1)) = ((L.map (·.2.2)).take k) ++ [L[k].2.2] := by
        rw [List.take_add_one, List.getElem?_map, hck]; rfl
      have htk := datActs_take tail (L.map (·.2.2)) (used + 1) k (by simpa using hlt)
      have htE : (L.map (·.2.2))[k]'(by simpa using hlt) = L[k].2.2 := by simp
      rw [htE] at htk
      have hE64 := h64 L[k] (List.mem_of_getElem? hck)
      obtain ⟨eb, heb⟩ := ((hx.dt L[k] (List.mem_of_getElem? hck)).kp hw kk).bu hE64
      have hEq : cellsO L[k].2.1 = some [L[k].2.1] := (hx.dt L[k] (List.mem_of_getElem? hck)).cl
      have hEa : aveq 40 L[k].2.1 L[k].2.1 = true := (hx.dt L[k] (List.mem_of_getElem? hck)).aq
      generalize hE : L[k] = E at hr hck htk hE64 heb hEq hEa
      obtain ⟨m1, f1, a1, k1, n1⟩ := addZ_at kk.wf ty_api_Write 2 [iv 0, nils]
      obtain ⟨m2', f2, a2, k2', n2'⟩ := a1.st k1.wf 0 [iv E.1, E.2.1]
      have r2' : m2'.rd mk.next 1 = some E.2.1 := by rw [a2.rd]; rfl
      have hl1 := k1.next
      have k12 : Keep mk m2' fun _ => False := k1.trans k2' fun x hx e => by omega
      have gk2 := gk.kp kk.wf (E := []) (S := []) k12.k0
      have dk2 := dk.k0 kk.wf k12
      have heb2 := heb.kp kk.wf (E := []) (S := []) k12.k0
      have q15 : m2'.rd lg 15 = some (iv (used + 1 + k : Nat)) := by rw [gk2.rd]; rfl
      have ra := at_ran (k := used + 1 + k) gk2 (by omega) (by omega)
      obtain ⟨m3', d3, g3, k3', r3⟩ := lw_ds (k := 2 + (tail + (used + 1 + k)) % 9) k12.wf gk2 dk2 hBk (by omega) (by omega) (by omega) heb2 hE64
      have hS3 : (S2.acts (datActs tail (used + 1) ((L.map (·.2.2)).take k))).wr (2 + (tail + (used + 1 + k)) % 9) E.2.2 = S2.acts (datActs tail (used + 1) ((L.map (·.2.2)).take (k + 1))) := by
        rw [htk, Ds.acts_app]; rfl
      have hB3 : (S2.acts (datActs tail (used + 1) ((L.map (·.2.2)).take (k + 1)))).Bd (n + 1 + (k + 1)) (w + 1 + (k + 1)) := by
        rw [← hS3]; exact hBk.wr _ hE64
      rw [hS3] at d3 g3 r3
      have k03 : KeepK m m3' (lgK :: devK) := (kk.tf k12).tk k3'
      have hC : (k : Int) + 1 = ((k + 1 : Nat) : Int) := by omega
      rw [hxe] at e72
      cases hd3 : (S2.acts (datActs tail (used + 1) ((L.map (·.2.2)).take (k + 1)))).dead with
      | true =>
        obtain ⟨r, hsp⟩ := datActs_split tail (used + 1) (L.map (·.2.2)) (k + 1)
        have hfin : S2.acts (datActs tail (used + 1) (L.map (·.2.2))) = S2.acts (datActs tail (used + 1) ((L.map (·.2.2)).take (k + 1))) := by
          rw [hsp, Ds.acts_app]
          exact Ds.acts_dead hd3 _
        rw [hfin, err_t hd3, hd3] at hQ
        rw [err_t hd3] at r3
        rw [hd3] at g3
        simp -implicitDefEqProofs only [o_d4, r_d4_14, r_d4_15, r_d4_16, r_d4_17, r_d4_18, e0, e72, e73, e74, show ((k : Int) < (L.length : Int)) = True from eq_true (by omega), v_iaS 2 xb 0 L.length xc xq hlt, hr, f1, f2, q15, ra.eq, r2', r3.eq, hEa, eq70, ↓reduceIte, Nat.reduceEqDiff, Nat.reduceAdd, exists_eq_left', wA, wB, wC, wD]
        exact hQ m3' (seq + 1) (used + 1 + k) d3 g3 (fun e => by cases e) k03
      | false =>
        rw [err_f hd3] at r3
        rw [hd3] at g3
        have q15b : m3'.rd lg 15 = some (iv (used + 1 + k : Nat)) := by rw [g3.rd]; rfl
        obtain ⟨m4', f4', a4', k4', n4'⟩ := g3.st k3'.wf 15 [iv (used + 1 + (k + 1) : Nat)]
        have a4' : LgAt m4' lg d mb (seq + 1) tail (used + 1 + (k + 1)) false := a4'
        have kk4 := k4'.k1 (E := [lgK]) (S := []) g3.kd
        have hC3 : ((used + 1 + k : Nat) : Int) + 1 = ((used + 1 + (k + 1) : Nat) : Int) := by omega
        simp -implicitDefEqProofs only [o_d4, r_d4_14, r_d4_15, r_d4_16, r_d4_17, r_d4_19, r_d4_20, e0, e72, e73, e74, show ((k : Int) < (L.length : Int)) = True from eq_true (by omega), v_iaS 2 xb 0 L.length xc xq hlt, hr, f1, f2, q15, ra.eq, r2', r3.eq, hEa, q15b, b_add ty_int (show -9223372036854775808 ≤ ((used + 1 + k : Nat) : Int) + 1 by omega) (show ((used + 1 + k : Nat) : Int) + 1 ≤ 9223372036854775807 by omega), hC3, f4', b_add ty_int (show -9223372036854775808 ≤ (k : Int) + 1 by omega) (show (k : Int) + 1 ≤ 9223372036854775807 by omega), ↓reduceIte, Nat.reduceEqDiff, Nat.reduceAdd, exists_eq_left', wA, wB, wC, wD]
        rw [← hxe] at e72
        exact LK_n (k' := L.length - (k + 1)) (by omega) ⟨k + 1, by omega, rfl, by simp -implicitDefEqProofs only [e0, e72, e73, hC, hxe, ev_tm, ↓reduceIte, Nat.reduceEqDiff, and_self], hd3, d3.kp k3'.wf kk4, hB3, a4', k03.tk kk4⟩
    · have hkL : k = L.length := by omega
      subst hkL
      have hall : ((L.map (·.2.2)).take L.length) = L.map (·.2.2) := by
        rw [List.take_of_length_le (by simp)]
      rw [hall] at hdk dk
      rw [hdk, err_f hdk] at hQ
      simp -implicitDefEqProofs only [o_d4, r_d4_14, r_d4_21, e73, e74, show ((L.length : Int) < (L.length : Int)) = False from eq_false (by omega), ↓reduceIte, wA, wB, wC, wD]
      exact hQ mk (seq + 1) (used + 1 + L.length) dk gk (fun _ => ⟨rfl, rfl⟩) kk
end
noncomputable def r_Keys_0 : List CO := [
  .op (some (pth 1)) none (.box 82 (tm 0)),
  .op (some (pth 2)) none (.mv (.cst nilf))]
noncomputable def r_Keys_1 : List CO := [
  .op (some (pth 3)) none (.fn 92 [(tm 1)]),
  .op (some (pth 2)) none (.mv (tm 3))]
noncomputable def c_Keys : CC := (.seq (.reg r_Keys_0) (.seq (.reg r_Keys_1) .ret))
theorem at_Keys : FnAt Tryz.prog tb fn_Keys c_Keys 4 [.tmp 2] := fnAt_of tb_fs Tryz.func53 rfl (by kernel_rfl) (by kernel_rfl) rfl rfl
noncomputable def k_Keys_1 : CC := (.seq (.reg r_Keys_1) .ret)
theorem o_Keys : (∀ Q fr m, GX Tryz.prog tb k_Keys_1 Q fr m = GX Tryz.prog tb (.seq (.reg r_Keys_1) .ret) Q fr m) ∧
  (∀ Q fr m, GX Tryz.prog tb c_Keys Q fr m = GX Tryz.prog tb (.seq (.reg r_Keys_0) k_Keys_1) Q fr m) := ⟨fun _ _ _ => rfl, fun _ _ _ => rfl⟩
abbrev Pe := Nat × AV × Bs × Nat
def pal (P : List Pe) : Al := P.map fun e => (e.1, e.2.1)
structure PmAt (m : M) (mb : Nat) (P : List Pe) : Prop where
  mp : MpAt m mb (pal P)
  da : ∀ e ∈ P, BtU m e.2.1 e.2.2.1 e.2.2.2
  nd : (P.map (·.1)).Nodup
  rg : ∀ e ∈ P, e.1 < 60 ∧ e.2.2.1.length = 64
theorem PmAt.kp {m m' : M} {mb : Nat} {P : List Pe} {E S : List Nat} (h : PmAt m mb P) (hw : Wf m) (k : KeepK m m' E S) (hS : mb ∉ S := by simp) (hE : uB ∉ E := by decide) (h0 : 0 ∉ E := by decide) : PmAt m' mb P :=
  ⟨h.mp.kp hw k hS h0, fun e he => (h.da e he).kp hw k hE, h.nd, h.rg⟩
theorem PmAt.k0 {m m' : M} {mb : Nat} {P : List Pe} (h : PmAt m mb P) (hw : Wf m) (k : Keep m m' fun _ => False) : PmAt m' mb P := h.kp hw (E := []) (S := []) k.k0
def pget (P : List Pe) (k : Nat) : Option Pe := P.find? fun e => decide (e.1 = k)
theorem pget_some {P : List Pe} {k : Nat} {e : Pe} (h : pget P k = some e) : e ∈ P ∧ e.1 = k := by
  unfold pget at h
  exact ⟨List.mem_of_find?_eq_some h, by simpa using List.find?_some h⟩
theorem lkp_pal (P : List Pe) (k : Nat) : lkp (pal P) k = (pget P k).map (·.2.1) := by
  induction P with
  | nil => rfl
  | cons e l ih =>
    show (if e.1 = k then some e.2.1 else lkp (pal l) k) = _
    unfold pget
    rw [List.find?_cons]
    by_cases h : e.1 = k
    · rw [if_pos h, decide_eq_true h]; rfl
    · rw [if_neg h, decide_eq_false h]; exact ih
theorem pget_mem {P : List Pe} {e : Pe} (h : e ∈ P) : ∃ e', pget P e.1 = some e' := by
  unfold pget
  cases h2 : P.find? fun x => decide (x.1 = e.1) with
  | some e' => exact ⟨e', rfl⟩
  | none =>
    rw [List.find?_eq_none] at h2
    exact absurd (by simp) (h2 e h)
def pbs (P : List Pe) (k : Nat) : Option Bs := (pget P k).map (·.2.2.1)
noncomputable def pks (P : List Pe) : List Nat := (Sk (pal P)).map Int.toNat
theorem pks_cast (P : List Pe) : (pks P).map (fun k => ((k : Nat) : Int)) = Sk (pal P) := by
  unfold pks
  rw [List.map_map]
  conv => rhs; rw [← List.map_id (Sk (pal P))]
  apply List.map_congr_left
  intro z hz
  obtain ⟨e, _, rfl⟩ := mem_Sk.1 hz
  simp
theorem mem_pks {P : List Pe} {k : Nat} : k ∈ pks P ↔ ∃ e, pget P k = some e := by
  unfold pks
  rw [List.mem_map]
  constructor
  · rintro ⟨z, hz, rfl⟩
    obtain ⟨e, he, rfl⟩ := mem_Sk.1 hz
    obtain ⟨x, hx, rfl⟩ := List.mem_map.1 he
    exact pget_mem hx
  · rintro ⟨e, he⟩
    obtain ⟨h1, h2⟩ := pget_some he
    exact ⟨(k : Int), mem_Sk.2 ⟨(e.1, e.2.1), List.mem_map_of_mem (f := fun e : Pe => (e.1, e.2.1)) h1, by rw [h2]⟩, by simp⟩
theorem len_pks (P : List Pe) : (pks P).length = P.length := by
  unfold pks
  rw [List.length_map, len_Sk]
  unfold pal
  rw [List.length_map]
section
variable {m : M} {lg d mb : Nat} {seq tail used : Nat} {over : Bool} {P : List Pe}
theorem keys_ran (hw : Wf m) : ∃ m' B, At m' B 82 true [.map mb] ∧ Keep m m' (fun _ => False) ∧ m.next ≤ B ∧ Ran Tryz.prog tb fn_Keys [.map mb] m (.func 92 [.ptr B 0]) m' := by
  obtain ⟨m1, e1, a1, k1, n1⟩ := addL_at hw 82 1 [.map mb]
  refine ⟨m1, m.next, a1, k1, Nat.le_refl _, ?_⟩
  refine WpF.go at_Keys ?_
  simp -implicitDefEqProofs only [o_Keys, r_Keys_0, r_Keys_1, r_Keys_0, r_Keys_1, e1, ↓reduceIte, Nat.reduceEqDiff, wA, wB, wC, wD]
theorem known_ran {g : FuncId} {fn : Func} {args : List AV} {m m' : M} {v : AV} (hf : Tryz.prog.funcs[g]? = some fn) (hit : tb.it g args m = some (some (v, m'))) : Ran Tryz.prog tb g args m v m' :=
  WpF_known (by rw [tb_fs]; exact tab_get hf) hit ⟨rfl, rfl⟩
theorem sortedP (hw : Wf m) (h : PmAt m mb P) {B : Nat} (hB : At m B 82 true [.map mb]) (hP : P.length ≤ 1000000) :
    ∃ m' x, (P = [] ∧ x = nils ∨ ∃ b, x = .slice b 0 P.length P.length false ∧ At m' b ty_int false ((pks P).map ivn) ∧ m.next ≤ b) ∧ Keep m m' (fun _ => False) ∧ Ran Tryz.prog tb fn_Sorted [.func 92 [.ptr B 0]] m x m' := by
  have hs := sorted_known (P := Tryz.prog) (g := 52) (et := 3) (kf := 92) hB h.mp
  have hs : tb.it 52 [.func 92 [.ptr B 0]] m = some (sortedR 3 m (ents (pal P))) := hs
  have hlen : (pal P).length = P.length := List.length_map ..
  by_cases h0 : P = []
  · subst h0
    have e0 : sortedR 3 m (ents (pal [])) = some (nils, m) := rfl
    rw [e0] at hs
    exact ⟨m, nils, .inl ⟨rfl, rfl⟩, Keep.refl hw _, known_ran Tryz.func52 hs⟩
  · obtain ⟨m', e, ha, hk⟩ := sortedR_at (m := m) (L := pal P) 3 (fun e => h0 (by simpa [pal] using e)) (by omega) (fun e he => by
      obtain ⟨x, hx, rfl⟩ := List.mem_map.1 he
      have := (h.rg x hx).1
      show x.1 ≤ _
      omega) hw
    rw [e, hlen] at hs
    refine ⟨m', _, .inr ⟨m.next, rfl, ?_, Nat.le_refl _⟩, hk, known_ran Tryz.func52 hs⟩
    have : (pks P).map ivn = (Sk (pal P)).map iv := by
      rw [← pks_cast, List.map_map]; rfl
    rw [this]
    exact ha
noncomputable def plist (P : List Pe) : List (Int × Bs) := (pks P).map fun k => (((k : Nat) : Int), (pbs P k).getD [])
end
theorem wcells_app (L K : List Wr) : wcells (L ++ K) = wcells L ++ wcells K := List.flatMap_append
theorem ws_of {m : M} {x : AV} {L : List Wr} {o : Option Nat} (h : SlAt m ty_api_Write 2 x L.length (wcells L) o) (hd : ∀ e ∈ L, DtAt m e.2.1 e.2.2) : WsAt m x L := by
  refine ⟨h.len, fun hn => ?_, hd⟩
  generalize hN : L.length = N at h ⊢
  generalize hC : wcells L = C at h ⊢
  cases h with
  | nil => exact absurd (List.length_eq_zero_iff.1 hN) hn
  | row h1 h2 h3 h4 h5 => exact ⟨_, _, _, _, rfl, h1.r, .inl h1.kd, by omega⟩
theorem dt_of {m : M} {s : AV} {t : Bs} {b : Nat} (h : BtU m s t b) : DtAt m s t := ⟨h.bs.len, h.bs.cells1, h.bs.aq, fun _ => ⟨b, bu_of h⟩⟩
section
variable {m : M} {lg d mb : Nat} {seq tail used : Nat} {over : Bool} {P : List Pe}
set_option maxHeartbeats 1000000 in
theorem pending_ok (hw : Wf m) (hg : LgAt m lg d mb seq tail used over) (h : PmAt m mb P) (hP : P.length ≤ 1000) :
    ∃ m' x L, WsAt m' x L ∧ L.map (fun e => (e.1, e.2.2)) = plist P ∧ (∀ e ∈ L, ∃ b, BtU m' e.2.1 e.2.2 b ∧ m.next ≤ b) ∧ Keep m m' (fun _ => False) ∧ Ran Tryz.prog tb fn_c9 [.ptr lg 0] m x m' := by
  have key : WpF Tryz.prog tb fn_c9 [.ptr lg 0] m fun x m' => ∃ L, WsAt m' x L ∧ L.map (fun e => (e.1, e.2.2)) = plist P ∧ (∀ e ∈ L, ∃ b, BtU m' e.2.1 e.2.2 b ∧ m.next ≤ b) ∧ Keep m m' (fun _ => False) := by
    obtain ⟨m1, B, hB, k1, n1, r1⟩ := keys_ran (mb := mb) hw
    obtain ⟨m2, x0, hx0, k2, r2⟩ := sortedP k1.wf (h.k0 hw k1) hB (by omega)
    have k02 := k1.tf k2
    have hlen0 : lenK false x0 = some P.length := by
      rcases hx0 with ⟨rfl, rfl⟩ | ⟨b, rfl, _⟩
      · rfl
      · exact len_sl _ _ _ _ _
    have f0 : binS Tryz.prog .eql ty_pwal_Log (.ptr lg 0) nilp = some (.b false) := by kernel_rfl
    have q16 : m.rd lg 16 = some (.map mb) := by rw [hg.rd]; rfl
    refine WpF.go at_c9 ?_
    simp -implicitDefEqProofs only [o_c9, r_c9_0, r_c9_1, r_c9_3, r_c9_4, f0, q16, r1.eq, r2.eq, hlen0, ↓reduceIte, Nat.reduceEqDiff, wA, wB, wC, wD]
    refine GX_loop (fun j fr mk => ∃ k y o L, k ≤ P.length ∧ j = P.length - k ∧ (ev (tm 0) fr = .ptr lg 0 ∧ ev (tm 3) fr = y ∧ ev (tm 13) fr = x0 ∧ ev (tm 14) fr = iv (P.length : Nat) ∧ ev (tm 15) fr = iv k) ∧ SlAt mk ty_api_Write 2 y L.length (wcells L) o ∧ (∀ bo, o = some bo → m2.next ≤ bo) ∧ L.map (fun e => (e.1, e.2.2)) = (plist P).take k ∧ (∀ e ∈ L, ∃ b, BtU mk e.2.1 e.2.2 b ∧ m.next ≤ b) ∧ Keep m2 mk (fun _ => False)) (k := P.length) ⟨0, nils, none, [], Nat.zero_le _, rfl, by simp -implicitDefEqProofs only [nc0, ev_tm, ↓reduceIte, Nat.reduceEqDiff, nc0, and_self], .nil, (fun _ h => by cases h), rfl, (fun e he => by cases he), Keep.refl k2.wf _⟩ ?_
    rintro j fr mk ⟨k, y, o, L, hk, rfl, ⟨e0, e3, e13, e14, e15⟩, hy, hoy, hL, hLd, kk2⟩
    have kk := k02.tf kk2
    have hl02 := k02.next
    by_cases hlt : k < P.length
    · obtain ⟨b0, rfl, ha0, hn0⟩ : ∃ b, x0 = .slice b 0 P.length P.length false ∧ At m2 b ty_int false ((pks P).map ivn) ∧ m1.next ≤ b := by
        rcases hx0 with ⟨rfl, _⟩ | hx0
        · simp at hlt
        · exact hx0
      have ha0k := ha0.keep k2.wf kk2 fun h => h
      have hkl : k < (pks P).length := by rw [len_pks]; exact hlt
      generalize hz : (pks P)[k] = z
      have hzk : (pks P)[k]? = some z := by rw [← hz]; exact List.getElem?_eq_getElem hkl
      have qz : mk.rd b0 k = some (iv (z : Nat)) := by
        rw [ha0k.rd, List.getElem?_map, hzk]; rfl
      obtain ⟨e, hez⟩ := mem_pks.1 (List.mem_of_getElem? hzk)
      obtain ⟨hem, hek⟩ := pget_some hez
      have hPk := h.k0 hw kk
      have gk := hg.kp hw (E := []) (S := []) kk.k0
      have q16k : mk.rd lg 16 = some (.map mb) := by rw [gk.rd]; rfl
      have hlook := hPk.mp.look nils z
      rw [lkp_pal, hez] at hlook
      have hlook : rLook (some .i64) nils false (.cst (.map mb)) (.cst (iv (z : Int))) .leaf mk = some (e.2.1, mk) := hlook
      have he64 := (h.rg e hem).2
      obtain ⟨m3, s', b', hs', k3, hb', r3⟩ := clone_ran kk.wf (hPk.da e hem).bs (fun h0 => by rw [h0] at he64; cases he64) (by omega)
      obtain ⟨m4, f4, a4, k4, n4⟩ := addL_at k3.wf ty_api_Write 2 [iv (z : Nat), s']
      have src : SlAt m4 ty_api_Write 2 (.slice m3.next 0 1 1 false) 1 [iv (z : Nat), s'] (some m3.next) := .row (junk := []) a4 rfl rfl (Nat.le_refl _) (by decide)
      have hlk := kk.next
      have hlk2 := kk2.next
      have hl3 := k3.next
      have hl4 := k4.next
      have hll : L.length = k := by
        have := congrArg List.length hL
        rw [List.length_map, List.length_take] at this
        have hpl : (plist P).length = P.length := by unfold plist; rw [List.length_map, len_pks]
        omega
      obtain ⟨y', m5, o', ea, hy5, k5, ho5⟩ := ((hy.keep kk.wf k3 fun _ _ h => h).keep k3.wf k4 fun _ _ h => h).append (bytes := 32) (z := [iv 0, nils]) k4.wf src.src (room_of (by omega) (by omega))
      have hC : (k : Int) + 1 = ((k + 1 : Nat) : Int) := by omega
      simp -implicitDefEqProofs only [o_c9, r_c9_5, r_c9_6, r_c9_7, r_c9_8, e0, e3, e13, e14, e15, show ((k : Int) < (P.length : Int)) = True from eq_true (by omega), v_iaS 1 b0 0 P.length P.length false hlt, Nat.mul_one, qz, q16k, hlook, r3.eq, hs'.bs.cells1, f4, ea, b_add ty_int (show -9223372036854775808 ≤ (k : Int) + 1 by omega) (show (k : Int) + 1 ≤ 9223372036854775807 by omega), ↓reduceIte, Nat.reduceEqDiff, Nat.reduceAdd, Nat.reduceLeDiff, wA, wB, wC, wD]
      have hoy' : ∀ bo, o' = some bo → m2.next ≤ bo := fun bo hbo => by
        rcases ho5 with e | ⟨b', e, h5, _⟩
        · exact hoy bo (e ▸ hbo)
        · rw [e] at hbo; cases hbo; omega
      have hod : ∀ b, kd mk b uB → ¬ o = some b := fun b hb e => by
        rw [e] at hy
        exact absurd (hy.kd.inj hb) (by decide)
      have k35 : Keep mk m5 fun b => o = some b := ((k3.tf k4).mono fun _ _ h => h.elim).trans k5 fun _ _ h => h
      have kf : Keep m2 m5 fun _ => False := kk2.trans k35 fun x hx e => absurd (hoy x e) (by omega)
      have hs5 : BtU m5 s' e.2.2.1 b' := (hs'.keep k3.wf k4 fun h => h).keep k4.wf k5 fun hbo => by
        have := hy.blk_lt kk.wf hbo
        omega
      refine LK_n (k' := P.length - (k + 1)) (by omega) ⟨k + 1, y', o', L ++ [((z : Int), s', e.2.2.1)], by omega, rfl, by simp -implicitDefEqProofs only [e0, e13, e14, hC, ev_tm, ↓reduceIte, Nat.reduceEqDiff, and_self], ?_, hoy', ?_, ?_, kf⟩
      · rw [wcells_app, List.length_append]
        exact hy5
      · rw [List.map_append, hL, List.take_add_one]
        have : (plist P)[k]? = some ((z : Int), e.2.2.1) := by
          unfold plist
          rw [List.getElem?_map, hzk]
          show some ((z : Int), ((pget P z).map (·.2.2.1)).getD []) = _
          rw [hez]; rfl
        rw [this]; rfl
      · intro w hw'
        rcases List.mem_append.1 hw' with hw' | hw'
        · obtain ⟨b, h1, h2⟩ := hLd w hw'
          exact ⟨b, h1.keep kk.wf k35 (hod b h1.kd), h2⟩
        · cases List.mem_singleton.1 hw'
          exact ⟨b', hs5, by omega⟩
    · have hkP : k = P.length := by omega
      subst hkP
      simp -implicitDefEqProofs only [o_c9, r_c9_5, r_c9_9, e3, e14, e15, show ((P.length : Int) < (P.length : Int)) = False from eq_false (by omega), ↓reduceIte, Nat.reduceEqDiff, wA, wB, wC, wD]
      have hpl : (plist P).length = P.length := by unfold plist; rw [List.length_map, len_pks]
      rw [List.take_of_length_le (by omega)] at hL
      exact ⟨L, ws_of hy fun e he => let ⟨b, hb, _⟩ := hLd e he; dt_of hb, hL, hLd, kk⟩
  obtain ⟨v, m', ⟨L, h1, h2, h3, h4⟩, r⟩ := key.ran
  exact ⟨m', v, L, h1, h2, h3, h4, r⟩
end
end Go.Proofs.YthbfinjddaembaaGreat
/- Apply. -/
namespace Go.Am
open Go Go.RowKit
theorem o_mclr {fr : Fr} {m : M} (x : RO) : run (.mclr x) fr m = rMClr (.cst (ev x fr)) .leaf m := rfl
theorem MpAt.clr {m : M} {b : Nat} {L : Al} (h : MpAt m b L) (hw : Wf m) : ∃ m', rMClr (.cst (.map b)) .leaf m = some (AV.undef, m') ∧ MpAt m' b [] ∧ Keep m m' (fun x => x = b) ∧ m'.next = m.next := by
  have hlt := h.lt hw
  obtain ⟨st, hq⟩ := h.mapF
  refine ⟨m.put b (.obj (.map [] (stClr st))), ?_, ⟨stClr st, by rw [M.get_put, if_pos rfl]; rfl⟩, ⟨Nat.le_refl _, fun b' hb' => ?_, fun b' _ hf => by rw [M.get_put, if_neg hf]⟩, rfl⟩
  · show (ob (m.mapF b) fun q => some (AV.undef, m.put b (.obj (.map [] (stClr q.2))))) = _
    rw [hq, v_ob]
  · have hb' : m.next ≤ b' := hb'
    rw [M.get_put, if_neg (by omega)]
    exact hw b' hb'
end Go.Am
namespace Go.Proofs.YthbfinjddaembaaGreat
open Go Go.Am
def wrActs (l : List (Int × Bs)) : List Act := l.map fun e => .wr e.1.toNat e.2
noncomputable def applyActs (P : List Pe) (seq tail used : Nat) : List Act := wrActs (plist P) ++ headActs seq ((tail + used) % 9) 0
section
variable {m : M} {lg d mb cb n w : Nat} {seq tail used : Nat} {S : Ds} {P : List Pe}
theorem apply_none (hg : LgAt m lg d mb seq tail 0 false) : Ran Tryz.prog tb fn_c6 [.ptr lg 0] m (iv 0) m := by
  have f0 : binS Tryz.prog .eql ty_pwal_Log (.ptr lg 0) nilp = some (.b false) := by kernel_rfl
  have q17 : m.rd lg 17 = some (.b false) := by rw [hg.rd]; rfl
  have q15 : m.rd lg 15 = some (iv ((0 : Nat) : Int)) := by rw [hg.rd]; rfl
  refine WpF.go at_c6 ?_
  simp -implicitDefEqProofs only [o_c6, r_c6_0, r_c6_1, r_c6_3, r_c6_5, r_c6_6, f0, q17, q15, ↓reduceIte, Nat.reduceEqDiff, Nat.reduceAdd, wA, wB, wC, wD]
theorem plist_nat {P : List Pe} {e : Int × Bs} (h : e ∈ plist P) : ∃ x, pget P e.1.toNat = some x ∧ e = ((x.1 : Int), x.2.2.1) := by
  unfold plist at h
  obtain ⟨k, hk, rfl⟩ := List.mem_map.1 h
  obtain ⟨x, hx⟩ := mem_pks.1 hk
  refine ⟨x, by simpa using hx, ?_⟩
  show ((k : Int), ((pget P k).map (·.2.2.1)).getD []) = _
  rw [hx, (pget_some hx).2]; rfl
set_option maxHeartbeats 2000000 in
theorem apply_ds (hw : Wf m) (hg : LgAt m lg d mb seq tail used false) (h : DsAt m d cb S) (hP : PmAt m mb P) (hB : S.Bd n w) (hn : n ≤ 1000000) (hPl : P.length ≤ 60) (hw4 : w ≤ 200) (hseq : seq < 2 ^ 32) (ht : tail < 9) (hu : used ≤ 9) (hu0 : used ≠ 0) (hd : S.dead = false)
    {Q : AV → M → Prop} (hQ : ∀ m' tl us P', DsAt m' d cb (S.acts (applyActs P seq tail used)) → LgAt m' lg d mb seq tl us (S.acts (applyActs P seq tail used)).dead → PmAt m' mb P' → ((S.acts (applyActs P seq tail used)).dead = false → tl = (tail + used) % 9 ∧ us = 0 ∧ P' = []) → ((S.acts (applyActs P seq tail used)).dead = true → tl = tail ∧ us = used ∧ P' = P) → KeepK m m' (lgK :: devK) [mb] → Q (iv (S.acts (applyActs P seq tail used)).err) m') :
    WpF Tryz.prog tb fn_c6 [.ptr lg 0] m Q := by
  have f0 : binS Tryz.prog .eql ty_pwal_Log (.ptr lg 0) nilp = some (.b false) := by kernel_rfl
  have q17 : m.rd lg 17 = some (.b false) := by rw [hg.rd]; rfl
  have q15 : m.rd lg 15 = some (iv used) := by rw [hg.rd]; rfl
  obtain ⟨m1, x, L, hx, hL, hLd, k1, r1⟩ := pending_ok hw hg hP (by omega)
  have hpl : (plist P).length = P.length := by unfold plist; rw [List.length_map, len_pks]
  have hLl : L.length = P.length := by rw [← hpl, ← hL, List.length_map]
  have hxl : lenK false x = some L.length := hx.len
  have hz : ¬ ((used : Int) = 0) := by omega
  have g1 := hg.kp hw (E := []) (S := []) k1.k0
  have d1 := h.k0 hw k1
  have p1 := hP.k0 hw k1
  refine WpF.go at_c6 ?_
  simp -implicitDefEqProofs only [o_c6, r_c6_0, r_c6_1, r_c6_3, r_c6_5, r_c6_7, f0, q17, q15, eq_false hz, r1.eq, hxl, ↓reduceIte, Nat.reduceEqDiff, Nat.reduceAdd, wA, wB, wC, wD]
  have hL2 : ∀ k (hk : k < L.length), (plist P).take (k + 1) = (plist P).take k ++ [(L[k].1, L[k].2.2)] := fun k hk => by
    rw [List.take_add_one, ← hL, List.getElem?_map, List.getElem?_eq_getElem hk]; rfl
  refine GX_loop (fun j fr mk => ∃ k, k ≤ L.length ∧ j = L.length - k ∧ (ev (tm 0) fr = .ptr lg 0 ∧ ev (tm 24) fr = x ∧ ev (tm 25) fr = iv (L.length : Nat) ∧ ev (tm 26) fr = iv k) ∧ (S.acts (wrActs ((plist P).take k))).dead = false ∧ DsAt mk d cb (S.acts (wrActs ((plist P).take k))) ∧ (S.acts (wrActs ((plist P).take k))).Bd (n + k) (w + k) ∧ LgAt mk lg d mb seq tail used false ∧ KeepK m1 mk (lgK :: devK)) (k := L.length) ?_ ?_
  · exact ⟨0, Nat.zero_le _, rfl, by simp -implicitDefEqProofs only [nc0, ev_tm, ↓reduceIte, Nat.reduceEqDiff, nc0, and_self], hd, d1, hB, g1, Keep.refl k1.wf _⟩
  rintro j fr mk ⟨k, hk, rfl, ⟨e0, e24, e25, e26⟩, hdk, dk, hBk, gk, kk⟩
  by_cases hlt : k < L.length
  · obtain ⟨xb, xc, xq, hxe, hr⟩ := (hx.kp k1.wf kk).elem hlt
    have hck : L[k]? = some L[k] := List.getElem?_eq_getElem hlt
    have htk := hL2 k hlt
    obtain ⟨eb, heb, _⟩ := hLd L[k] (List.mem_of_getElem? hck)
    have heb' := (bu_of heb).kp k1.wf kk
    have hmem : (L[k].1, L[k].2.2) ∈ plist P := by
      rw [← hL]; exact List.mem_map_of_mem (f := fun e : Wr => (e.1, e.2.2)) (List.mem_of_getElem? hck)
    obtain ⟨pe, hpe, hpe2⟩ := plist_nat hmem
    obtain ⟨hpm, hpk⟩ := pget_some hpe
    have hrg := hP.rg pe hpm
    have hE1 : L[k].1 = ((L[k].1.toNat : Nat) : Int) := by
      have : L[k].1 = (pe.1 : Int) := congrArg (·.1) hpe2
      omega
    have hE3 : L[k].2.2.length = 64 := by
      have : L[k].2.2 = pe.2.2.1 := congrArg (·.2) hpe2
      rw [this]; exact hrg.2
    have hEc : cellsO L[k].2.1 = some [L[k].2.1] := heb.bs.cells1
    have hlt60 : L[k].1.toNat < 60 := by rw [← hpk]; exact hrg.1
    generalize L[k] = E at hr hck htk heb heb' hE1 hE3 hEc hlt60
    obtain ⟨m2, f2, a2, k2, n2⟩ := addZ_at kk.wf ty_api_Write 2 [iv 0, nils]
    obtain ⟨m3, f3, a3, k3, n3⟩ := a2.st k2.wf 0 [iv E.1, E.2.1]
    have r30 : m3.rd mk.next 0 = some (iv E.1) := by rw [a3.rd]; rfl
    have r31 : m3.rd mk.next 1 = some E.2.1 := by rw [a3.rd]; rfl
    have hl2 := k2.next
    have k23 : Keep mk m3 fun _ => False := k2.trans k3 fun x hx e => by omega
    have gk3 := gk.kp kk.wf (E := []) (S := []) k23.k0
    have dk3 := dk.k0 kk.wf k23
    have heb3 := heb'.kp kk.wf (E := []) (S := []) k23.k0
    obtain ⟨m4, d4, g4, k4, r4⟩ := lw_ds (k := E.1.toNat) k23.wf gk3 dk3 hBk (by omega) (by omega) hlt60 heb3 hE3
    rw [← hE1] at r4
    have hS4 : (S.acts (wrActs ((plist P).take k))).wr E.1.toNat E.2.2 = S.acts (wrActs ((plist P).take (k + 1))) := by
      rw [htk]
      unfold wrActs
      rw [List.map_append, Ds.acts_app]; rfl
    have hB4 : (S.acts (wrActs ((plist P).take (k + 1)))).Bd (n + (k + 1)) (w + (k + 1)) := by
      rw [← hS4]; exact hBk.wr _ hE3
    rw [hS4] at d4 g4 r4
    have k04 : KeepK m1 m4 (lgK :: devK) := (kk.tf k23).tk k4
    have hC : (k : Int) + 1 = ((k + 1 : Nat) : Int) := by omega
    rw [hxe] at e24
    cases hd4 : (S.acts (wrActs ((plist P).take (k + 1)))).dead with
    | true =>
      have hfin : S.acts (applyActs P seq tail used) = S.acts (wrActs ((plist P).take (k + 1))) := by
        unfold applyActs
        have e : wrActs (plist P) = wrActs ((plist P).take (k + 1)) ++ wrActs ((plist P).drop (k + 1)) := by
          unfold wrActs
          rw [← List.map_append, List.take_append_drop]
        rw [e, List.append_assoc, Ds.acts_app]
        exact Ds.acts_dead hd4 _
      rw [hfin, err_t hd4, hd4] at hQ
      rw [err_t hd4] at r4
      rw [hd4] at g4
      simp -implicitDefEqProofs only [o_c6, r_c6_8, r_c6_9, r_c6_10, r_c6_11, r_c6_12, e0, e24, e25, e26, show ((k : Int) < (L.length : Int)) = True from eq_true (by omega), v_iaS 2 xb 0 L.length xc xq hlt, hr, f2, f3, r30, r31, r4.eq, eq70, ↓reduceIte, Nat.reduceEqDiff, Nat.reduceAdd, wA, wB, wC, wD]
      have kfin : KeepK m m4 (lgK :: devK) [mb] := (k1.k0 (E := lgK :: devK) (S := [mb])).tk k04
      exact hQ m4 tail used P d4 g4 (p1.kp k1.wf k04) (fun e => by cases e) (fun _ => ⟨rfl, rfl, rfl⟩) kfin
    | false =>
      rw [err_f hd4] at r4
      rw [hd4] at g4
      simp -implicitDefEqProofs only [o_c6, r_c6_8, r_c6_9, r_c6_10, r_c6_11, r_c6_13, e0, e24, e25, e26, show ((k : Int) < (L.length : Int)) = True from eq_true (by omega), v_iaS 2 xb 0 L.length xc xq hlt, hr, f2, f3, r30, r31, r4.eq, b_add ty_int (show -9223372036854775808 ≤ (k : Int) + 1 by omega) (show (k : Int) + 1 ≤ 9223372036854775807 by omega), ↓reduceIte, Nat.reduceEqDiff, Nat.reduceAdd, wA, wB, wC, wD]
      rw [← hxe] at e24
      exact LK_n (k' := L.length - (k + 1)) (by omega) ⟨k + 1, by omega, rfl, by simp -implicitDefEqProofs only [e0, e24, e25, hC, hxe, ev_tm, ↓reduceIte, Nat.reduceEqDiff, and_self], hd4, d4, hB4, g4, k04⟩
  · have hkL : k = L.length := by omega
    subst hkL
    rw [List.take_of_length_le (by omega)] at hdk dk hBk
    have q13 : mk.rdN lg 13 3 = some [iv seq, iv tail, iv used] := gk.rdN (i := 13) (n := 3) (Nat.le_of_ble_eq_true rfl)
    obtain ⟨m2, f2, a2, k2, n2⟩ := addZ_at kk.wf ty_api_Header 3 [iv 0, iv 0, iv 0]
    obtain ⟨m3, f3, a3, k3, n3⟩ := a2.st k2.wf 0 [iv seq, iv tail, iv used]
    have r31 : m3.rd mk.next 1 = some (iv tail) := by rw [a3.rd]; rfl
    have r32 : m3.rd mk.next 2 = some (iv used) := by rw [a3.rd]; rfl
    have hl2 := k2.next
    have k23 : Keep mk m3 fun _ => False := k2.trans k3 fun x hx e => by omega
    have g3 := gk.kp kk.wf (E := []) (S := []) k23.k0
    have d3 := dk.k0 kk.wf k23
    have q4 : m3.rd lg 4 = some (iv 9) := by rw [g3.rd]; rfl
    have t1 : (tail : Int) + (used : Int) = ((tail + used : Nat) : Int) := by omega
    have f1 : binS Tryz.prog .rem ty_int (iv ((tail + used : Nat) : Int)) (iv 9) = some (iv (((tail + used) % 9 : Nat) : Int)) := b_remN (b := 9) ty_int (by omega) (by omega)
    obtain ⟨m4, f4, a4, k4, n4⟩ := g3.st k23.wf 14 [iv ((tail + used) % 9 : Nat)]
    have a4 : LgAt m4 lg d mb seq ((tail + used) % 9) used false := a4
    obtain ⟨m5, f5, a5, k5, n5⟩ := a4.st k4.wf 15 [iv (0 : Nat)]
    have a5 : LgAt m5 lg d mb seq ((tail + used) % 9) 0 false := a5
    have k35 : KeepK m3 m5 [lgK] := (k4.k1 (E := [lgK]) (S := []) g3.kd).tk (k5.k1 (E := [lgK]) (S := []) a4.kd)
    have d5 := d3.kp k23.wf k35
    have h5 : At m5 mk.next ty_api_Header true [iv seq, iv tail, iv used] := a3.kp k3.wf k35
    obtain ⟨m6, d6, g6, k6, r6⟩ := head_ds k5.wf a5 d5 hBk (by omega) (by omega) hseq (by omega) (by omega)
    have h6 : At m6 mk.next ty_api_Header true [iv seq, iv tail, iv used] := h5.kp k5.wf k6
    have hS6 : (S.acts (wrActs (plist P))).acts (headActs seq ((tail + used) % 9) 0) = S.acts (applyActs P seq tail used) := by
      unfold applyActs
      rw [Ds.acts_app]
    rw [hS6] at d6 g6 r6
    have hz0 : ((0 : Nat) : Int) = 0 := rfl
    rw [hz0] at f5
    have k06 : KeepK m1 m6 (lgK :: devK) := ((kk.tf k23).tk k35).tk k6
    cases hd6 : (S.acts (applyActs P seq tail used)).dead with
    | true =>
      rw [hd6] at g6 hQ
      rw [err_t hd6] at r6 hQ
      have q6 : m6.rdN mk.next 0 3 = some [iv seq, iv tail, iv used] := h6.rdN (i := 0) (n := 3) (Nat.le_refl 3)
      obtain ⟨m7, f7, a7, k7, n7⟩ := g6.st k6.wf 13 [iv seq, iv tail, iv used]
      have a7 : LgAt m7 lg d mb seq tail used true := a7
      have kk7 := k7.k1 (E := [lgK]) (S := []) g6.kd
      simp -implicitDefEqProofs only [o_c6, r_c6_8, r_c6_14, r_c6_15, r_c6_16, r_c6_17, r_c6_18, r_c6_19, e0, e25, e26, show ((L.length : Int) < (L.length : Int)) = False from eq_false (by omega), q13, f2, f3, r31, r32, b_add ty_int (show -9223372036854775808 ≤ (tail : Int) + (used : Int) by omega) (show (tail : Int) + (used : Int) ≤ 9223372036854775807 by omega), t1, q4, f1, f4, f5, r6.eq, eq70, q6, f7, ↓reduceIte, Nat.reduceEqDiff, Nat.reduceAdd, exists_eq_left', wA, wB, wC, wD]
      have k07 : KeepK m m7 (lgK :: devK) [mb] := (k1.k0 (E := lgK :: devK) (S := [mb])).tk (k06.tk kk7)
      exact hQ m7 tail used P (d6.kp k6.wf kk7) a7 (p1.kp k1.wf (k06.tk kk7)) (fun e => by cases e) (fun _ => ⟨rfl, rfl, rfl⟩) k07
    | false =>
      rw [hd6] at g6 hQ
      rw [err_f hd6] at r6 hQ
      have q16 : m6.rd lg 16 = some (.map mb) := by rw [g6.rd]; rfl
      have p6 := p1.kp k1.wf k06
      obtain ⟨m7, f7, a7, k7, n7⟩ := p6.mp.clr k6.wf
      have kk7 : KeepK m6 m7 [] [mb] := k7.km p6.mp.kd
      simp -implicitDefEqProofs only [o_c6, r_c6_8, r_c6_14, r_c6_15, r_c6_16, r_c6_17, r_c6_20, r_c6_21, e0, e25, e26, show ((L.length : Int) < (L.length : Int)) = False from eq_false (by omega), q13, f2, f3, r31, r32, b_add ty_int (show -9223372036854775808 ≤ (tail : Int) + (used : Int) by omega) (show (tail : Int) + (used : Int) ≤ 9223372036854775807 by omega), t1, q4, f1, f4, f5, r6.eq, q16, o_mclr, f7, ↓reduceIte, Nat.reduceEqDiff, Nat.reduceAdd, exists_eq_left', wA, wB, wC, wD]
      have k07 : KeepK m m7 (lgK :: devK) [mb] := ((k1.k0 (E := lgK :: devK) (S := [mb])).tk k06).tk kk7
      exact hQ m7 _ 0 [] (d6.kp k6.wf kk7) (g6.kp k6.wf kk7) ⟨a7, (fun e he => by cases he), .nil, fun e he => by cases he⟩ (fun _ => ⟨rfl, rfl, rfl⟩) (fun e => by cases e) k07
end
end Go.Proofs.YthbfinjddaembaaGreat
