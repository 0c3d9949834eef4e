import Derived.Test.YthbfinjddaembaaGreatXc
import Derived.Test.YthbfinjddaembaaGreatAmWk
set_option linter.unusedVariables false
set_option linter.unusedSimpArgs false
/- Commit. -/
namespace Go.Am
open Go Go.RowKit
theorem ares_cell1 {P : Program} {t a b k : Nat} {fr : Fr} {m : M} {v : AV} {ds : List Nat} {ar : Option Nat} (h1 : tagg P t = some false) (h2 : tsize P t = some k) (hp : ev (tm a) fr = .ptr b 0) (hr : m.rd b 0 = some v) : ares P ⟨fr, m, ds, ar⟩ [.cell a t] = some [v] := by
  show (ob (match tagg P t, tsize P t with | some true, some n => rLoadN n (.tmp (pth a)) fr m | some false, some _ => rLoad (.tmp (pth a)) fr m | _, _ => none) fun q => some (q.1 :: [])) = _
  rw [h1, h2]
  show (ob (elPtr none (fun b off => rto m (m.rd b off)) (ev (tm a) fr)) fun q => some (q.1 :: [])) = _
  rw [hp, v_elPtr, hr]; rfl
theorem dfr_close {m : M} {z : Nat} (h : m.get z = some (.obj (.dfr true))) : closeDs [z] m = some (m.put z (.obj (.dfr false))) := by
  show (ob (m.dfr z) fun op => bc op (closeDs [] (m.put z (.obj (.dfr false)))) none) = _
  rw [dfr_get h]; rfl
end Go.Am
namespace Go.Proofs.YthbfinjddaembaaGreat
open Go Go.Am
def cE (seq : Nat) (over : Bool) (L : List (Int × Bs)) : Option Int :=
  if soundE L ≠ 0 then some (soundE L) else if L.length = 0 ∧ over = false then some 0 else if 2 ^ 32 ≤ seq + (L.length + 27 - 1) / 27 then some 8 else if over then some 7 else none
theorem cE_none {seq : Nat} {over : Bool} {L : List (Int × Bs)} (h : cE seq over L = none) : soundE L = 0 ∧ L.length ≠ 0 ∧ seq + (L.length + 27 - 1) / 27 < 2 ^ 32 ∧ over = false := by
  unfold cE at h
  split at h
  · cases h
  split at h
  · cases h
  split at h
  · cases h
  split at h
  · cases h
  rename_i h1 h2 h3 h4
  have h4 : over = false := by simpa using h4
  exact ⟨Classical.byContradiction h1, fun e => h2 ⟨e, h4⟩, by omega, h4⟩
theorem sound0 {L : List (Int × Bs)} (h : soundE L = 0) : (∀ e ∈ L, e.2.length = 64) ∧ (∀ e ∈ L, 11 ≤ e.1 ∧ e.1 < 60) ∧ (L.map (·.1)).Nodup ∧ L.length ≤ 8 := by
  unfold soundE at h
  split at h
  · cases h
  split at h
  · cases h
  split at h
  · cases h
  split at h
  · cases h
  rename_i h1 h2 h3 h4
  refine ⟨fun e he => Classical.byContradiction fun h => h1 ⟨e, he, h⟩, fun e he => ?_, Classical.byContradiction h3, by omega⟩
  refine Classical.byContradiction fun h => h2 ⟨e, he, ?_⟩
  omega
def cNeed (used n : Nat) : Bool := decide (9 < used + n + 1)
noncomputable def cApp (P : List Pe) (seq tail used n : Nat) : List Act := if cNeed used n then applyActs P seq tail used else []
def cTail (tail used n : Nat) : Nat := if cNeed used n then (tail + used) % 9 else tail
def cUsed (used n : Nat) : Nat := if cNeed used n then 0 else used
def cActs (seq tail used : Nat) (L : List (Int × Bs)) : List Act :=
  partActs seq (cTail tail used L.length) (cUsed used L.length) (L.map fun e => e.1.toNat) (L.map (·.2)) ++ headActs (seq + 1) (cTail tail used L.length) (cUsed used L.length + 1 + L.length)
section
variable {m : M} {lg d mb cb n w : Nat} {seq tail used : Nat} {over : Bool} {S : Ds} {P : List Pe}
theorem wrActs_ok (P : List Pe) (h : ∀ e ∈ P, e.1 < 60 ∧ e.2.2.1.length = 64) : (∀ a ∈ wrActs (plist P), a.ok) ∧ (wrActs (plist P)).length = P.length := by
  refine ⟨fun a ha => ?_, by unfold wrActs plist; rw [List.length_map, List.length_map, len_pks]⟩
  obtain ⟨e, he, rfl⟩ := List.mem_map.1 ha
  obtain ⟨x, hx, rfl⟩ := plist_nat he
  exact (h x (pget_some hx).1).2
theorem applyActs_ok (P : List Pe) (seq tail used : Nat) (h : ∀ e ∈ P, e.1 < 60 ∧ e.2.2.1.length = 64) : (∀ a ∈ applyActs P seq tail used, a.ok) ∧ (applyActs P seq tail used).length = P.length + 3 := by
  obtain ⟨h1, h2⟩ := wrActs_ok P h
  unfold applyActs
  refine ⟨fun a ha => ?_, by rw [List.length_append, h2]; rfl⟩
  rcases List.mem_append.1 ha with ha | ha
  · exact h1 a ha
  · exact headActs_ok _ _ _ a ha
set_option maxRecDepth 20000 in
set_option maxHeartbeats 4000000 in
theorem commit_ds {x : AV} {L : List Wr} (hw : Wf m) (hg : LgAt m lg d mb seq tail used over) (h : DsAt m d cb S) (hP : PmAt m mb P) (hBd : S.Bd n w) (hn : n ≤ 500000) (hw4 : w ≤ 100) (hx : WsAt m x L) (hL : L.length ≤ 2000000) (hod : over = false → S.dead = false) (hseq : seq < 2 ^ 32) (ht : tail < 9) (hu : used ≤ 9)
    {Q : AV → M → Prop}
    (hA : ∀ m' e, cE seq over (wv L) = some e → Keep m m' (fun _ => False) → Q (iv e) m')
    (h1 : ∀ m', cE seq over (wv L) = none → (S.acts (cApp P seq tail used L.length)).dead = true → DsAt m' d cb (S.acts (cApp P seq tail used L.length)) → LgAt m' lg d mb seq tail used true → PmAt m' mb P → KeepK m m' (lgK :: devK) [mb] → Q (iv 7) m')
    (h2 : ∀ m' P1, cE seq over (wv L) = none → (S.acts (cApp P seq tail used L.length)).dead = false → ((S.acts (cApp P seq tail used L.length)).acts (cActs seq tail used (wv L))).dead = true → DsAt m' d cb ((S.acts (cApp P seq tail used L.length)).acts (cActs seq tail used (wv L))) → LgAt m' lg d mb seq (cTail tail used L.length) (cUsed used L.length) true → PmAt m' mb P1 → P1 = (if cNeed used L.length then [] else P) → KeepK m m' (lgK :: devK) [mb] → Q (iv 7) m')
    (h3 : ∀ m' P', cE seq over (wv L) = none → (S.acts (cApp P seq tail used L.length)).dead = false → ((S.acts (cApp P seq tail used L.length)).acts (cActs seq tail used (wv L))).dead = false → DsAt m' d cb ((S.acts (cApp P seq tail used L.length)).acts (cActs seq tail used (wv L))) → LgAt m' lg d mb (seq + 1) (cTail tail used L.length) (cUsed used L.length + 1 + L.length) false → PmAt m' mb P' → (∀ k, pbs P' k = putAll (pbs (if cNeed used L.length then [] else P)) (wv L) k) → KeepK m m' (lgK :: devK) [mb] → Q (iv 0) m') :
    WpF Tryz.prog tb fn_c7 [.ptr lg 0, x] m Q := by
  have f0 : binS Tryz.prog .eql ty_pwal_Log (.ptr lg 0) nilp = some (.b false) := by kernel_rfl
  have hxl : lenK false x = some L.length := hx.len
  have hwl : (wv L).length = L.length := List.length_map ..
  obtain ⟨m1, f1, aV, k1, n1⟩ := addL_at hw ty_pwal_Log 1 [.ptr lg 0]
  obtain ⟨m2, f2, aE, k2, n2⟩ := addZ_at k1.wf ty_api_Errno 1 [iv 0]
  have aV2 := aV.keep k1.wf k2 fun h => h
  have k02 := k1.tf k2
  obtain ⟨m3, k3, r3⟩ := sound_ran k02.wf (hg.kp hw (E := []) (S := []) k02.k0) (hx.k0 hw k02) hL
  have k03 := k02.tf k3
  have aV3 := aV2.keep k2.wf k3 fun h => h
  have aE3 := aE.keep k2.wf k3 fun h => h
  have qV2 : m2.rd m.next 0 = some (.ptr lg 0) := by rw [aV2.rd]; rfl
  have qV3 : m3.rd m.next 0 = some (.ptr lg 0) := by rw [aV3.rd]; rfl
  have tE : tagg Tryz.prog ty_api_Errno = some false := by kernel_rfl
  have sE : tsize Tryz.prog ty_api_Errno = some 1 := by kernel_rfl
  have hn1 := k1.next
  have hn2 := k2.next
  have hn3 := k3.next
  refine WpF.body (tab_get Tryz.func10) qG_eq qSl rfl rfl rfl ?_
  refine WpS.seq (WpS.code qc0 ?_)
  simp -implicitDefEqProofs only [r_c7_0, f1, f2, ↓reduceIte, Nat.reduceEqDiff, Nat.reduceAdd, wA, wB, wC, wD]
  refine WpS.seq (WpS.code qc1 ?_)
  simp -implicitDefEqProofs only [r_c7_1, qV2, f0, ↓reduceIte, Nat.reduceEqDiff, wA, wB, wC, wD]
  refine WpS.seq (WpS.code qc2 ?_)
  by_cases hs : soundE (wv L) = 0
  · have g3 := hg.kp hw (E := []) (S := []) k03.k0
    have d3 := h.k0 hw k03
    have p3 := hP.k0 hw k03
    have hx3 := hx.k0 hw k03
    obtain ⟨hs1, hs2, hs3, hs4⟩ := sound0 hs
    rw [hwl] at hs4
    have qp3 : m3.rdN lg 1 12 = some smallP := g3.rdN (i := 1) (n := 12) (Nat.le_of_ble_eq_true rfl)
    obtain ⟨m4, k4, r4⟩ := need_ran (n := L.length) k3.wf (by omega)
    have k04 := k03.tf k4
    have aV4 := aV3.keep k3.wf k4 fun h => h
    have aE4 := aE3.keep k3.wf k4 fun h => h
    have g4 := hg.kp hw (E := []) (S := []) k04.k0
    have qV4 : m4.rd m.next 0 = some (.ptr lg 0) := by rw [aV4.rd]; rfl
    have q17 : m4.rd lg 17 = some (.b over) := by rw [g4.rd]; rfl
    have q13 : m4.rd lg 13 = some (iv seq) := by rw [g4.rd]; rfl
    have qp4 : m4.rdN lg 1 12 = some smallP := g4.rdN (i := 1) (n := 12) (Nat.le_of_ble_eq_true rfl)
    have hn4 := k4.next
    simp -implicitDefEqProofs only [r_c7_3, r_c7_4, r_c7_5, qV2, r3.eq, hs, ↓reduceIte, Nat.reduceEqDiff, wA, wB, wC, wD]
    refine WpS.seq (WpS.code qc3 ?_)
    simp -implicitDefEqProofs only [r_c7_6, qV3, qp3, hxl, r4.eq, ↓reduceIte, Nat.reduceEqDiff, wA, wB, wC, wD]
    refine WpS.seq (WpS.code qc4 ?_)
    by_cases hz : L.length = 0 ∧ over = false
    · obtain ⟨hz1, rfl⟩ := hz
      have he : cE seq false (wv L) = some 0 := by
        unfold cE
        rw [if_neg (by simp [hs]), if_pos ⟨by rw [hwl]; exact hz1, rfl⟩]
      obtain ⟨m5, f5, a5, k5, n5⟩ := aE4.st k4.wf 0 [iv 0]
      have q5 : m5.rd m1.next 0 = some (iv 0) := by rw [a5.rd]; rfl
      have hzi : ((L.length : Nat) : Int) = 0 := by omega
      simp -implicitDefEqProofs only [r_c7_7, r_c7_8, hxl, hzi, qV4, q17, f5, ↓reduceIte, Nat.reduceEqDiff, wA, wB, wC, wD]
      refine ⟨.inr trivial, m5, rfl, _, ares_cell1 tE sE (b := m1.next) ?_ q5, hA m5 _ he (k04.trans k5 fun z hz e => by omega)⟩
      simp -implicitDefEqProofs only [ev_tm, ↓reduceIte, Nat.reduceEqDiff]
    · have hzb : ∀ {A : Prop}, (((L.length : Nat) : Int) = 0 → over = true → A) → (¬ (((L.length : Nat) : Int) = 0) → A) → A := fun h1 h2 => by
        by_cases h0 : ((L.length : Nat) : Int) = 0
        · refine h1 h0 ?_
          cases over with
          | true => rfl
          | false => exact absurd ⟨by omega, rfl⟩ hz
        · exact h2 h0
      obtain ⟨m5, k5, r5⟩ := parts_ran (n := L.length) k4.wf (by omega)
      have k05 := k04.tf k5
      have aV5 := aV4.keep k4.wf k5 fun h => h
      have aE5 := aE4.keep k4.wf k5 fun h => h
      have g5 := hg.kp hw (E := []) (S := []) k05.k0
      have qV5 : m5.rd m.next 0 = some (.ptr lg 0) := by rw [aV5.rd]; rfl
      have q17b : m5.rd lg 17 = some (.b over) := by rw [g5.rd]; rfl
      have q13b : m5.rd lg 13 = some (iv seq) := by rw [g5.rd]; rfl
      have qp5 : m5.rdN lg 1 12 = some smallP := g5.rdN (i := 1) (n := 12) (Nat.le_of_ble_eq_true rfl)
      have hn5 := k5.next
      have hps : (seq : Int) + (((L.length + 27 - 1) / 27 : Nat) : Int) = ((seq + (L.length + 27 - 1) / 27 : Nat) : Int) := by omega
      by_cases hf : 2 ^ 32 ≤ seq + (L.length + 27 - 1) / 27
      · have he : cE seq over (wv L) = some 8 := by
          unfold cE
          rw [if_neg (by simp [hs]), if_neg (by rw [hwl]; exact hz), if_pos (by rw [hwl]; exact hf)]
        obtain ⟨m6, f6, a6, k6, n6⟩ := aE5.st k5.wf 0 [iv 8]
        have q6 : m6.rd m1.next 0 = some (iv 8) := by rw [a6.rd]; rfl
        refine hzb (fun h0 ho => ?_) (fun h0 => ?_)
        · subst ho
          have h0' : L.length = 0 := by omega
          rw [h0'] at r5 hf hps
          have r5 : Ran Tryz.prog tb fn_h4 [.agg smallP, iv 0] m4 (iv 0) m5 := r5
          have hf' : (4294967296 : Int) ≤ (seq : Int) := by omega
          have hs0 : (seq : Int) + 0 = (seq : Int) := by omega
          simp -implicitDefEqProofs only [r_c7_7, r_c7_9, r_c7_10, hxl, h0', qV4, q17, q13, qp4, r5.eq, plan_aq, qV5, q13b, b_add ty_int (show -9223372036854775808 ≤ (seq : Int) + (0 : Int) by omega) (show (seq : Int) + (0 : Int) ≤ 9223372036854775807 by omega), hs0, eq_true hf', f6, ↓reduceIte, Nat.reduceEqDiff, Nat.reduceSub, exists_eq_left', wA, wB, wC, wD]
          refine ⟨.inr trivial, m6, rfl, _, ares_cell1 tE sE (b := m1.next) ?_ q6, hA m6 _ he (k05.trans k6 fun z hz e => by omega)⟩
          simp -implicitDefEqProofs only [ev_tm, ↓reduceIte, Nat.reduceEqDiff]
        · simp -implicitDefEqProofs only [r_c7_7, r_c7_9, r_c7_10, hxl, eq_false h0, qV4, q13, qp4, r5.eq, plan_aq, qV5, q13b, b_add ty_int (show -9223372036854775808 ≤ (seq : Int) + (((L.length + 27 - 1) / 27 : Nat) : Int) by omega) (show (seq : Int) + (((L.length + 27 - 1) / 27 : Nat) : Int) ≤ 9223372036854775807 by omega), hps, show ((4294967296 : Int) ≤ ((seq + (L.length + 27 - 1) / 27 : Nat) : Int)) = True from eq_true (by omega), f6, ↓reduceIte, Nat.reduceEqDiff, exists_eq_left', wA, wB, wC, wD]
          refine ⟨.inr trivial, m6, rfl, _, ares_cell1 tE sE (b := m1.next) ?_ q6, hA m6 _ he (k05.trans k6 fun z hz e => by omega)⟩
          simp -implicitDefEqProofs only [ev_tm, ↓reduceIte, Nat.reduceEqDiff]
      · cases over with
        | true =>
          have he : cE seq true (wv L) = some 7 := by
            unfold cE
            rw [if_neg (by simp [hs]), if_neg (by rw [hwl]; exact hz), if_neg (by rw [hwl]; exact hf)]; rfl
          obtain ⟨m6, f6, a6, k6, n6⟩ := aE5.st k5.wf 0 [iv 7]
          have q6 : m6.rd m1.next 0 = some (iv 7) := by rw [a6.rd]; rfl
          refine hzb (fun h0 ho => ?_) (fun h0 => ?_)
          · have h0' : L.length = 0 := by omega
            rw [h0'] at r5 hf hps
            have r5 : Ran Tryz.prog tb fn_h4 [.agg smallP, iv 0] m4 (iv 0) m5 := r5
            have hf' : ¬ (4294967296 : Int) ≤ (seq : Int) := by omega
            have hs0 : (seq : Int) + 0 = (seq : Int) := by omega
            simp -implicitDefEqProofs only [r_c7_7, r_c7_9, r_c7_10, r_c7_11, r_c7_12, hxl, h0', qV4, q17, q13, qp4, r5.eq, plan_aq, qV5, q13b, q17b, b_add ty_int (show -9223372036854775808 ≤ (seq : Int) + (0 : Int) by omega) (show (seq : Int) + (0 : Int) ≤ 9223372036854775807 by omega), hs0, eq_false hf', f6, ↓reduceIte, Nat.reduceEqDiff, Nat.reduceSub, exists_eq_left', wA, wB, wC, wD]
            refine ⟨.inr trivial, m6, rfl, _, ares_cell1 tE sE (b := m1.next) ?_ q6, hA m6 _ he (k05.trans k6 fun z hz e => by omega)⟩
            simp -implicitDefEqProofs only [ev_tm, ↓reduceIte, Nat.reduceEqDiff]
          · simp -implicitDefEqProofs only [r_c7_7, r_c7_9, r_c7_10, r_c7_11, r_c7_12, hxl, eq_false h0, qV4, q13, qp4, r5.eq, plan_aq, qV5, q13b, q17b, b_add ty_int (show -9223372036854775808 ≤ (seq : Int) + (((L.length + 27 - 1) / 27 : Nat) : Int) by omega) (show (seq : Int) + (((L.length + 27 - 1) / 27 : Nat) : Int) ≤ 9223372036854775807 by omega), hps, show ((4294967296 : Int) ≤ ((seq + (L.length + 27 - 1) / 27 : Nat) : Int)) = False from eq_false (by omega), f6, ↓reduceIte, Nat.reduceEqDiff, exists_eq_left', wA, wB, wC, wD]
            refine ⟨.inr trivial, m6, rfl, _, ares_cell1 tE sE (b := m1.next) ?_ q6, hA m6 _ he (k05.trans k6 fun z hz e => by omega)⟩
            simp -implicitDefEqProofs only [ev_tm, ↓reduceIte, Nat.reduceEqDiff]
        | false =>
          have hdead := hod rfl
          have h0 : ¬ ((L.length : Nat) : Int) = 0 := fun e => hz ⟨by omega, rfl⟩
          have he : cE seq false (wv L) = none := by
            unfold cE
            rw [if_neg (by simp [hs]), if_neg (by rw [hwl]; exact hz), if_neg (by rw [hwl]; exact hf)]; rfl
          have hL0 : L ≠ [] := fun e => h0 (by rw [e]; rfl)
          have hp1 : (L.length + 27 - 1) / 27 = 1 := by omega
          rw [hp1] at hf hps r5
          simp -implicitDefEqProofs only [r_c7_7, r_c7_9, r_c7_10, r_c7_11, r_c7_12, hxl, eq_false h0, qV4, q13, qp4, hp1, r5.eq, plan_aq, qV5, q13b, q17b, b_add ty_int (show -9223372036854775808 ≤ (seq : Int) + ((1 : Nat) : Int) by omega) (show (seq : Int) + ((1 : Nat) : Int) ≤ 9223372036854775807 by omega), hps, show ((4294967296 : Int) ≤ ((seq + 1 : Nat) : Int)) = False from eq_false (by omega), ↓reduceIte, Nat.reduceEqDiff, exists_eq_left', wA, wB, wC, wD]
          have rroom := room_ran g5 (by omega)
          have d5 := h.k0 hw k05
          have p5 := hP.k0 hw k05
          have hx5 := hx.k0 hw k05
          have hks : L.map (·.1) = ((wv L).map fun e => e.1.toNat).map fun k => ((k : Nat) : Int) := by
            rw [List.map_map, List.map_map]
            apply List.map_congr_left
            intro e he
            have := hs2 _ (List.mem_map_of_mem (f := fun e : Wr => (e.1, e.2.2)) he)
            show e.1 = ((e.1.toNat : Nat) : Int)
            have h11 : 11 ≤ e.1 := this.1
            omega
          have hk60 : ∀ k ∈ (wv L).map fun e => e.1.toNat, k < 60 := fun k hk => by
            obtain ⟨e, he, rfl⟩ := List.mem_map.1 hk
            have := hs2 e he
            omega
          have h64 : ∀ e ∈ L, e.2.2.length = 64 := fun e he => hs1 _ (List.mem_map_of_mem (f := fun e : Wr => (e.1, e.2.2)) he)
          have hts : (wv L).map (·.2) = L.map (·.2.2) := by rw [List.map_map]; rfl
          have fin : ∀ (m6 : M) (fr : Fr) (P1 : List Pe) (tl us : Nat), tl = cTail tail used L.length → us = cUsed used L.length → P1 = (if cNeed used L.length then [] else P) → tl < 9 → us + 1 + L.length ≤ 9 → (S.acts (cApp P seq tail used L.length)).dead = false →
              KeepK m m6 (lgK :: devK) [mb] → At m6 m.next ty_pwal_Log true [.ptr lg 0] → At m6 m1.next ty_api_Errno true [iv 0] → LgAt m6 lg d mb seq tl us false → DsAt m6 d cb (S.acts (cApp P seq tail used L.length)) → PmAt m6 mb P1 → (S.acts (cApp P seq tail used L.length)).Bd (n + 63) (w + 63) → WsAt m6 x L → ev (tm 1) fr = x → ev (tm 2) fr = .ptr m.next 0 → ev (tm 4) fr = .ptr m1.next 0 →
              WpS Tryz.prog tb qTail [] none fr m6 fun x f m' d => (x = .normal ∨ x = .ret) ∧ ∃ m2, closeDs d m' = some m2 ∧ ∃ l, ares Tryz.prog ⟨f, m2, [], none⟩ [.cell 4 ty_api_Errno] = some l ∧ Q (one l) m2 := by
            intro m6 fr P1 tl us htl hus hP1 ht6 hu6 hdd k06 aV6 aE6 g6 d6 p6 hB6 x6 e1 e2 e4
            refine (commit_tail k06.wf aV6 aE6 g6 d6 p6 hB6 (by omega) (by omega) x6 hks hk60 h64 hL0 (by omega) ht6 hu6 e1 e2 e4).mono ?_
            rintro X f mm dd ⟨rfl, e4f, ⟨z, rfl, hz1, hz2, hz3⟩, hkA, hD, hcase⟩
            have hn6 := k06.next
            have k0m : KeepK m mm (lgK :: devK) [mb] := k06.trans hkA fun y hy e => by
              rcases e with e | e
              · omega
              · exact .back k06 hy (fun _ h => h) (fun _ h => h) e
            have kz : Keep mm (mm.put z (.obj (.dfr false))) (fun b => b = z) := Keep.put hkA.wf hz3 rfl
            have kzk : KeepK mm (mm.put z (.obj (.dfr false))) [] [z] := kz.mono fun y _ e => .inr ⟨by simp [e], by subst e; exact kd_obj hz2⟩
            have k0z : KeepK m (mm.put z (.obj (.dfr false))) (lgK :: devK) [mb] := k0m.trans kz fun y hy e => by omega
            have hmz : mb ≠ z := by
              have := hP.mp.kd.lt hw
              omega
            have hca : (S.acts (cApp P seq tail used L.length)).acts (cActs seq tail used (wv L)) = ((S.acts (cApp P seq tail used L.length)).acts (partActs seq tl us ((wv L).map fun e => e.1.toNat) (L.map (·.2.2)))).acts (headActs (seq + 1) tl (us + 1 + L.length)) := by
              unfold cActs
              rw [Ds.acts_app, hwl, hts, ← htl, ← hus]
            rw [← hca] at hD hcase
            rcases hcase with ⟨hc1, hc2, hc3, P', hc4, hc5⟩ | ⟨hc1, hc2, hc3, hc4⟩
            · have q0 : (mm.put z (.obj (.dfr false))).rd m1.next 0 = some (iv 0) := by rw [(hc3.kp hkA.wf kzk).rd]; rfl
              refine ⟨.inr rfl, _, dfr_close hz2, _, ares_cell1 tE sE e4f q0, ?_⟩
              subst htl hus
              exact h3 _ P' he hdd hc1 (hD.kp hkA.wf kzk) (hc2.kp hkA.wf kzk) (hc4.kp hkA.wf kzk (by simpa using hmz)) (by rw [← hP1]; exact hc5) k0z
            · have q0 : (mm.put z (.obj (.dfr false))).rd m1.next 0 = some (iv 7) := by rw [(hc3.kp hkA.wf kzk).rd]; rfl
              refine ⟨.inr rfl, _, dfr_close hz2, _, ares_cell1 tE sE e4f q0, ?_⟩
              subst htl hus
              exact h2 _ P1 he hdd hc1 (hD.kp hkA.wf kzk) (hc2.kp hkA.wf kzk) (hc4.kp hkA.wf kzk (by simpa using hmz)) hP1 k0z
          refine WpS.seq (WpS.code qc5 ?_)
          by_cases hnd : 9 < used + L.length + 1
          · have hcn : cNeed used L.length = true := decide_eq_true hnd
            have hca : cApp P seq tail used L.length = applyActs P seq tail used := by unfold cApp; rw [if_pos hcn]
            obtain ⟨hok, hlen⟩ := applyActs_ok P seq tail used hP.rg
            have hPl := hP.len
            have hBA := hBd.acts hok
            rw [hlen] at hBA
            simp -implicitDefEqProofs only [r_c7_13, r_c7_14, r_c7_15, r_c7_16, qV5, rroom.eq, show ((9 : Int) - (used : Int) < ((L.length + 1 : Nat) : Int)) = True from eq_true (by omega), ↓reduceIte, Nat.reduceEqDiff, wA, wB, wC, wD]
            refine apply_ds k5.wf g5 d5 p5 hBd (by omega) hPl (by omega) hseq ht hu (by omega) hdead fun m6 tl us P1 hD hLg hPm hal hde hk => ?_
            have k06 : KeepK m m6 (lgK :: devK) [mb] := (k05.k0 (E := lgK :: devK) (S := [mb])).tk hk
            have aE6 := aE5.kp k5.wf hk
            have aV6 := aV5.kp k5.wf hk
            rw [← hca] at hD hLg hal hde hBA ⊢
            cases hdd : (S.acts (cApp P seq tail used L.length)).dead with
            | true =>
              obtain ⟨rfl, rfl, rfl⟩ := hde hdd
              rw [hdd] at hLg
              obtain ⟨m7, f7, a7, k7, n7⟩ := aE6.st hk.wf 0 [iv 7]
              have kk7 : KeepK m6 m7 [erK] := k7.k1 (E := [erK]) (S := []) aE6.kd
              have q7 : m7.rd m1.next 0 = some (iv 7) := by rw [a7.rd]; rfl
              rw [err_t hdd]
              simp -implicitDefEqProofs only [eq70, f7, ↓reduceIte, Nat.reduceEqDiff, wA, wB, wC, wD]
              have hn6 := k06.next
              refine ⟨.inr trivial, m7, rfl, _, ares_cell1 tE sE (b := m1.next) ?_ q7, h1 m7 he hdd (hD.kp hk.wf kk7) (hLg.kp hk.wf kk7) (hPm.kp hk.wf kk7) (k06.trans k7 fun y hy e => by omega)⟩
              simp -implicitDefEqProofs only [ev_tm, ↓reduceIte, Nat.reduceEqDiff]
            | false =>
              obtain ⟨rfl, rfl, rfl⟩ := hal hdd
              rw [hdd] at hLg
              rw [err_f hdd]
              simp -implicitDefEqProofs only [↓reduceIte, wA, wB, wC, wD]
              exact fin m6 _ [] _ _ (by unfold cTail; rw [if_pos hcn]) (by unfold cUsed; rw [if_pos hcn]) (by rw [if_pos hcn]) (by omega) (by omega) hdd k06 aV6 aE6 hLg hD hPm (hBA.mono (by omega) (by omega)) (hx5.kp k5.wf hk) (by simp -implicitDefEqProofs only [ev_tm, ↓reduceIte, Nat.reduceEqDiff]) (by simp -implicitDefEqProofs only [ev_tm, ↓reduceIte, Nat.reduceEqDiff]) (by simp -implicitDefEqProofs only [ev_tm, ↓reduceIte, Nat.reduceEqDiff])
          · have hcn : cNeed used L.length = false := decide_eq_false hnd
            have hca : cApp P seq tail used L.length = [] := by unfold cApp; rw [if_neg (by rw [hcn]; decide)]
            simp -implicitDefEqProofs only [r_c7_13, qV5, rroom.eq, show ((9 : Int) - (used : Int) < ((L.length + 1 : Nat) : Int)) = False from eq_false (by omega), ↓reduceIte, Nat.reduceEqDiff, wA, wB, wC, wD]
            exact fin m5 _ P _ _ (by unfold cTail; rw [if_neg (by rw [hcn]; decide)]) (by unfold cUsed; rw [if_neg (by rw [hcn]; decide)]) (by rw [if_neg (by rw [hcn]; decide)]) ht (by omega) (by rw [hca]; exact hdead) k05.k0 aV5 aE5 g5 (by rw [hca]; exact d5) p5 (by rw [hca]; exact hBd.mono (by omega) (by omega)) hx5 (by simp -implicitDefEqProofs only [ev_tm, ↓reduceIte, Nat.reduceEqDiff]) (by simp -implicitDefEqProofs only [ev_tm, ↓reduceIte, Nat.reduceEqDiff]) (by simp -implicitDefEqProofs only [ev_tm, ↓reduceIte, Nat.reduceEqDiff])
  · have he : cE seq over (wv L) = some (soundE (wv L)) := by unfold cE; rw [if_pos hs]
    obtain ⟨m4, f4, a4, k4, n4⟩ := aE3.st k3.wf 0 [iv (soundE (wv L))]
    have q4 : m4.rd m1.next 0 = some (iv (soundE (wv L))) := by rw [a4.rd]; rfl
    simp -implicitDefEqProofs only [r_c7_3, r_c7_4, r_c7_5, qV2, r3.eq, eq_false hs, f4, ↓reduceIte, Nat.reduceEqDiff, wA, wB, wC, wD]
    refine ⟨.inr trivial, m4, rfl, _, ares_cell1 tE sE (b := m1.next) ?_ q4, hA m4 _ he (k03.trans k4 fun z hz e => by omega)⟩
    simp -implicitDefEqProofs only [ev_tm, ↓reduceIte, Nat.reduceEqDiff]
end
end Go.Proofs.YthbfinjddaembaaGreat
/- The abstract machine: scopes whose labels are jumped to again and again. -/
namespace Go.Am
open Go Go.RowKit
section
variable {P : Program} {T : Tb} {fr : Fr} {m : M}
def WpSc (P : Program) (T : Tb) (b rest : Code) (fr : Fr) (m : M) (Q : X → Fr → M → Prop) : Prop :=
  ∀ ds ar, ∃ N x fr' m', (∀ n, N ≤ n → aexec P T n (.sc b rest) ⟨fr, m, ds, ar⟩ = some (x, ⟨fr', m', ds, ar⟩)) ∧ Q x fr' m'
def SJ (P : Program) (T : Tb) (b : Code) (Q : X → Fr → M → Prop) (x : X) (fr : Fr) (m : M) : Prop := match x with
  | .goto l => ∃ rest, findLabel b l = some rest ∧ WpSc P T b rest fr m Q
  | x => Q x fr m
theorem SJ_ret {b : Code} {Q : X → Fr → M → Prop} : SJ P T b Q .ret fr m = Q .ret fr m := rfl
theorem SJ_goto {b rest : Code} {l : Nat} (h1 : findLabel b l = some rest) (Q : X → Fr → M → Prop) (fr : Fr) (m : M) : SJ P T b Q (.goto l) fr m = WpSc P T b rest fr m Q := by
  apply propext
  constructor
  · rintro ⟨r, h3, h4⟩
    rw [h1] at h3
    cases h3
    exact h4
  · intro h
    exact ⟨rest, h1, h⟩
theorem WpSc.of {b rest : Code} {cr : CC} {Q : X → Fr → M → Prop} (hc : comp P rest = cr) (h : GX P T cr (SJ P T b Q) fr m) : WpSc P T b rest fr m Q := by
  intro ds ar
  obtain ⟨N, x, f, m', h1, h2⟩ := GX_ok h rest hc ds ar
  have e : ∀ n, N ≤ n → aStep P T (aexec P T n) (.sc b rest) ⟨fr, m, ds, ar⟩ = onGoto b (aexec P T n) (some (x, ⟨f, m', ds, ar⟩)) := fun n hn => by
    show onGoto b (aexec P T n) (aexec P T n (.c rest) ⟨fr, m, ds, ar⟩) = _
    rw [h1 n hn]
  cases x with
  | normal => exact ⟨N + 1, _, f, m', up (fun n => rfl) e, h2⟩
  | exit i => exact ⟨N + 1, _, f, m', up (fun n => rfl) e, h2⟩
  | ret => exact ⟨N + 1, _, f, m', up (fun n => rfl) e, h2⟩
  | goto l =>
    obtain ⟨r, h3, h4⟩ := h2
    obtain ⟨N2, y, f2, m2, h5, h6⟩ := h4 ds ar
    refine ⟨max N N2 + 1, y, f2, m2, up (fun n => rfl) (fun n hn => (e n (by omega)).trans ?_), h6⟩
    show Option.rec (motive := fun _ => O) _ (fun rest => aexec P T n (.sc b rest) ⟨f, m', ds, ar⟩) (findLabel b l) = _
    rw [h3]
    exact h5 n (by omega)
theorem GX_scope2 {b : Code} {Q : X → Fr → M → Prop} (h : WpSc P T b b fr m Q) : GX P T (.scope b) Q fr m := by
  show WpC P T (.scope b) fr m Q
  intro c hc ds ar
  cases c <;> simp only [comp, reduceCtorEq, CC.scope.injEq] at hc
  case region => rcases notReg (id := 0) hc with ⟨_, h⟩ | ⟨_, _, h⟩ | h <;> cases h
  case scope c1 =>
    subst hc
    obtain ⟨N, x, f, m', h1, h2⟩ := h ds ar
    exact ⟨N + 1, x, f, m', up (fun n => rfl) (fun n hn => h1 n hn), h2⟩
end
end Go.Am
/- What the parts of a log tell; a block that is read. -/
namespace Go.Proofs.YthbfinjddaembaaGreat
open Go Go.Am
def Ds.ct (S : Ds) (k : Nat) : Bs := ((S.L[k]?).map cLast).getD []
def ents9 (c : Nat → Bs) (tail : Nat) : Nat → List Nat → List (Int × Bs)
  | _, [] => []
  | u, k :: l => ((k : Int), c (2 + (tail + u) % 9)) :: ents9 c tail (u + 1) l
def rpl (c : Nat → Bs) (tail used : Nat) : Nat → Nat → Option (List (Nat × List (Int × Bs)))
  | 0, _ => none
  | f + 1, at' => if at' = used then some [] else
    if udN (c (2 + (tail + at') % 9)) ≤ 27 ∧ c (2 + (tail + at') % 9) = descB (uhA (c (2 + (tail + at') % 9))) (udL (c (2 + (tail + at') % 9)) (udN (c (2 + (tail + at') % 9)))) then
      if udN (c (2 + (tail + at') % 9)) = 0 ∨ used ≤ at' + udN (c (2 + (tail + at') % 9)) ∨ oddL (udL (c (2 + (tail + at') % 9)) (udN (c (2 + (tail + at') % 9)))) then none
      else (rpl c tail used f (at' + 1 + udN (c (2 + (tail + at') % 9)))).map fun r => (uhA (c (2 + (tail + at') % 9)), ents9 c tail (at' + 1) (udL (c (2 + (tail + at') % 9)) (udN (c (2 + (tail + at') % 9))))) :: r
    else none
def seqsOk (seq : Nat) (sq : List Nat) : Prop := ∀ i (h : i < sq.length), (sq[i] : Int) = (seq : Int) - sq.length + i
instance (seq : Nat) (sq : List Nat) : Decidable (seqsOk seq sq) := by unfold seqsOk; infer_instance
def rplOk (seq : Nat) (sq : List Nat) (r : Option (List (Nat × List (Int × Bs)))) : Option (List (Int × Bs)) := match r with
  | none => none
  | some ps => if seqsOk seq (sq ++ ps.map (·.1)) then some (ps.flatMap (·.2)) else none
theorem ents9_take (c : Nat → Bs) (tail : Nat) : ∀ (l : List Nat) (u k : Nat) (h : k < l.length), (ents9 c tail u l).take (k + 1) = (ents9 c tail u l).take k ++ [((l[k] : Int), c (2 + (tail + (u + k)) % 9))]
  | [], _, k, h => by cases h
  | a :: l, u, 0, h => by simp [ents9]
  | a :: l, u, k + 1, h => by
    have := ents9_take c tail l (u + 1) k (by simpa using h)
    simp only [ents9, List.take_succ_cons, List.cons_append, List.getElem_cons_succ]
    rw [this, show u + 1 + k = u + (k + 1) by omega]
theorem ents9_len (c : Nat → Bs) (tail : Nat) : ∀ (l : List Nat) (u : Nat), (ents9 c tail u l).length = l.length
  | [], _ => rfl
  | a :: l, u => by simp [ents9, ents9_len c tail l]
theorem putAll_two (g : Nat → Option Bs) (l k : List (Int × Bs)) (z : Nat) : putAll (putAll g l) k z = putAll g (l ++ k) z := by
  unfold putAll
  rw [List.foldl_append]
theorem putAll_congr {g g' : Nat → Option Bs} (h : ∀ z, g z = g' z) (l : List (Int × Bs)) (z : Nat) : putAll g l z = putAll g' l z := by
  unfold putAll
  rw [h]
section
variable {m : M} {lg d mb cb n w : Nat} {seq tail used : Nat} {S : Ds} {P : List Pe}
theorem dread2 {D : Dv} (hw : Wf m) (h : DvAt m d cb D) (hd : D.dead = false) {k : Nat} {c : Cw} (hk : D.L[k]? = some c) (hl : c.wl.length ≤ 1000000) (h64 : c.last.2.1.length = 64) :
    ∃ m' b cap, BtU m' (.slice b 0 64 cap false) c.last.2.1 b ∧ 64 ≤ cap ∧ Keep m m' (fun _ => False) ∧ m.next ≤ b ∧ Ran Tryz.prog tb fn_b9 [.ptr d 0, iv k] m (.tuple [.slice b 0 64 cap false, iv 0]) m' := by
  have hlt := (List.getElem?_eq_some_iff.1 hk).1
  obtain ⟨m1, s, b, hb, hs, hk1, hn, r⟩ := clone_ran2 hw (h.ok c (List.mem_of_getElem? hk)).last.bs (fun e => by rw [e] at h64; cases h64) (by omega)
  have hse : ∃ cap, s = .slice b 0 64 cap false ∧ 64 ≤ cap := by
    rw [h64] at hs
    generalize ycells c.last.2.1 = y at hs
    cases hs with
    | row h1 h2 h3 h4 h5 => exact ⟨_, rfl, h4⟩
  obtain ⟨cap, rfl, hcap⟩ := hse
  refine ⟨m1, b, cap, hb, hcap, hk1, hn, ?_⟩
  refine WpF.go at_b9 ?_
  simp -implicitDefEqProofs only [o_b9, r_b9_0, r_b9_1, r_b9_3, r_b9_5, r_b9_6, r_b9_8, b_np24, h.dev.rd, hd, (dat h hlt).eq, b_np77, (dlast h hk hl).eq, r.eq, ↓reduceIte, Nat.reduceEqDiff, Nat.reduceAdd, wA, wB, wC, wD]
theorem ds_read2 (hw : Wf m) (h : DsAt m d cb S) (hB : S.Bd n w) (hw4 : w ≤ 400) (hd : S.dead = false) {k : Nat} (hk : k < 60) :
    ∃ m' b cap, BtU m' (.slice b 0 64 cap false) (S.ct k) b ∧ 64 ≤ cap ∧ (S.ct k).length = 64 ∧ Keep m m' (fun _ => False) ∧ m.next ≤ b ∧ Ran Tryz.prog tb fn_b9 [.ptr d 0, iv k] m (.tuple [.slice b 0 64 cap false, iv 0]) m' := by
  obtain ⟨D, hD, rfl⟩ := h
  have hlen : D.L.length = 60 := by have := hB.len; simpa [Dv.ds] using this
  have hx : D.L[k]? = some D.L[k] := List.getElem?_eq_getElem (by omega)
  generalize D.L[k] = x at hx
  have hm : x.cs ∈ D.ds.L := List.mem_map_of_mem (List.mem_of_getElem? hx)
  have h1 := hB.wt _ hm
  have h1 : x.wl.length ≤ w := by simpa [Cw.cs] using h1
  have hct : D.ds.ct k = x.last.2.1 := by
    unfold Ds.ct
    show (((D.L.map Cw.cs)[k]?).map cLast).getD [] = _
    rw [List.getElem?_map, hx]
    show cLast x.cs = _
    exact cs_last x
  have h64 : x.last.2.1.length = 64 := by rw [← cs_last]; exact cLast_len (hB.b1 _ hm) (hB.b2 _ hm)
  rw [hct]
  obtain ⟨m', b, cap, h2, h3, h4, h5, h6⟩ := dread2 hw hD hd hx (by omega) h64
  exact ⟨m', b, cap, h2, h3, h64, h4, h5, h6⟩
end
end Go.Proofs.YthbfinjddaembaaGreat
