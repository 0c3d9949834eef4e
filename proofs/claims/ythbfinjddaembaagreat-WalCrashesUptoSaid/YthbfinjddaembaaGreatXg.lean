import Derived.Test.YthbfinjddaembaaGreatXe
set_option linter.unusedVariables false
set_option linter.unusedSimpArgs false
/- replay. -/
namespace Go.Proofs.YthbfinjddaembaaGreat
open Go Go.Am
theorem rplOk_cons (seq : Nat) (sq : List Nat) (a : Nat) (E : List (Int × Bs)) (r : Option (List (Nat × List (Int × Bs)))) : rplOk seq sq (r.map fun r => (a, E) :: r) = (rplOk seq (sq ++ [a]) r).map fun es => E ++ es := by
  cases r with
  | none => rfl
  | some ps =>
    show (if seqsOk seq (sq ++ a :: ps.map (·.1)) then some (E ++ ps.flatMap (·.2)) else none) = Option.map _ (if seqsOk seq ((sq ++ [a]) ++ ps.map (·.1)) then some (ps.flatMap (·.2)) else none)
    rw [show sq ++ a :: ps.map (·.1) = (sq ++ [a]) ++ ps.map (·.1) by simp]
    split <;> rfl
section
variable {m0 : M} {lg d mb cb n w : Nat} {seq tail used : Nat} {S : Ds}
set_option maxHeartbeats 1000000 in
theorem replay_check {m : M} {y : AV} {sq : List Nat} {o : Option Nat} {fr : Fr} (hg : LgAt m lg d mb seq tail used false) (hy : NsAt m y sq o) (hl : sq.length ≤ 100) (hseq : seq < 2 ^ 32)
    (e0 : ev (tm 0) fr = .ptr lg 0) (e4 : ev (tm 4) fr = y) {Q : AV → M → Prop} (hQ : Q (iv (if seqsOk seq sq then 0 else 9)) m) : WpSc Tryz.prog tb b_Log_replay (restOf b_Log_replay 0) fr m (FK Tryz.prog [.tmp 2] Q) := by
  refine WpSc.of hc_Log_replay_0 ?_
  have q13 : m.rd lg 13 = some (iv seq) := by rw [hg.rd]; rfl
  have hyl : lenK false y = some sq.length := hy.len
  simp -implicitDefEqProofs only [o_cr_Log_replay_0, r_d5_22, e4, hyl, ↓reduceIte, wA, wB, wC, wD]
  refine GX_loop (fun j fr mk => ∃ k, k ≤ sq.length ∧ j = sq.length - k ∧ (ev (tm 0) fr = .ptr lg 0 ∧ ev (tm 4) fr = y ∧ ev (tm 102) fr = y ∧ ev (tm 103) fr = iv (sq.length : Nat) ∧ ev (tm 104) fr = iv k) ∧ (∀ i (h : i < sq.length), i < k → (sq[i] : Int) = (seq : Int) - sq.length + i) ∧ mk = m) (k := sq.length) ⟨0, Nat.zero_le _, rfl, by simp -implicitDefEqProofs only [e0, e4, nc0, ev_tm, ↓reduceIte, Nat.reduceEqDiff, nc0, and_self], (fun _ _ h => by omega), rfl⟩ ?_
  rintro j fr mk ⟨k, hk, rfl, ⟨e0, e4, e102, e103, e104⟩, hs, rfl⟩
  by_cases hlt : k < sq.length
  · obtain ⟨b, cap, hx, hr⟩ := ns_el hy hlt
    have hC : (k : Int) + 1 = ((k + 1 : Nat) : Int) := by omega
    rw [hx] at e102
    by_cases hc : ((sq[k] : Nat) : Int) = (seq : Int) - sq.length + k
    · simp -implicitDefEqProofs only [o_cr_Log_replay_0, r_d5_23, r_d5_24, r_d5_25, r_d5_27, e0, e4, e102, e103, e104, show ((k : Int) < (sq.length : Int)) = True from eq_true (by omega), v_iaS 1 b 0 sq.length cap false hlt, Nat.mul_one, hr, q13, hyl, b_sub ty_int (show -9223372036854775808 ≤ (seq : Int) - (sq.length : Int) by omega) (show (seq : Int) - (sq.length : Int) ≤ 9223372036854775807 by omega), b_add ty_int (show -9223372036854775808 ≤ (seq : Int) - (sq.length : Int) + (k : Int) by omega) (show (seq : Int) - (sq.length : Int) + (k : Int) ≤ 9223372036854775807 by omega), eq_true hc, b_add ty_int (show -9223372036854775808 ≤ (k : Int) + 1 by omega) (show (k : Int) + 1 ≤ 9223372036854775807 by omega), ↓reduceIte, Nat.reduceEqDiff, wA, wB, wC, wD]
      rw [← hx] at e102
      refine LK_n (k' := sq.length - (k + 1)) (by omega) ⟨k + 1, by omega, rfl, by simp -implicitDefEqProofs only [e0, e4, e102, e103, hC, hx, ev_tm, ↓reduceIte, Nat.reduceEqDiff, and_self], fun i h hi => ?_, rfl⟩
      by_cases hik : i = k
      · subst hik; exact hc
      · exact hs i h (by omega)
    · have hno : ¬ seqsOk seq sq := fun h => hc (h k hlt)
      rw [if_neg hno] at hQ
      simp -implicitDefEqProofs only [o_cr_Log_replay_0, r_d5_23, r_d5_24, r_d5_25, r_d5_26, e0, e4, e102, e103, e104, show ((k : Int) < (sq.length : Int)) = True from eq_true (by omega), v_iaS 1 b 0 sq.length cap false hlt, Nat.mul_one, hr, q13, hyl, b_sub ty_int (show -9223372036854775808 ≤ (seq : Int) - (sq.length : Int) by omega) (show (seq : Int) - (sq.length : Int) ≤ 9223372036854775807 by omega), b_add ty_int (show -9223372036854775808 ≤ (seq : Int) - (sq.length : Int) + (k : Int) by omega) (show (seq : Int) - (sq.length : Int) + (k : Int) ≤ 9223372036854775807 by omega), eq_false hc, SJ_ret, ↓reduceIte, Nat.reduceEqDiff, wA, wB, wC, wD]
      exact hQ
  · have hkl : k = sq.length := by omega
    subst hkl
    have hyes : seqsOk seq sq := fun i h => hs i h h
    rw [if_pos hyes] at hQ
    simp -implicitDefEqProofs only [o_cr_Log_replay_0, r_d5_23, r_d5_28, e103, e104, show ((sq.length : Int) < (sq.length : Int)) = False from eq_false (by omega), SJ_ret, ↓reduceIte, wA, wB, wC, wD]
    exact hQ
set_option maxRecDepth 20000 in
set_option maxHeartbeats 4000000 in
theorem replay_part (hw0 : Wf m0) (hg0 : LgAt m0 lg d mb seq tail used false) (h0 : DsAt m0 d cb S) (hB : S.Bd n w) (hw4 : w ≤ 400) (hd : S.dead = false) (hseq : seq < 2 ^ 32) (ht : tail < 9) (hu : used ≤ 9) (hmb : kd m0 mb 0) {Q : AV → M → Prop} :
    ∀ (f at' : Nat) (sq : List Nat) (P : List Pe) (y : AV) (o : Option Nat) (fr : Fr) (m : M), used - at' < f → at' ≤ used → sq.length ≤ at' → ev (tm 0) fr = .ptr lg 0 → ev (tm 4) fr = y → ev (tm 6) fr = iv at' → NsAt m y sq o → (∀ bo, o = some bo → m0.next ≤ bo) → PmAt m mb P → KeepK m0 m [] [mb] →
      (rplOk seq sq (rpl S.ct tail used f at') = none → ∀ m' P', PmAt m' mb P' → KeepK m0 m' [] [mb] → Q (iv 9) m') →
      (∀ es, rplOk seq sq (rpl S.ct tail used f at') = some es → ∀ m' P', PmAt m' mb P' → (∀ k, pbs P' k = putAll (pbs P) es k) → KeepK m0 m' [] [mb] → Q (iv 0) m') →
      GX Tryz.prog tb cr_Log_replay_1 (SJ Tryz.prog tb b_Log_replay (FK Tryz.prog [.tmp 2] Q)) fr m
  | 0, at', sq, P, y, o, fr, m, hf, hau, hsl, e0, e4, e6, hy, hoy, hP, kk, hbad, hok => by omega
  | f + 1, at', sq, P, y, o, fr, m, hf, hau, hsl, e0, e4, e6, hy, hoy, hP, kk, hbad, hok => by
    have hg := hg0.kp hw0 kk
    have hD := h0.kp hw0 kk
    have q15 : m.rd lg 15 = some (iv used) := by rw [hg.rd]; rfl
    by_cases hend : at' = used
    · subst hend
      simp -implicitDefEqProofs only [o_cr_Log_replay_1, r_d5_5, e0, e6, q15, SJ_goto hl_Log_replay_0, ↓reduceIte, Nat.reduceEqDiff, Nat.reduceAdd, wA, wB, wC, wD]
      refine replay_check hg hy (by omega) hseq (by simp -implicitDefEqProofs only [e0, ev_tm, ↓reduceIte, Nat.reduceEqDiff]) (by simp -implicitDefEqProofs only [e4, ev_tm, ↓reduceIte, Nat.reduceEqDiff]) ?_
      have er : rpl S.ct tail at' (f + 1) at' = some [] := by unfold rpl; rw [if_pos rfl]
      rw [er] at hbad hok
      by_cases hs : seqsOk seq sq
      · rw [if_pos hs]
        have e1 : rplOk seq sq (some []) = some [] := by unfold rplOk; simp [hs]
        exact hok [] e1 m P hP (fun _ => rfl) kk
      · rw [if_neg hs]
        have e1 : rplOk seq sq (some []) = none := by unfold rplOk; simp [hs]
        exact hbad e1 m P hP kk
    · have hne : ¬ ((at' : Int) = (used : Int)) := by omega
      have qd : m.rd lg 0 = some (.ptr d 0) := by rw [hg.rd]; rfl
      have ra := at_ran (k := at') hg (by omega) (by omega)
      obtain ⟨m1, b1, cap1, hb1, hcap1, hc64, k1, hn1, r1⟩ := ds_read2 (k := 2 + (tail + at') % 9) kk.wf hD hB hw4 hd (by omega)
      obtain ⟨m2, v2, k2, r2, hcase⟩ := undesc k1.wf hb1.bs hc64 hcap1
      have er : rpl S.ct tail used (f + 1) at' = if udN (S.ct (2 + (tail + at') % 9)) ≤ 27 ∧ S.ct (2 + (tail + at') % 9) = descB (uhA (S.ct (2 + (tail + at') % 9))) (udL (S.ct (2 + (tail + at') % 9)) (udN (S.ct (2 + (tail + at') % 9)))) then
          if udN (S.ct (2 + (tail + at') % 9)) = 0 ∨ used ≤ at' + udN (S.ct (2 + (tail + at') % 9)) ∨ oddL (udL (S.ct (2 + (tail + at') % 9)) (udN (S.ct (2 + (tail + at') % 9)))) then none
          else (rpl S.ct tail used f (at' + 1 + udN (S.ct (2 + (tail + at') % 9)))).map fun r => (uhA (S.ct (2 + (tail + at') % 9)), ents9 S.ct tail (at' + 1) (udL (S.ct (2 + (tail + at') % 9)) (udN (S.ct (2 + (tail + at') % 9))))) :: r
        else none := by
        conv => lhs; unfold rpl
        rw [if_neg hend]
      generalize hct : S.ct (2 + (tail + at') % 9) = B at hb1 hc64 hcase er
      have k02 : KeepK m0 m2 [] [mb] := kk.tf (k1.tf k2)
      have hP2 := hP.k0 kk.wf (k1.tf k2)
      have hy2 := hy.keep kk.wf (k1.tf k2) fun _ _ h => h
      have hg2 := hg0.kp hw0 k02
      have q152 : m2.rd lg 15 = some (iv used) := by rw [hg2.rd]; rfl
      rcases hcase with ⟨hN, hBd, x, o2, rfl, hx, hox⟩ | ⟨hno, sq', x, rfl⟩
      · rw [if_pos ⟨hN, hBd⟩] at er
        have hxl : lenK false x = some (udN B) := by rw [hx.len, udL_len]
        have hxq : aveq 40 x x = true := hx.aq
        have rnone : (udN B = 0 ∨ used ≤ at' + udN B ∨ oddL (udL B (udN B))) → rplOk seq sq (rpl S.ct tail used (f + 1) at') = none := fun h => by rw [er, if_pos h]; rfl
        by_cases hz : udN B = 0
        · have hzi : ((udN B : Nat) : Int) = 0 := by omega
          simp -implicitDefEqProofs only [o_cr_Log_replay_1, r_d5_5, r_d5_6, r_d5_7, r_d5_9, r_d5_10, r_d5_11, e0, e6, q15, eq_false hne, qd, ra.eq, r1.eq, r2.eq, hxl, hzi, SJ_ret, ↓reduceIte, Nat.reduceEqDiff, Nat.reduceAdd, exists_eq_left', wA, wB, wC, wD]
          exact hbad (rnone (.inl hz)) m2 P hP2 k02
        · have hzi : ¬ ((udN B : Nat) : Int) = 0 := by omega
          have hpos : 0 < udN B := by omega
          have hadd : (at' : Int) + (udN B : Int) = ((at' + udN B : Nat) : Int) := by omega
          by_cases hfit : used ≤ at' + udN B
          · simp -implicitDefEqProofs only [o_cr_Log_replay_1, r_d5_5, r_d5_6, r_d5_7, r_d5_9, r_d5_10, r_d5_11, e0, e6, q15, eq_false hne, qd, ra.eq, r1.eq, r2.eq, hxl, eq_false hzi, b_add ty_int (show -9223372036854775808 ≤ (at' : Int) + (udN B : Int) by omega) (show (at' : Int) + (udN B : Int) ≤ 9223372036854775807 by omega), hadd, q152, show ((used : Int) ≤ ((at' + udN B : Nat) : Int)) = True from eq_true (by omega), SJ_ret, ↓reduceIte, Nat.reduceEqDiff, Nat.reduceAdd, exists_eq_left', wA, wB, wC, wD]
            exact hbad (rnone (.inr (.inl hfit))) m2 P hP2 k02
          · obtain ⟨m3, k3, r3⟩ := odd_ran k2.wf hg2 hx (by intro e; have := congrArg List.length e; rw [udL_len] at this; simp at this; omega) (by rw [udL_len]; omega)
            have k03 := k02.tf k3
            by_cases hod : oddL (udL B (udN B))
            · rw [decide_eq_true hod] at r3
              simp -implicitDefEqProofs only [o_cr_Log_replay_1, r_d5_5, r_d5_6, r_d5_7, r_d5_9, r_d5_10, r_d5_11, e0, e6, q15, eq_false hne, qd, ra.eq, r1.eq, r2.eq, hxl, eq_false hzi, b_add ty_int (show -9223372036854775808 ≤ (at' : Int) + (udN B : Int) by omega) (show (at' : Int) + (udN B : Int) ≤ 9223372036854775807 by omega), hadd, q152, show ((used : Int) ≤ ((at' + udN B : Nat) : Int)) = False from eq_false (by omega), r3.eq, SJ_ret, ↓reduceIte, Nat.reduceEqDiff, Nat.reduceAdd, exists_eq_left', wA, wB, wC, wD]
              exact hbad (rnone (.inr (.inr hod))) m3 P (hP2.k0 k2.wf k3) k03
            · rw [decide_eq_false hod] at r3
              have hnoo : ¬ (udN B = 0 ∨ used ≤ at' + udN B ∨ oddL (udL B (udN B))) := fun h => by
                rcases h with h | h | h
                · exact hz h
                · exact hfit h
                · exact hod h
              rw [if_neg hnoo] at er
              obtain ⟨m4, f4, a4, k4, n4⟩ := addL_at k3.wf ty_int 1 [iv (uhA B : Nat)]
              have src : SlAt m4 ty_int 1 (.slice m3.next 0 1 1 false) 1 [iv (uhA B : Nat)] (some m3.next) := .row (junk := []) a4 rfl rfl (Nat.le_refl _) (by decide)
              obtain ⟨y', m5, o', ea, hy5, k5, ho5⟩ := ((hy2.keep k2.wf k3 fun _ _ h => h).keep k3.wf k4 fun _ _ h => h).append (bytes := 8) (z := [iv 0]) k4.wf src.src (room_of (by omega) (by omega))
              have hx4 := (hx.keep k2.wf k3 fun _ _ h => h).keep k3.wf k4 fun _ _ h => h
              have k04 := k03.tf k4
              have hl04 := k04.next
              have hl3 := k3.next
              have hl4 := k4.next
              have hlk := kk.next
              have hl1 := k1.next
              have hl2 := k2.next
              have hoy' : ∀ bo, o' = some bo → m0.next ≤ bo := fun bo hbo => by
                rcases ho5 with e | ⟨b', e, h5, _⟩
                · exact hoy bo (e ▸ hbo)
                · rw [e] at hbo; cases hbo; omega
              have hoxne : ∀ bx, o2 = some bx → ¬ o = some bx := fun bx hbx e => by
                have h1 := hox bx hbx
                have h2 := hy.blk_lt kk.wf e
                omega
              have hx5 := hx4.keep k4.wf k5 hoxne
              have k05 : KeepK m0 m5 [] [mb] := k04.trans k5 fun z hz e => by have := hoy z e; omega
              have hP5 : PmAt m5 mb P := by
                have h3 := (hP2.k0 k2.wf k3).k0 k3.wf k4
                refine ⟨h3.mp.keep k4.wf k5 fun e => ?_, fun e he => (h3.da e he).keep k4.wf k5 fun e2 => ?_, h3.nd, h3.rg⟩
                · rw [e] at hy
                  exact absurd (hy.kd.inj hP.mp.kd) (by decide)
                · have h4 := hP.da e he
                  rw [e2] at hy
                  exact absurd (hy.kd.inj h4.kd) (by decide)
              have hsq' : (sq ++ [uhA B]).length = sq.length + 1 := by simp
              have hyN : NsAt m5 y' (sq ++ [uhA B]) o' := by
                show SlAt m5 ty_int 1 y' (sq ++ [uhA B]).length ((sq ++ [uhA B]).map ivn) o'
                rw [hsq', List.map_append]
                exact hy5
              have hLl : (udL B (udN B)).length = udN B := udL_len _ _
              simp -implicitDefEqProofs only [o_cr_Log_replay_1, r_d5_5, r_d5_6, r_d5_7, r_d5_9, r_d5_10, r_d5_12, r_d5_13, e0, e4, e6, q15, eq_false hne, qd, ra.eq, r1.eq, r2.eq, hxl, eq_false hzi, b_add ty_int (show -9223372036854775808 ≤ (at' : Int) + (udN B : Int) by omega) (show (at' : Int) + (udN B : Int) ≤ 9223372036854775807 by omega), hadd, q152, show ((used : Int) ≤ ((at' + udN B : Nat) : Int)) = False from eq_false (by omega), r3.eq, f4, ea, ↓reduceIte, Nat.reduceEqDiff, Nat.reduceAdd, Nat.reduceLeDiff, exists_eq_left', wA, wB, wC, wD]
              refine GX_loop (fun j fr mk => ∃ k Pk, k ≤ udN B ∧ j = udN B - k ∧ (ev (tm 0) fr = .ptr lg 0 ∧ ev (tm 3) fr = x ∧ ev (tm 4) fr = y' ∧ ev (tm 6) fr = iv at' ∧ ev (tm 66) fr = iv (udN B : Nat) ∧ ev (tm 67) fr = iv k) ∧ PmAt mk mb Pk ∧ (∀ z, pbs Pk z = putAll (pbs P) ((ents9 S.ct tail (at' + 1) (udL B (udN B))).take k) z) ∧ KeepK m5 mk [] [mb]) (k := udN B) ⟨0, P, Nat.zero_le _, rfl, by simp -implicitDefEqProofs only [e0, e6, nc0, ev_tm, ↓reduceIte, Nat.reduceEqDiff, nc0, and_self], hP5, (fun _ => rfl), Keep.refl k5.wf _⟩ ?_
              rintro j fr' mk ⟨k, Pk, hk, rfl, ⟨e0', e3', e4', e6', e66, e67⟩, hPk, hpk, kk5⟩
              have k0k : KeepK m0 mk [] [mb] := k05.tk kk5
              have gk := hg0.kp hw0 k0k
              have dk := h0.kp hw0 k0k
              have hxk := hx5.kp k5.wf kk5
              by_cases hlt : k < udN B
              · have qdk : mk.rd lg 0 = some (.ptr d 0) := by rw [gk.rd]; rfl
                have rak := at_ran (k := at' + 1 + k) gk (by omega) (by omega)
                obtain ⟨p1, pb, pcap, hpb, hpcap, hp64, kp1, hpn, rp1⟩ := ds_read2 (k := 2 + (tail + (at' + 1 + k)) % 9) k0k.wf dk hB hw4 hd (by omega)
                have hxp := hxk.keep k0k.wf kp1 fun _ _ h => h
                obtain ⟨xb, xcap, hxe, hr⟩ := ns_el hxp (k := k) (by rw [hLl]; exact hlt)
                rw [hLl] at hxe
                have hzz : (udL B (udN B))[k]? = some ((udL B (udN B))[k]'(by rw [hLl]; exact hlt)) := List.getElem?_eq_getElem _
                have htk := ents9_take S.ct tail (udL B (udN B)) (at' + 1) k (by rw [hLl]; exact hlt)
                generalize (udL B (udN B))[k]'(by rw [hLl]; exact hlt) = z at hr hzz htk
                have hz60 : z < 60 := by
                  refine Nat.lt_of_not_le fun h => hod (.inr ⟨z, List.mem_of_getElem? hzz, .inr h⟩)
                have gp1 := gk.keep k0k.wf kp1 fun h => h
                have q16 : p1.rd lg 16 = some (.map mb) := by rw [gp1.rd]; rfl
                have hPp := hPk.k0 k0k.wf kp1
                obtain ⟨p2, fu, hm2, kp2, np2⟩ := hPp.mp.upd kp1.wf z (.slice pb 0 64 pcap false)
                have hC1 : (at' : Int) + 1 = ((at' + 1 : Nat) : Int) := by omega
                have hC2 : ((at' + 1 : Nat) : Int) + (k : Int) = ((at' + 1 + k : Nat) : Int) := by omega
                have hC3 : (k : Int) + 1 = ((k + 1 : Nat) : Int) := by omega
                have hsc : cellsO (.slice pb 0 64 pcap false) = some [.slice pb 0 64 pcap false] := rfl
                rw [hxe] at e3'
                simp -implicitDefEqProofs only [o_cr_Log_replay_1, r_d5_14, r_d5_15, r_d5_16, r_d5_17, r_d5_19, r_d5_20, e0', e3', e6', e66, e67, show ((k : Int) < (udN B : Int)) = True from eq_true (by omega), qdk, b_add ty_int (show -9223372036854775808 ≤ (at' : Int) + 1 by omega) (show (at' : Int) + 1 ≤ 9223372036854775807 by omega), hC1, b_add ty_int (show -9223372036854775808 ≤ ((at' + 1 : Nat) : Int) + (k : Int) by omega) (show ((at' + 1 : Nat) : Int) + (k : Int) ≤ 9223372036854775807 by omega), hC2, rak.eq, rp1.eq, q16, v_iaS 1 xb 0 (udN B) xcap false hlt, Nat.mul_one, hr, fu, b_add ty_int (show -9223372036854775808 ≤ (k : Int) + 1 by omega) (show (k : Int) + 1 ≤ 9223372036854775807 by omega), ↓reduceIte, Nat.reduceEqDiff, exists_eq_left', wA, wB, wC, wD]
                rw [← hxe] at e3'
                refine LK_n (k' := udN B - (k + 1)) (by omega) ⟨k + 1, pput Pk (z, .slice pb 0 64 pcap false, S.ct (2 + (tail + (at' + 1 + k)) % 9), pb), by omega, rfl, by simp -implicitDefEqProofs only [e0', e3', e4', e6', e66, hC3, hxe, ev_tm, ↓reduceIte, Nat.reduceEqDiff, and_self], ?_, fun v => ?_, (kk5.tf kp1).tk (kp2.km (E := []) (S := [mb]) hPp.mp.kd)⟩
                · refine ⟨by rw [pput_pal]; exact hm2, fun e he => ?_, pput_nd _ hPk.nd, fun e he => ?_⟩
                  · rcases pput_mem he with rfl | he
                    · exact hpb.keep kp1.wf kp2 fun e => by subst e; exact absurd (hpb.kd.inj hPp.mp.kd) (by decide)
                    · exact (hPp.da e he).keep kp1.wf kp2 fun e2 => by
                        have := (hPp.da e he).kd
                        rw [e2] at this
                        exact absurd (this.inj hPp.mp.kd) (by decide)
                  · rcases pput_mem he with rfl | he
                    · exact ⟨hz60, hp64⟩
                    · exact hPk.rg e he
                · rw [htk, putAll_app, ← hpk v]
                  unfold pbs
                  rw [pput_get]
                  show ((if v = z then some (z, _, S.ct (2 + (tail + (at' + 1 + k)) % 9), pb) else pget Pk v).map _) = if ((z : Nat) : Int) = (v : Int) then _ else _
                  by_cases hvz : v = z
                  · rw [if_pos hvz, if_pos (by omega)]; rfl
                  · rw [if_neg hvz, if_neg (by omega)]
              · have hkN : k = udN B := by omega
                subst hkN
                have hxlk : lenK false x = some (udN B) := hxl
                have hC1 : (1 : Int) + (udN B : Int) = ((1 + udN B : Nat) : Int) := by omega
                have hC2 : (at' : Int) + ((1 + udN B : Nat) : Int) = ((at' + 1 + udN B : Nat) : Int) := by omega
                simp -implicitDefEqProofs only [o_cr_Log_replay_1, r_d5_14, r_d5_21, e3', e6', e66, e67, show ((udN B : Int) < (udN B : Int)) = False from eq_false (by omega), hxlk, b_add ty_int (show -9223372036854775808 ≤ (1 : Int) + (udN B : Int) by omega) (show (1 : Int) + (udN B : Int) ≤ 9223372036854775807 by omega), hC1, b_add ty_int (show -9223372036854775808 ≤ (at' : Int) + ((1 + udN B : Nat) : Int) by omega) (show (at' : Int) + ((1 + udN B : Nat) : Int) ≤ 9223372036854775807 by omega), hC2, SJ_goto hl_Log_replay_1, ↓reduceIte, Nat.reduceEqDiff, wA, wB, wC, wD]
                rw [List.take_of_length_le (by rw [ents9_len, hLl]; exact Nat.le_refl _)] at hpk
                have hcons := rplOk_cons seq sq (uhA B) (ents9 S.ct tail (at' + 1) (udL B (udN B))) (rpl S.ct tail used f (at' + 1 + udN B))
                rw [er, hcons] at hbad hok
                refine WpSc.of hc_Log_replay_1 (replay_part hw0 hg0 h0 hB hw4 hd hseq ht hu hmb f (at' + 1 + udN B) (sq ++ [uhA B]) Pk y' o' _ mk (by omega) (by omega) (by rw [hsq']; omega) (by simp -implicitDefEqProofs only [e0', ev_tm, ↓reduceIte, Nat.reduceEqDiff]) (by simp -implicitDefEqProofs only [e4', ev_tm, ↓reduceIte, Nat.reduceEqDiff]) (by simp -implicitDefEqProofs only [ev_tm, ↓reduceIte]) (hyN.kp k5.wf kk5) hoy' hPk k0k (fun hr m' P' h1 h2 => ?_) (fun es hr m' P' h1 h2 h3 => ?_))
                · exact hbad (by rw [hr]; rfl) m' P' h1 h2
                · exact hok _ (by rw [hr]; rfl) m' P' h1 (fun v => by rw [h2 v, putAll_congr hpk, putAll_two]) h3
      · have rno : rplOk seq sq (rpl S.ct tail used (f + 1) at') = none := by rw [er, if_neg hno]; rfl
        simp -implicitDefEqProofs only [o_cr_Log_replay_1, r_d5_5, r_d5_6, r_d5_7, r_d5_9, r_d5_10, r_d5_11, e0, e6, q15, eq_false hne, qd, ra.eq, r1.eq, r2.eq, show ((4 : Int) = 0) = False from eq_false (by omega), SJ_ret, ↓reduceIte, Nat.reduceEqDiff, Nat.reduceAdd, exists_eq_left', wA, wB, wC, wD]
        exact hbad rno m2 P hP2 k02
theorem replay_ok (hw0 : Wf m0) (hg0 : LgAt m0 lg d mb seq tail used false) (h0 : DsAt m0 d cb S) (hB : S.Bd n w) (hw4 : w ≤ 400) (hd : S.dead = false) (hseq : seq < 2 ^ 32) (ht : tail < 9) (hu : used ≤ 9) (hP : PmAt m0 mb []) {Q : AV → M → Prop}
    (hbad : rplOk seq [] (rpl S.ct tail used 11 0) = none → ∀ m' P', PmAt m' mb P' → KeepK m0 m' [] [mb] → Q (iv 9) m')
    (hok : ∀ es, rplOk seq [] (rpl S.ct tail used 11 0) = some es → ∀ m' P', PmAt m' mb P' → (∀ k, pbs P' k = putAll (fun _ => none) es k) → KeepK m0 m' [] [mb] → Q (iv 0) m') : WpF Tryz.prog tb fn_d5 [.ptr lg 0] m0 Q := by
  refine WpF.go at_d5 ?_
  simp -implicitDefEqProofs only [o_d5, r_d5_0, wA, wB, wC, wD]
  refine GX_scope2 (WpSc.of hb_Log_replay ?_)
  have hcb : cb_Log_replay = .seq (.reg r_d5_1) (.seq (.reg r_d5_2) (.seq (.reg r_d5_3) (.seq (.reg r_d5_4) cr_Log_replay_1))) := rfl
  rw [hcb]
  simp -implicitDefEqProofs only [r_d5_1, r_d5_2, r_d5_3, r_d5_4, wA, wB, wC, wD]
  exact replay_part hw0 hg0 h0 hB hw4 hd hseq ht hu hP.mp.kd 11 0 [] [] nils none _ m0 (by omega) (Nat.zero_le _) (Nat.le_refl _) (by simp -implicitDefEqProofs only [ev_tm, ↓reduceIte, Nat.reduceEqDiff]) (by simp -implicitDefEqProofs only [ev_tm, ↓reduceIte, Nat.reduceEqDiff]) (by simp -implicitDefEqProofs only [nc0, ev_tm, ↓reduceIte, Nat.reduceEqDiff, nc0]) .nil (fun _ h => by cases h) hP (Keep.refl hw0 _) hbad hok
end
def opn (c : Nat → Bs) : Option (Nat × Nat × Nat × List (Int × Bs)) :=
  if c 1 = hdrB (uhA (c 1)) (uhB (c 1)) (uhC (c 1)) ∧ uhB (c 1) < 9 ∧ uhC (c 1) ≤ 9 then (rplOk (uhA (c 1)) [] (rpl c (uhB (c 1)) (uhC (c 1)) 11 0)).map fun es => (uhA (c 1), uhB (c 1), uhC (c 1), es) else none
section
variable {m : M} {d cb n w : Nat} {S : Ds}
theorem ds_fit (hw : Wf m) (h : DsAt m d cb S) (hB : S.Bd n w) : ∃ m', Keep m m' (fun _ => False) ∧ Ran Tryz.prog tb fn_h2 [.ptr d 0, .agg smallP] m (iv 0) m' := by
  obtain ⟨D, hD, rfl⟩ := h
  exact fit_ran hw hD (by have := hB.len; simpa [Dv.ds] using this)
set_option maxRecDepth 20000 in
set_option maxHeartbeats 2000000 in
theorem open_ds (hw : Wf m) (h : DsAt m d cb S) (hB : S.Bd n w) (hw4 : w ≤ 400) (hd : S.dead = false) {Q : AV → M → Prop}
    (hbad : opn S.ct = none → ∀ m', Keep m m' (fun _ => False) → Q (.tuple [nilp, iv 9]) m')
    (hok : ∀ seq tail used es, opn S.ct = some (seq, tail, used, es) → ∀ m' lg mb P', LgAt m' lg d mb seq tail used false → PmAt m' mb P' → (∀ k, pbs P' k = putAll (fun _ => none) es k) → seq < 2 ^ 32 → tail < 9 → used ≤ 9 → m.next ≤ lg → m.next ≤ mb → Keep m m' (fun _ => False) → Q (.tuple [.ptr lg 0, iv 0]) m') :
    WpF Tryz.prog tb fn_h1 [.ptr d 0, .agg smallP] m Q := by
  obtain ⟨m1, f1, a1, k1, n1⟩ := addL_at hw ty_api_Plan 12 smallP
  have q1 : m1.rdN m.next 0 12 = some smallP := a1.rdN (i := 0) (n := 12) (Nat.le_refl 12)
  obtain ⟨m2, k2, r2⟩ := ds_fit k1.wf (h.k0 hw k1) hB
  have k02 := k1.tf k2
  obtain ⟨m3, b3, c3, hb3, hc3, h64, k3, hn3, r3⟩ := ds_read2 (k := 1) k02.wf (h.k0 hw k02) hB hw4 hd (by omega)
  have r3 : Ran Tryz.prog tb fn_b9 [.ptr d 0, iv 1] m2 (.tuple [.slice b3 0 64 c3 false, iv 0]) m3 := r3
  have k03 := k02.tf k3
  have a3 := (a1.keep k1.wf k2 fun h => h).keep k02.wf k3 fun h => h
  have q3 : m3.rdN m.next 0 12 = some smallP := a3.rdN (i := 0) (n := 12) (Nat.le_refl 12)
  obtain ⟨hm4, k4⟩ := MpAt.new0 k03.wf
  have n4 : (m3.new (.obj (.map [] (some ([], 0))))).next = m3.next + 1 := M.next_new _ _
  generalize hm4e : m3.new (.obj (.map [] (some ([], 0)))) = m4 at hm4 k4 n4
  obtain ⟨m5, f5, a5, k5, n5⟩ := addL_at k4.wf ty_wal_Log 18 ([.ptr d 0] ++ smallP ++ [iv 0, iv 0, iv 0, .map m3.next, .b false])
  have f5 : m4.addL ty_wal_Log 18 [AV.ptr d 0, iv 64, iv 60, iv 6, iv 9, iv 2, iv 11, iv 1, iv 12, iv 1, iv 13, iv 3, iv 16, iv 0, iv 0, iv 0, AV.map m3.next, AV.b false] = m5 := f5
  have a5 : LgAt m5 m4.next d m3.next 0 0 0 false := a5
  have k45 := k4.tf k5
  have hb5 := hb3.keep k03.wf k45 fun h => h
  obtain ⟨m6, k6, r6⟩ := unheader k5.wf hb5.bs h64 hc3
  have k05 := k03.tf k45
  have k06 := k05.tf k6
  have g6 := a5.kp k5.wf (E := []) (S := []) k6.k0
  have hm6 := (hm4.keep k4.wf k5 fun h => h).keep k5.wf k6 fun h => h
  have a36 := (a3.keep k03.wf k45 fun h => h).keep k5.wf k6 fun h => h
  have hn01 := k1.next
  have hn02 := k02.next
  have hn03 := k03.next
  have hn4 := k4.next
  have hn6 := k6.next
  have hlgn : m4.next < m6.next := by omega
  obtain ⟨l1, l2, l3⟩ := uh_lt (S.ct 1)
  refine WpF.go at_h1 ?_
  by_cases hh : S.ct 1 = hdrB (uhA (S.ct 1)) (uhB (S.ct 1)) (uhC (S.ct 1))
  · rw [if_pos hh] at r6
    obtain ⟨m7, f7, a7, k7, n7⟩ := g6.st k6.wf 13 [iv (uhA (S.ct 1) : Nat), iv (uhB (S.ct 1) : Nat), iv (uhC (S.ct 1) : Nat)]
    have a7 : LgAt m7 m4.next d m3.next (uhA (S.ct 1)) (uhB (S.ct 1)) (uhC (S.ct 1)) false := a7
    have k07 : Keep m m7 fun _ => False := k06.trans k7 fun z hz e => by omega
    have a37 := a36.keep k6.wf k7 (by omega)
    have q4 : m7.rd m.next 3 = some (iv 9) := by rw [a37.rd]; rfl
    have q14 : m7.rd m4.next 14 = some (iv (uhB (S.ct 1) : Nat)) := by rw [a7.rd]; rfl
    have q15 : m7.rd m4.next 15 = some (iv (uhC (S.ct 1) : Nat)) := by rw [a7.rd]; rfl
    by_cases ht : uhB (S.ct 1) < 9
    · by_cases hu : uhC (S.ct 1) ≤ 9
      · have hop : opn S.ct = (rplOk (uhA (S.ct 1)) [] (rpl S.ct (uhB (S.ct 1)) (uhC (S.ct 1)) 11 0)).map fun es => (uhA (S.ct 1), uhB (S.ct 1), uhC (S.ct 1), es) := by unfold opn; rw [if_pos ⟨hh, ht, hu⟩]
        have hm7 := hm6.keep k6.wf k7 (by omega)
        have hP7 : PmAt m7 m3.next [] := ⟨hm7, (fun e he => by cases he), .nil, fun e he => by cases he⟩
        simp -implicitDefEqProofs only [o_h1, r_h1_0, r_h1_1, r_h1_2, r_h1_4, r_h1_5, r_h1_7, r_h1_8, r_h1_9, r_h1_11, f1, q1, r2.eq, r3.eq, q3, hm4e, f5, r6.eq, f7, q14, q4, q15, show ((9 : Int) ≤ ((uhB (S.ct 1) : Nat) : Int)) = False from eq_false (by omega), show ((9 : Int) < ((uhC (S.ct 1) : Nat) : Int)) = False from eq_false (by omega), ↓reduceIte, Nat.reduceEqDiff, Nat.reduceAdd, Nat.reduceLeDiff, exists_eq_left', wA, wB, wC, wD]
        refine replay_ok k07.wf a7 (h.k0 hw k07) hB hw4 hd l1 ht hu hP7 (fun hr m8 P' hP8 hk8 => ?_) (fun es hr m8 P' hP8 hpb hk8 => ?_)
        · simp -implicitDefEqProofs only [o_h1, r_h1_12, r_h1_13, show ((9 : Int) = 0) = False from eq_false (by omega), ↓reduceIte, Nat.reduceEqDiff, wA, wB, wC, wD]
          refine hbad (by rw [hop, hr]; rfl) m8 (k07.trans hk8 fun z hz e => ?_)
          rcases e with ⟨j, hj, _⟩ | ⟨e, _⟩
          · cases hj
          · cases List.mem_singleton.1 e; omega
        · simp -implicitDefEqProofs only [o_h1, r_h1_12, r_h1_14, ↓reduceIte, Nat.reduceEqDiff, wA, wB, wC, wD]
          refine hok _ _ _ es (by rw [hop, hr]; rfl) m8 m4.next m3.next P' (a7.kp k07.wf hk8) hP8 hpb l1 ht hu (by omega) (by omega) (k07.trans hk8 fun z hz e => ?_)
          rcases e with ⟨j, hj, _⟩ | ⟨e, _⟩
          · cases hj
          · cases List.mem_singleton.1 e; omega
      · have hop : opn S.ct = none := by unfold opn; rw [if_neg fun h => hu h.2.2]
        simp -implicitDefEqProofs only [o_h1, r_h1_0, r_h1_1, r_h1_2, r_h1_4, r_h1_5, r_h1_7, r_h1_8, r_h1_9, r_h1_10, f1, q1, r2.eq, r3.eq, q3, hm4e, f5, r6.eq, f7, q14, q4, q15, show ((9 : Int) ≤ ((uhB (S.ct 1) : Nat) : Int)) = False from eq_false (by omega), show ((9 : Int) < ((uhC (S.ct 1) : Nat) : Int)) = True from eq_true (by omega), ↓reduceIte, Nat.reduceEqDiff, Nat.reduceAdd, Nat.reduceLeDiff, exists_eq_left', wA, wB, wC, wD]
        exact hbad hop m7 k07
    · have hop : opn S.ct = none := by unfold opn; rw [if_neg fun h => ht h.2.1]
      simp -implicitDefEqProofs only [o_h1, r_h1_0, r_h1_1, r_h1_2, r_h1_4, r_h1_5, r_h1_7, r_h1_8, r_h1_9, r_h1_10, f1, q1, r2.eq, r3.eq, q3, hm4e, f5, r6.eq, f7, q14, q4, show ((9 : Int) ≤ ((uhB (S.ct 1) : Nat) : Int)) = True from eq_true (by omega), ↓reduceIte, Nat.reduceEqDiff, Nat.reduceAdd, Nat.reduceLeDiff, exists_eq_left', wA, wB, wC, wD]
      exact hbad hop m7 k07
  · rw [if_neg hh] at r6
    obtain ⟨m7, f7, a7, k7, n7⟩ := g6.st k6.wf 13 [iv 0, iv 0, iv 0]
    have k07 : Keep m m7 fun _ => False := k06.trans k7 fun z hz e => by omega
    have hop : opn S.ct = none := by unfold opn; rw [if_neg fun h => hh h.1]
    simp -implicitDefEqProofs only [o_h1, r_h1_0, r_h1_1, r_h1_2, r_h1_4, r_h1_5, r_h1_7, r_h1_8, r_h1_9, r_h1_10, f1, q1, r2.eq, r3.eq, q3, hm4e, f5, r6.eq, f7, show ((4 : Int) = 0) = False from eq_false (by omega), ↓reduceIte, Nat.reduceEqDiff, Nat.reduceAdd, Nat.reduceLeDiff, exists_eq_left', wA, wB, wC, wD]
    exact hbad hop m7 k07
end
end Go.Proofs.YthbfinjddaembaaGreat
