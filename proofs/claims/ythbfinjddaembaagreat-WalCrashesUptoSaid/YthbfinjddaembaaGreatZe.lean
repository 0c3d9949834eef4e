import Derived.Test.YthbfinjddaembaaGreatZc
set_option linter.unusedVariables false
set_option linter.unusedSimpArgs false
/- The law's own functions: is a list sound; an image with what is written. -/
namespace Go.Proofs.YthbfinjddaembaaGreat
open Go Go.Am
section
variable {m : M}
abbrev Snd (L : List Wr) : Prop := ∀ e ∈ L, e.2.2.length = 64 ∧ 11 ≤ e.1 ∧ e.1 < 60
theorem lsound_ran {x : AV} {L : List Wr} (hw : Wf m) (hx : WsAt m x L) (hs : Snd L) (hl : L.length ≤ 2000000) : ∃ m', Keep m m' (fun _ => False) ∧ Ran Tryz.prog tb fn_f8 [.agg smallP, x] m (.b true) m' := by
  obtain ⟨m1, e1, a1, k1, n1⟩ := addL_at hw ty_api_Plan 12 smallP
  have r0 : m1.rd m.next 0 = some (iv 64) := by rw [a1.rd]; rfl
  have r1 : m1.rd m.next 1 = some (iv 60) := by rw [a1.rd]; rfl
  have r5 : m1.rd m.next 5 = some (iv 11) := by rw [a1.rd]; rfl
  have hx1 := hx.k0 hw k1
  have key : WpF Tryz.prog tb fn_f8 [.agg smallP, x] m fun v m' => v = .b true ∧ m' = m1 := by
    refine WpF.go at_f8 ?_
    simp -implicitDefEqProofs only [o_f8, r_f8_0, r_f8_1, e1, ↓reduceIte, Nat.reduceEqDiff, Nat.reduceAdd, wA, wB, wC, wD]
    refine GX_loop (fun j fr mk => ∃ k, k ≤ L.length ∧ j = L.length - k ∧ (ev (tm 1) fr = x ∧ ev (tm 2) fr = .ptr m.next 0 ∧ ev (tm 5) fr = iv (k : Nat)) ∧ mk = m1) (k := L.length) ⟨0, Nat.zero_le _, rfl, by simp -implicitDefEqProofs only [nc0, ev_tm, ↓reduceIte, Nat.reduceEqDiff, nc0, and_self], rfl⟩ ?_
    rintro j fr mk ⟨k, hk, rfl, ⟨e1', e2', e5'⟩, rfl⟩
    by_cases hlt : k < L.length
    · obtain ⟨b, c, q, hxe, hr1, hr2⟩ := hx1.cell hlt
      have hm := List.getElem_mem hlt
      obtain ⟨h64, h11, h60⟩ := hs _ hm
      have hdl := (hx1.dt _ hm).len
      have hda := (hx1.dt _ hm).aq
      rw [h64] at hdl
      generalize L[k] = e at hr1 hr2 hdl hda h11 h60
      have hlx := hx1.len
      rw [hxe] at e1' hlx
      have n64 : ((64 : Nat) : Int) = 64 := rfl
      simp -implicitDefEqProofs only [o_f8, r_f8_2, r_f8_4, r_f8_3, e1', e2', e5', hlx, show ((k : Int) < (L.length : Int)) = True from eq_true (by omega), v_iaS 2 b 0 L.length c q hlt, hr1, hr2, hdl, hda, n64, r0, r1, r5, show (e.1 < 11) = False from eq_false (by omega), show ((60 : Int) ≤ e.1) = False from eq_false (by omega), b_add ty_int (show -9223372036854775808 ≤ (k : Int) + 1 by omega) (show (k : Int) + 1 ≤ 9223372036854775807 by omega), ↓reduceIte, Nat.reduceEqDiff, exists_eq_left', wA, wB, wC, wD]
      exact LK_n (k' := L.length - (k + 1)) (by omega) ⟨k + 1, by omega, rfl, by simp -implicitDefEqProofs only [e1', e2', hxe, show (k : Int) + 1 = ((k + 1 : Nat) : Int) from rfl, ev_tm, ↓reduceIte, Nat.reduceEqDiff, and_self], rfl⟩
    · have hkL : k = L.length := by omega
      subst hkL
      simp -implicitDefEqProofs only [o_f8, r_f8_2, r_f8_6, e1', e5', hx1.len, show ((L.length : Int) < (L.length : Int)) = False from eq_false (by omega), ↓reduceIte, Nat.reduceEqDiff, wA, wB, wC, wD]
  obtain ⟨v, m', ⟨rfl, rfl⟩, r⟩ := key.ran
  exact ⟨m', k1, r⟩
def updB (c : Nat → Bs) (k : Nat) (t : Bs) : Nat → Bs := fun b => if b = k then t else c b
theorem imgN_congr {c c' : Nat → Bs} : ∀ n, (∀ i, i < n → c (11 + i) = c' (11 + i)) → imgN c n = imgN c' n
  | 0, _ => rfl
  | n + 1, h => by rw [imgN_succ, imgN_succ, imgN_congr n fun i hi => h i (by omega), h n (by omega)]
theorem imgN_set {c : Nat → Bs} (h : ∀ k, k < 60 → (c k).length = 64) {k j : Nat} (hk : k < 49) (hj : j < 64) (x : UInt8) : ∀ n, n ≤ 49 → (imgN c n).set (k * 64 + j) x = if k < n then imgN (updB c (11 + k) ((c (11 + k)).set j x)) n else imgN c n
  | 0, _ => by rw [if_neg (by omega)]; rfl
  | n + 1, hn => by
    have hl := imgN_len h n (by omega)
    rw [imgN_succ, imgN_succ]
    have ih := imgN_set h hk hj x n (by omega)
    by_cases h1 : k < n
    · rw [List.set_append_left _ _ (by rw [hl]; omega), ih, if_pos h1, if_pos (by omega)]
      congr 1
      unfold updB
      rw [if_neg (by omega)]
    · rw [List.set_append_right _ _ (by rw [hl]; omega), hl]
      by_cases h2 : k = n
      · subst h2
        rw [if_pos (by omega), show k * 64 + j - k * 64 = j by omega]
        have e : imgN (updB c (11 + k) ((c (11 + k)).set j x)) k = imgN c k := imgN_congr k fun i hi => by
          unfold updB
          rw [if_neg (by omega)]
        rw [e]
        congr 1
        unfold updB
        rw [if_pos rfl]
      · rw [if_neg (by omega), List.set_eq_of_length_le (by rw [h _ (by omega)]; omega)]
theorem splice_set (l : List AV) (i : Nat) (v : AV) (h : i < l.length) : splice l i [v] = l.set i v := by
  unfold splice
  rw [List.set_eq_take_append_cons_drop, if_pos h]
  simp
theorem ycells_set (l : Bs) (i : Nat) (x : UInt8) : (ycells l).set i (.y x.toNat) = ycells (l.set i x) := by
  unfold ycells
  rw [List.map_set]
def mixB (t u : Bs) (j : Nat) : Bs := u.take j ++ t.drop j
theorem mixB_set {t u : Bs} {j : Nat} (ht : t.length = 64) (hu : u.length = 64) (hj : j < 64) : (mixB t u j).set j (u[j]'(by omega)) = mixB t u (j + 1) := by
  have h1 : u.take (j + 1) = u.take j ++ [u[j]'(by omega)] := by rw [List.take_add_one, List.getElem?_eq_getElem (by omega)]; rfl
  have h2 : t.drop j = (t[j]'(by omega)) :: t.drop (j + 1) := List.drop_eq_getElem_cons (by omega)
  unfold mixB
  rw [List.set_append_right _ _ (by rw [List.length_take]; omega), List.length_take, show j - min j u.length = 0 by omega, h1, h2, List.set_cons_zero, List.append_assoc]
  rfl
theorem mixB_len {t u : Bs} {j : Nat} (ht : t.length = 64) (hu : u.length = 64) (hj : j ≤ 64) : (mixB t u j).length = 64 := by
  unfold mixB
  rw [List.length_append, List.length_take, List.length_drop]; omega
theorem bs_get {s : AV} {l : Bs} {b : Nat} (h : BsAt m s l b) : ∃ off cap q, s = .slice b off l.length cap q ∧ ∀ i (hi : i < l.length), m.rd b (off + i) = some (.y l[i].toNat) := by
  cases h with
  | @row b off cap lim l cells h hl hc =>
    refine ⟨off, cap, lim, rfl, fun i hi => ?_⟩
    have : (ycells l)[i]? = some (.y l[i].toNat) := by unfold ycells; rw [List.getElem?_map, List.getElem?_eq_getElem hi]; rfl
    rw [← hc, List.getElem?_take, if_pos hi, List.getElem?_drop] at this
    rw [h.rd]; exact this
theorem WsAt.old {m' : M} {x : AV} {L : List Wr} (h : WsAt m x L) (hw : Wf m) (hg : ∀ b, b < m.next → m'.get b = m.get b) : WsAt m' x L := by
  refine ⟨h.len, fun hn => ?_, fun e he => ⟨(h.dt e he).len, (h.dt e he).cl, (h.dt e he).aq, fun h64 => ?_⟩⟩
  · obtain ⟨b, cap, q, junk, h1, h2, h3, h4⟩ := h.row hn
    have hg' := hg b (AtR.lt' h2 hw)
    refine ⟨b, cap, q, junk, h1, h2.of_get hg', ?_, h4⟩
    rcases h3 with h3 | h3
    · exact .inl (h3.of_get hg')
    · exact .inr (h3.of_get hg')
  · obtain ⟨b, hb⟩ := (h.dt e he).bu h64
    have hg' := hg b (hb.bs.lt hw)
    refine ⟨b, hb.bs.of_get hg', ?_⟩
    rcases hb.kd with h3 | h3
    · exact .inl (h3.of_get hg')
    · exact .inr (h3.of_get hg')
theorem mixB_0 (t u : Bs) : mixB t u 0 = t := rfl
theorem mixB_64 {t u : Bs} (ht : t.length = 64) (hu : u.length = 64) : mixB t u 64 = u := by
  unfold mixB
  rw [List.take_of_length_le (by omega), List.drop_of_length_le (by omega), List.append_nil]
theorem updB_len {c : Nat → Bs} (h : ∀ k, k < 60 → (c k).length = 64) {k : Nat} {t : Bs} (ht : t.length = 64) : ∀ b, b < 60 → (updB c k t b).length = 64 := fun b hb => by
  unfold updB
  split
  · exact ht
  · exact h b hb
theorem updB_two (c : Nat → Bs) (k : Nat) (t u : Bs) : updB (updB c k t) k u = updB c k u := by
  funext b
  unfold updB
  split <;> rfl
theorem putAll_take {L : List Wr} {k : Nat} (h : k < L.length) (b : Nat) : putAll (fun _ => none) (wv (L.take (k + 1))) b = if L[k].1 = (b : Int) then some L[k].2.2 else putAll (fun _ => none) (wv (L.take k)) b := by
  have : wv (L.take (k + 1)) = wv (L.take k) ++ [(L[k].1, L[k].2.2)] := by
    have h1 : L.take (k + 1) = L.take k ++ [L[k]] := by rw [List.take_add_one, List.getElem?_eq_getElem h]; rfl
    unfold wv
    rw [h1, List.map_append]; rfl
  rw [this, putAll_app]
set_option maxRecDepth 20000 in
set_option maxHeartbeats 4000000 in
theorem written_ran {x y : AV} {L : List Wr} {V : Nat → Bs} {b0 : Nat} (hw : Wf m) (hy : BtU m y (imgB V) b0) (hV : ∀ k, k < 60 → (V k).length = 64) (hx : WsAt m x L) (hs : Snd L) (hl : L.length ≤ 2000000) :
    ∃ m' y' b, BtU m' y' (imgB fun k => (putAll (fun _ => none) (wv L) k).getD (V k)) b ∧ Keep m m' (fun _ => False) ∧ Ran Tryz.prog tb fn_f9 [y, .agg smallP, x] m y' m' := by
  let W : Nat → Nat → Bs := fun k b => (putAll (fun _ => none) (wv (L.take k)) b).getD (V b)
  have hW64 : ∀ k, k ≤ L.length → ∀ b, b < 60 → (W k b).length = 64 := by
    intro k
    induction k with
    | zero => intro _ b hb; exact hV b hb
    | succ k ih =>
      intro hk b hb
      show ((putAll (fun _ => none) (wv (L.take (k + 1))) b).getD (V b)).length = 64
      rw [putAll_take (show k < L.length by omega)]
      by_cases he : L[k].1 = (b : Int)
      · rw [if_pos he]; exact (hs _ (List.getElem_mem (by omega))).1
      · rw [if_neg he]; exact ih (by omega) b hb
  have hWs : ∀ k (h : k < L.length), ∃ z : Nat, z < 49 ∧ L[k].1 = ((11 + z : Nat) : Int) ∧ (∀ b, b < 60 → W (k + 1) b = updB (W k) (11 + z) L[k].2.2 b) := fun k h => by
    obtain ⟨h1, h2, h3⟩ := hs _ (List.getElem_mem h)
    obtain ⟨z, hz⟩ : ∃ z : Nat, L[k].1 = ((11 + z : Nat) : Int) := ⟨(L[k].1 - 11).toNat, by omega⟩
    refine ⟨z, by omega, hz, fun b hb => ?_⟩
    show (putAll (fun _ => none) (wv (L.take (k + 1))) b).getD (V b) = _
    rw [putAll_take h]
    unfold updB
    by_cases he : b = 11 + z
    · rw [if_pos he, if_pos (by omega)]; rfl
    · rw [if_neg he, if_neg (by omega)]
  obtain ⟨m1, e1, a1, k1, n1⟩ := addL_at hw ty_api_Plan 12 smallP
  obtain ⟨m2, e2, a2, k2, n2⟩ := addL_at k1.wf ty_uint8 0 []
  have k02 := k1.tf k2
  have hil : (imgB V).length = 3136 := by unfold imgB; rw [imgN_len hV 49 (by omega)]
  obtain ⟨m3, e3, h3, k3, n3⟩ := run_clone0 (e := ty_uint8) (bytes := 1) (z := [.y 0]) a2 k2.wf (hy.keep hw k02 fun h => h).bs.src (by rw [hil]; decide) (room_of (by rw [hil]; decide) (by omega))
  have k03 := k02.tf k3
  rw [hil] at e3 h3
  have hn1 := k1.next
  have hn2 := k2.next
  have hn3 := k3.next
  have a3 : At m3 m.next ty_api_Plan true smallP := (a1.keep k1.wf k2 fun h => h).keep k2.wf k3 fun h => h
  obtain ⟨xt, hrow⟩ : ∃ xt, At m3 m2.next ty_uint8 xt (ycells (imgB V)) := by
    generalize ycells (imgB V) = ys at h3
    cases h3 with
    | row h hl hj hc h0 =>
      have := List.length_eq_zero_iff.1 (show _ = 0 by simpa using hj)
      subst this
      rw [List.append_nil] at h
      exact ⟨_, h⟩
  have hx3 := hx.k0 hw k03
  have key : WpF Tryz.prog tb fn_f9 [y, .agg smallP, x] m fun v m' => ∃ y' b, v = y' ∧ BtU m' y' (imgB fun k => (putAll (fun _ => none) (wv L) k).getD (V k)) b ∧ Keep m m' (fun _ => False) := by
    refine WpF.go at_f9 ?_
    simp -implicitDefEqProofs only [o_f9, r_f9_0, r_f9_1, r_f9_2, e1, repl_0, e2, e3, ↓reduceIte, Nat.reduceEqDiff, Nat.reduceAdd, wA, wB, wC, wD]
    refine GX_loop (fun j fr mk => ∃ k, k ≤ L.length ∧ j = L.length - k ∧ (ev (tm 2) fr = x ∧ ev (tm 4) fr = .ptr m.next 0 ∧ ev (tm 7) fr = .slice m2.next 0 3136 3136 false ∧ ev (tm 8) fr = iv (k : Nat)) ∧ At mk m2.next ty_uint8 xt (ycells (imgB (W k))) ∧ Keep m3 mk (fun b => b = m2.next)) (k := L.length) ⟨0, Nat.zero_le _, rfl, by simp -implicitDefEqProofs only [nc0, ev_tm, ↓reduceIte, Nat.reduceEqDiff, nc0, and_self], hrow, Keep.refl k3.wf _⟩ ?_
    rintro j fr mk ⟨k, hk, rfl, ⟨f2, f4, f7, f8⟩, hr, kk⟩
    by_cases hlt : k < L.length
    · obtain ⟨z, hz49, hzk, hWk⟩ := hWs k hlt
      have hm := List.getElem_mem hlt
      have h64 := (hs _ hm).1
      have hlx := hx.len
      have hxne : L ≠ [] := fun e => by rw [e] at hlt; cases hlt
      obtain ⟨xb, xc, xq, xj, hxe, hxr, hxk, _⟩ := hx3.row hxne
      have ft := f2
      rw [hxe] at ft hlx
      simp -implicitDefEqProofs only [o_f9, r_f9_3, r_f9_5, f2, f8, hx.len, show ((k : Int) < (L.length : Int)) = True from eq_true (by omega), ↓reduceIte, Nat.reduceEqDiff, wA, wB, wC, wD]
      refine GX_loop (fun j' fr mk => ∃ j, j ≤ 64 ∧ j' = 64 - j ∧ (ev (tm 2) fr = x ∧ ev (tm 4) fr = .ptr m.next 0 ∧ ev (tm 7) fr = .slice m2.next 0 3136 3136 false ∧ ev (tm 8) fr = iv (k : Nat) ∧ ev (tm 9) fr = iv (j : Nat)) ∧ At mk m2.next ty_uint8 xt (ycells (imgB (updB (W k) (11 + z) (mixB (W k (11 + z)) L[k].2.2 j)))) ∧ Keep m3 mk (fun b => b = m2.next)) (k := 64) ?_ ?_
      · refine ⟨0, Nat.zero_le _, rfl, by simp -implicitDefEqProofs only [f2, f4, f7, f8, hxe, nc0, ev_tm, ↓reduceIte, Nat.reduceEqDiff, nc0, and_self], ?_, kk⟩
        have : imgB (updB (W k) (11 + z) (mixB (W k (11 + z)) L[k].2.2 0)) = imgB (W k) := imgN_congr 49 fun i _ => by
          unfold updB
          rw [mixB_0]
          split
          · rename_i e; rw [e]
          · rfl
        rw [this]; exact hr
      clear f2 f4 f7 f8 ft hr kk
      rintro j' fr mk ⟨j, hj, rfl, ⟨f2, f4, f7, f8, f9⟩, hr, kk⟩
      have hak : At mk m.next ty_api_Plan true smallP := a3.keep k3.wf kk (by omega)
      have r0 : mk.rd m.next 0 = some (iv 64) := by rw [hak.rd]; rfl
      have r5 : mk.rd m.next 5 = some (iv 11) := by rw [hak.rd]; rfl
      by_cases hj64 : j < 64
      · have hbne : ∀ b, kd m3 b uB ∨ kd m3 b roK → b < m.next → ¬ b = m2.next := fun b _ hb e => by omega
        have hxk3 : WsAt mk x L := hx.old hw fun b hb => (kk.get b (by omega) (by omega)).trans (k03.get b hb fun h => h)
        obtain ⟨xb', xc', xq', hxe', hr1, hr2⟩ := hxk3.cell hlt
        rw [hxe] at hxe'
        cases hxe'
        obtain ⟨zb, hzb⟩ := (hxk3.dt _ hm).bu h64
        have haq := (hxk3.dt _ hm).aq
        have haqy : ∀ n, aveq 40 (AV.y n) (AV.y n) = true := fun n => by simp [aveq, Nat.beq_refl]
        obtain ⟨zo, zc, zq, hze, hzr⟩ := bs_get hzb.bs
        have hzj := hzr j (by omega)
        have hi1 : rIaS 1 (.cst L[k].2.1) (.cst (iv (j : Nat))) .leaf mk = some (.ptr zb (zo + j), mk) := by
          rw [hze]
          have := v_iaS (m := mk) 1 zb zo L[k].2.2.length zc zq (k := j) (by omega)
          rwa [Nat.mul_one] at this
        have hlenR : (ycells (imgB (updB (W k) (11 + z) (mixB (W k (11 + z)) L[k].2.2 j)))).length = 3136 := by
          rw [show (ycells (imgB (updB (W k) (11 + z) (mixB (W k (11 + z)) L[k].2.2 j)))).length = (imgB (updB (W k) (11 + z) (mixB (W k (11 + z)) L[k].2.2 j))).length by simp [ycells]]
          unfold imgB
          rw [imgN_len (updB_len (hW64 k hk) (mixB_len (hW64 k hk _ (by omega)) h64 hj)) 49 (by omega)]
        have hspl : splice (ycells (imgB (updB (W k) (11 + z) (mixB (W k (11 + z)) L[k].2.2 j)))) (z * 64 + j) [.y (L[k].2.2[j]'(by omega)).toNat] = ycells (imgB (updB (W k) (11 + z) (mixB (W k (11 + z)) L[k].2.2 (j + 1)))) := by
          rw [splice_set _ _ _ (by rw [hlenR]; omega), ycells_set]
          congr 1
          unfold imgB
          rw [imgN_set (updB_len (hW64 k hk) (mixB_len (hW64 k hk _ (by omega)) h64 hj)) hz49 hj64 _ 49 (Nat.le_refl _), if_pos hz49]
          have e1 : updB (W k) (11 + z) (mixB (W k (11 + z)) L[k].2.2 j) (11 + z) = mixB (W k (11 + z)) L[k].2.2 j := by unfold updB; rw [if_pos rfl]
          rw [e1, updB_two, mixB_set (hW64 k hk _ (by omega)) h64 hj64]
        obtain ⟨m4, e4, hr4, k4, n4⟩ := hr.st kk.wf (z * 64 + j) [.y (L[k].2.2[j]'(by omega)).toNat] hspl (by rw [hlenR]; simp; omega)
        have hcellj : cellsO (AV.y (L[k].2.2[j]'(by omega)).toNat) = some [AV.y (L[k].2.2[j]'(by omega)).toNat] := rfl
        generalize L[k].2.2[j]'(by omega) = cj at *
        generalize hE : L[k] = e at *
        have ft := f2
        rw [hxe] at ft
        rw [hzk] at hr1
        have s1 : ((11 + z : Nat) : Int) - 11 = (z : Int) := by omega
        have s2 : binS Tryz.prog .mul ty_int (iv (z : Int)) (iv 64) = some (iv ((z : Int) * 64)) := b_mulI _ (by omega) (by omega)
        have s3 : (z : Int) * 64 + (j : Int) = ((z * 64 + j : Nat) : Int) := by omega
        have hi2 : rIaS 1 (.cst (.slice m2.next 0 3136 3136 false)) (.cst (iv ((z * 64 + j : Nat) : Int))) .leaf mk = some (.ptr m2.next (z * 64 + j), mk) := by
          have := v_iaS (m := mk) 1 m2.next 0 3136 3136 false (k := z * 64 + j) (by omega)
          rw [this, Nat.mul_one, Nat.zero_add]
        simp -implicitDefEqProofs only [o_f9, r_f9_6, r_f9_8, r_f9_7, ft, f4, f7, f8, f9, r0, show ((j : Int) < 64) = True from eq_true (by omega), v_iaS 2 xb 0 L.length xc xq hlt, hr1, hr2, r5, b_sub ty_int (show -9223372036854775808 ≤ ((11 + z : Nat) : Int) - (11 : Int) by omega) (show ((11 + z : Nat) : Int) - (11 : Int) ≤ 9223372036854775807 by omega), s1, s2, b_add ty_int (show -9223372036854775808 ≤ (z : Int) * 64 + (j : Int) by omega) (show (z : Int) * 64 + (j : Int) ≤ 9223372036854775807 by omega), s3, hi1, hzj, hi2, hcellj, e4, haq, haqy, b_add ty_int (show -9223372036854775808 ≤ (j : Int) + 1 by omega) (show (j : Int) + 1 ≤ 9223372036854775807 by omega), ↓reduceIte, Nat.reduceEqDiff, exists_eq_left', wA, wB, wC, wD]
        refine LK_n (k' := 64 - (j + 1)) (by omega) ⟨j + 1, by omega, rfl, by simp -implicitDefEqProofs only [ft, f4, f7, f8, hxe, show (j : Int) + 1 = ((j + 1 : Nat) : Int) from rfl, ev_tm, ↓reduceIte, Nat.reduceEqDiff, and_self], hr4, kk.trans k4 fun _ _ h => h⟩
      · have hj64 : j = 64 := by omega
        subst hj64
        have e64 : ((64 : Nat) : Int) = 64 := rfl
        rw [e64] at f9
        simp -implicitDefEqProofs only [o_f9, r_f9_6, r_f9_4, f4, f8, f9, r0, show ((64 : Int) < 64) = False from eq_false (by omega), b_add ty_int (show -9223372036854775808 ≤ (k : Int) + 1 by omega) (show (k : Int) + 1 ≤ 9223372036854775807 by omega), ↓reduceIte, Nat.reduceEqDiff, Nat.reduceSub, wA, wB, wC, wD]
        refine LK_n (k' := L.length - (k + 1)) (by omega) ⟨k + 1, by omega, rfl, by simp -implicitDefEqProofs only [f2, f4, f7, show (k : Int) + 1 = ((k + 1 : Nat) : Int) from rfl, ev_tm, ↓reduceIte, Nat.reduceEqDiff, and_self], ?_, kk⟩
        have : imgB (W (k + 1)) = imgB (updB (W k) (11 + z) (mixB (W k (11 + z)) L[k].2.2 64)) := imgN_congr 49 fun i hi => by
          rw [hWk _ (by omega), mixB_64 (hW64 k hk _ (by omega)) h64]
        rw [this]; exact hr
    · have hkL : k = L.length := by omega
      subst hkL
      simp -implicitDefEqProofs only [o_f9, r_f9_3, r_f9_9, f2, f7, f8, hx.len, show ((L.length : Int) < (L.length : Int)) = False from eq_false (by omega), ↓reduceIte, Nat.reduceEqDiff, wA, wB, wC, wD]
      have hWL : W L.length = fun b => (putAll (fun _ => none) (wv L) b).getD (V b) := by
        funext b
        show (putAll (fun _ => none) (wv (L.take L.length)) b).getD (V b) = _
        rw [List.take_length]
      rw [hWL] at hr
      have hlI : (imgB fun b => (putAll (fun _ => none) (wv L) b).getD (V b)).length = 3136 := by
        rw [← hWL]; unfold imgB; rw [imgN_len (hW64 _ (Nat.le_refl _)) 49 (by omega)]
      have hsl : SlAt mk ty_uint8 1 (.slice m2.next 0 3136 3136 false) 3136 (ycells (imgB fun b => (putAll (fun _ => none) (wv L) b).getD (V b))) (some m2.next) := .row (junk := []) (by rw [List.append_nil]; exact hr) (by rw [show (ycells (imgB fun b => (putAll (fun _ => none) (wv L) b).getD (V b))).length = (imgB fun b => (putAll (fun _ => none) (wv L) b).getD (V b)).length by simp [ycells], hlI]) (by simp) (Nat.le_refl _) (by omega)
      exact ⟨_, m2.next, rfl, ⟨(RowB.mk (by rw [hlI]; exact hsl)).bs, hsl.kd⟩, k03.trans kk fun b hb e => by omega⟩
  obtain ⟨v, m', ⟨y', b, rfl, h1, h2⟩, r⟩ := key.ran
  exact ⟨m', v, b, h1, h2, r⟩
end
theorem Rests.two {L : List Ct} {c : Nat → Bs} (h : Rests L c) {ws : List Act} (hw : ∀ a ∈ ws, isWr a) (s t u : Nat) : Rests (lacts L (ws ++ headActs s t u)) (cset (cacts c ws) 1 (hdrB s t u)) := by
  rw [headActs_eq, lacts_app]
  exact (h.fl hw).fl wr1_wr
theorem Rests.ct {S : Ds} {c : Nat → Bs} (h : Rests S.L c) {b : Nat} (hb : b < 60) : S.ct b = c b := by
  unfold Ds.ct
  rw [h.at' b hb]; rfl
theorem Rests.qt {S : Ds} {c : Nat → Bs} (h : Rests S.L c) : S.Qt := fun x hx => by
  obtain ⟨i, hi, rfl⟩ := List.mem_iff_getElem.1 hx
  have := h.at' i (by have := h.len; omega)
  rw [List.getElem?_eq_getElem hi] at this
  rw [Option.some.inj this]
theorem soundE_ne {L : List (Int × Bs)} : soundE L ≠ 7 := by
  unfold soundE
  split
  · decide
  split
  · decide
  split
  · decide
  split
  · decide
  · decide
theorem GoodC.congr {V V' f : Nat → Bs} (h : GoodC V f) (e : ∀ b, 11 ≤ b → b < 60 → V b = V' b) : GoodC V' f := by
  obtain ⟨s, t, u, es, h1, h2⟩ := h
  exact ⟨s, t, u, es, h1, fun b h3 h4 => (h2 b h3 h4).trans (e b h3 h4)⟩
structure CrAt (m : M) (d cb lg mb : Nat) (S : Ds) (n seq tail used : Nat) (c : Nat → Bs) (es : List (Int × Bs)) (P : List Pe) : Prop where
  ds : DsAt m d cb S
  de : S.dead = false
  rs : Rests S.L c
  bd : S.Bd n 0
  ok : LogOk c seq tail used es
  lg : LgAt m lg d mb seq tail used false
  pm : PmAt m mb P
  pb : ∀ k, pbs P k = putAll (fun _ => none) es k
theorem CrAt.k0 {m m' : M} {d cb lg mb : Nat} {S : Ds} {n seq tail used : Nat} {c : Nat → Bs} {es : List (Int × Bs)} {P : List Pe} (h : CrAt m d cb lg mb S n seq tail used c es P) (hw : Wf m) (k : Keep m m' fun _ => False) : CrAt m' d cb lg mb S n seq tail used c es P :=
  ⟨h.ds.k0 hw k, h.de, h.rs, h.bd, h.ok, h.lg.kp hw (E := []) (S := []) k.k0, h.pm.k0 hw k, h.pb⟩
theorem CrAt.mono {m : M} {d cb lg mb : Nat} {S : Ds} {n n' seq tail used : Nat} {c : Nat → Bs} {es : List (Int × Bs)} {P : List Pe} (h : CrAt m d cb lg mb S n seq tail used c es P) (hn : n ≤ n') : CrAt m d cb lg mb S n' seq tail used c es P :=
  ⟨h.ds, h.de, h.rs, h.bd.mono hn (Nat.le_refl 0), h.ok, h.lg, h.pm, h.pb⟩
section
variable {m : M} {d cb lg mb : Nat} {S : Ds} {n seq tail used : Nat} {c : Nat → Bs} {es : List (Int × Bs)} {P : List Pe}
theorem CrAt.home (h : CrAt m d cb lg mb S n seq tail used c es P) {z : Nat} {t : Bs} (hz : pbs P z = some t) : 11 ≤ z := by
  rw [h.pb] at hz
  rcases putAll_mem hz with ⟨e, he, h2⟩ | h2
  · obtain ⟨ps, h3, _, rfl⟩ := h.ok.ps
    have := h3.home e he
    omega
  · cases h2
theorem CrAt.applied (h : CrAt m d cb lg mb S n seq tail used c es P) (hd : (S.acts (applyActs P seq tail used)).dead = false) :
    ∃ c', Rests (S.acts (applyActs P seq tail used)).L c' ∧ LogOk c' seq ((tail + used) % 9) 0 [] ∧ ∀ b, 11 ≤ b → b < 60 → Vw c' [] b = Vw c es b := by
  obtain ⟨p, q, h1, h2, h3⟩ := acts_pre (applyActs P seq tail used) S h.de
  have hq := h3 hd
  subst hq
  rw [List.append_nil] at h1
  rw [← h1] at h2
  have hR := h.rs.two (wrActs_wr (l := plist P)) seq ((tail + used) % 9) 0
  refine ⟨_, by rw [h2]; exact hR, LogOk.zero rfl h.ok.hs (Nat.mod_lt _ (by omega)), fun b hb hb2 => ?_⟩
  show cset (cacts c (wrActs (plist P))) 1 (hdrB seq ((tail + used) % 9) 0) b = _
  unfold cset
  rw [if_neg (by omega), wrActs_ct _ _ _ fun e he => by obtain ⟨x, _, rfl⟩ := plist_nat he; exact Int.natCast_nonneg _, putAll_plist]
  unfold Vw
  rw [h.pb]
theorem CrAt.applyBd (h : CrAt m d cb lg mb S n seq tail used c es P) : (S.acts (applyActs P seq tail used)).Bd (n + 63) 63 := by
  obtain ⟨h1, h2⟩ := applyActs_ok P seq tail used h.pm.rg
  have := h.pm.len
  have hB := h.bd.acts h1
  rw [h2] at hB
  exact hB.mono (by omega) (by omega)
theorem cr_apply (hw : Wf m) (h : CrAt m d cb lg mb S n seq tail used c es P) (hn : n ≤ 100000) {Q : AV → M → Prop}
    (hD : ∀ m' S', S.fused = true → DsAt m' d cb S' → S'.dead = true → S'.Bd (n + 63) 63 → (∀ f, Cand S'.L f → GoodC (Vw c es) f) → KeepK m m' (lgK :: devK) [mb] → Q (iv 7) m')
    (hO : ∀ m' S' c' tail' used' P', CrAt m' d cb lg mb S' (n + 63) seq tail' used' c' [] P' → (∀ b, 11 ≤ b → b < 60 → Vw c' [] b = Vw c es b) → KeepK m m' (lgK :: devK) [mb] → Q (iv 0) m') :
    WpF Tryz.prog tb fn_c6 [.ptr lg 0] m Q := by
  by_cases h0 : used = 0
  · subst h0
    rw [(apply_none h.lg).eq]
    have he := h.ok.nil0
    subst he
    exact hO m S c tail 0 P (h.mono (by omega)) (fun _ _ _ => rfl) (Keep.refl hw _)
  · have hPl := h.pm.len
    refine apply_ds hw h.lg h.ds h.pm h.bd (by omega) hPl (by omega) h.ok.hs h.ok.ht h.ok.hu h0 h.de fun m' tl us P' d' g' p' hz hz2 k => ?_
    cases hd : (S.acts (applyActs P seq tail used)).dead with
    | true =>
      rw [err_t hd]
      obtain ⟨p, q, h1, h2, h3⟩ := acts_pre (applyActs P seq tail used) S h.de
      refine hD m' _ ?_ d' hd h.applyBd (fun f hf => apply_way h.rs h.ok h.pb (fun k t => h.home) h1 (h2 ▸ hf)) k
      cases hf : S.fused with
      | true => rfl
      | false =>
        have := (Ds.Lv.acts ⟨hf, h.de⟩ (applyActs P seq tail used)).de
        rw [this] at hd; cases hd
    | false =>
      rw [err_f hd]
      obtain ⟨rfl, rfl, rfl⟩ := hz hd
      rw [hd] at g'
      obtain ⟨c', hR, hlog, hV⟩ := h.applied hd
      exact hO m' _ c' _ _ [] ⟨d', hd, hR, h.applyBd.qt hR.qt, hlog, g', p', fun _ => rfl⟩ hV k
set_option maxHeartbeats 1000000 in
theorem cr_commit {x : AV} {L : List Wr} (hw : Wf m) (h : CrAt m d cb lg mb S n seq tail used c es P) (hn : n ≤ 100000) (hx : WsAt m x L) (hL : L.length ≤ 2000000) (hL0 : L.length ≠ 0) {Q : AV → M → Prop}
    (hE : ∀ m' e, e ≠ 0 → e ≠ 7 → Keep m m' (fun _ => False) → Q (iv e) m')
    (hD : ∀ m' S', Snd L → DsAt m' d cb S' → S'.dead = true → S'.Bd (n + 200) 200 → (∀ f, Cand S'.L f → GoodC (Vw c es) f ∨ GoodC (Vw c (es ++ wv L)) f) → KeepK m m' (lgK :: devK) [mb] → Q (iv 7) m')
    (hO : ∀ m' S' c' tail' used' es' P', Snd L → CrAt m' d cb lg mb S' (n + 200) (seq + 1) tail' used' c' es' P' → (∀ b, 11 ≤ b → b < 60 → Vw c' es' b = Vw c (es ++ wv L) b) → KeepK m m' (lgK :: devK) [mb] → Q (iv 0) m') :
    WpF Tryz.prog tb fn_c7 [.ptr lg 0, x] m Q := by
  have hok := h.ok
  have hlen : (wv L).length = L.length := List.length_map ..
  have hsnd : cE seq false (wv L) = none → Snd L := fun hc e he => by
    obtain ⟨s1, s2, _, _⟩ := sound0 (cE_none hc).1
    have hm : (e.1, e.2.2) ∈ wv L := List.mem_map_of_mem (f := fun e : Wr => (e.1, e.2.2)) he
    exact ⟨s1 _ hm, s2 _ hm⟩
  -- behind the part that makes room
  have stage : (S.acts (cApp P seq tail used L.length)).dead = false → ∃ c1 es1, Rests (S.acts (cApp P seq tail used L.length)).L c1 ∧ LogOk c1 seq (cTail tail used L.length) (cUsed used L.length) es1 ∧ (S.acts (cApp P seq tail used L.length)).Bd (n + 63) 0 ∧ (∀ b, 11 ≤ b → b < 60 → Vw c1 es1 b = Vw c es b) ∧ (∀ k, pbs (if cNeed used L.length then [] else P) k = putAll (fun _ => none) es1 k) := fun hd => by
    cases hnd : cNeed used L.length with
    | true =>
      have e : S.acts (cApp P seq tail used L.length) = S.acts (applyActs P seq tail used) := by unfold cApp; rw [hnd]; rfl
      rw [e] at hd ⊢
      obtain ⟨c', hR, hlog, hV⟩ := h.applied hd
      refine ⟨c', [], hR, ?_, h.applyBd.qt hR.qt, hV, fun _ => rfl⟩
      unfold cTail cUsed
      rw [hnd]
      exact hlog
    | false =>
      have e : S.acts (cApp P seq tail used L.length) = S := by unfold cApp; rw [hnd]; rfl
      rw [e]
      refine ⟨c, es, h.rs, ?_, h.bd.mono (by omega) (Nat.le_refl 0), fun _ _ _ => rfl, h.pb⟩
      unfold cTail cUsed
      rw [hnd]
      exact hok
  have huL : L.length ≤ 8 → cUsed used L.length + 1 + L.length ≤ 9 := fun h8 => by
    unfold cUsed cNeed
    by_cases h9 : 9 < used + L.length + 1
    · rw [decide_eq_true h9]; simp; omega
    · rw [decide_eq_false h9]; simp; omega
  have hca : cActs seq tail used (wv L) = partActs seq (cTail tail used L.length) (cUsed used L.length) ((wv L).map fun e => e.1.toNat) ((wv L).map (·.2)) ++ headActs (seq + 1) (cTail tail used L.length) (cUsed used L.length + 1 + L.length) := by
    unfold cActs
    rw [hlen]
  have hVapp : ∀ {c1 : Nat → Bs} {es1 : List (Int × Bs)}, (∀ b, 11 ≤ b → b < 60 → Vw c1 es1 b = Vw c es b) → ∀ b, 11 ≤ b → b < 60 → Vw c1 (es1 ++ wv L) b = Vw c (es ++ wv L) b := fun hV b h1 h2 => by
    rw [Vw_app, Vw_app, hV b h1 h2]
  have bd2 : cE seq false (wv L) = none → (S.acts (cApp P seq tail used L.length)).Bd (n + 63) 0 → ((S.acts (cApp P seq tail used L.length)).acts (cActs seq tail used (wv L))).Bd (n + 200) 200 := fun hc hB1 => by
    obtain ⟨s1, s2, s3, s4⟩ := sound0 (cE_none hc).1
    rw [hlen] at s4
    obtain ⟨o1, o2⟩ := partActs_ok (seq := seq) (tail := cTail tail used L.length) (used := cUsed used L.length) (ks := (wv L).map fun e => e.1.toNat) (ts := (wv L).map (·.2)) (by rw [List.length_map, hlen]; omega) (fun t ht => by
      obtain ⟨e, he, rfl⟩ := List.mem_map.1 ht
      exact s1 e he)
    have hB2 := hB1.acts (l := cActs seq tail used (wv L)) (fun a ha => by
      rw [hca] at ha
      rcases List.mem_append.1 ha with ha | ha
      · exact o1 a ha
      · exact headActs_ok _ _ _ a ha)
    have hcl : (cActs seq tail used (wv L)).length ≤ 20 := by
      rw [hca, List.length_append, o2, List.length_map, hlen]
      show _ + 1 + 3 ≤ _
      omega
    exact hB2.mono (by omega) (by omega)
  refine commit_ds hw h.lg h.ds h.pm h.bd (by omega) (by omega) hx hL (fun _ => h.de) hok.hs hok.ht hok.hu (fun m' e he k => ?_) (fun m' hc hd d' g' p' k => ?_) (fun m' P1 hc hd1 hd d' g' p' _ k => ?_) fun m' P' hc hd1 hd d' g' p' hpb k => ?_
  · have he2 : e ≠ 0 ∧ e ≠ 7 := by
      unfold cE at he
      split at he
      · rename_i h1
        cases he
        exact ⟨h1, soundE_ne⟩
      split at he
      · rename_i h1
        rw [hlen] at h1
        exact absurd h1.1 hL0
      split at he
      · cases he; exact ⟨by decide, by decide⟩
      · rename_i h1
        simp at he
    exact hE m' e he2.1 he2.2 k
  · have e : S.acts (cApp P seq tail used L.length) = S.acts (applyActs P seq tail used) := by
      unfold cApp
      cases hnd : cNeed used L.length with
      | true => rfl
      | false =>
        have e : S.acts (cApp P seq tail used L.length) = S := by unfold cApp; rw [hnd]; rfl
        rw [e, h.de] at hd
        cases hd
    rw [e] at hd d'
    obtain ⟨p, q, h1, h2, h3⟩ := acts_pre (applyActs P seq tail used) S h.de
    exact hD m' _ (hsnd hc) d' hd (h.applyBd.mono (by omega) (by omega)) (fun f hf => .inl (apply_way h.rs h.ok h.pb (fun k t => h.home) h1 (h2 ▸ hf))) k
  · obtain ⟨c1, es1, hR, hlog, hB1, hV, _⟩ := stage hd1
    obtain ⟨c2, c3, c4, _⟩ := cE_none hc
    obtain ⟨s1, s2, s3, s4⟩ := sound0 c2
    rw [hlen] at s4
    obtain ⟨p, q, h1, h2, h3⟩ := acts_pre (cActs seq tail used (wv L)) _ hd1
    refine hD m' _ (hsnd hc) d' hd (bd2 hc hB1) (fun f hf => ?_) k
    rw [h2] at hf
    rw [hca] at h1
    have huL' := huL s4
    rw [← hlen] at h1 huL'
    rcases commit_way hR (by rw [← hlen] at hlog; exact hlog) c2 c3 (by omega) huL' h1 hf with g | g
    · exact .inl (g.congr hV)
    · exact .inr (g.congr (hVapp hV))
  · obtain ⟨c1, es1, hR, hlog, hB1, hV, hpb1⟩ := stage hd1
    obtain ⟨c2, c3, c4, _⟩ := cE_none hc
    obtain ⟨s1, s2, s3, s4⟩ := sound0 c2
    rw [hlen] at s4
    obtain ⟨p, q, h1, h2, h3⟩ := acts_pre (cActs seq tail used (wv L)) _ hd1
    have hq := h3 hd
    subst hq
    rw [List.append_nil] at h1
    rw [← h1, hca] at h2
    have hR2 := hR.two (partActs_wr (seq := seq) (tail := cTail tail used L.length) (used := cUsed used L.length) (ks := (wv L).map fun e => e.1.toNat) (ts := (wv L).map (·.2))) (seq + 1) (cTail tail used L.length) (cUsed used L.length + 1 + L.length)
    rw [← h2, ← hca] at hR2
    obtain ⟨q1, q2⟩ := cActs_log hlog c2 c3 (by omega) (by rw [hlen]; exact huL s4)
    rw [hlen] at q1 q2
    have hct : ∀ k, cacts c1 (partActs seq (cTail tail used L.length) (cUsed used L.length) ((wv L).map fun e => e.1.toNat) ((wv L).map (·.2)) ++ headActs (seq + 1) (cTail tail used L.length) (cUsed used L.length + 1 + L.length)) k = cset (cacts c1 (partActs seq (cTail tail used L.length) (cUsed used L.length) ((wv L).map fun e => e.1.toNat) ((wv L).map (·.2)))) 1 (hdrB (seq + 1) (cTail tail used L.length) (cUsed used L.length + 1 + L.length)) k := fun k => by
      rw [cacts_app]; rfl
    refine hO m' _ _ _ _ (es1 ++ wv L) P' (hsnd hc) ⟨d', hd, hR2, (bd2 hc hB1).qt hR2.qt, q1.congr fun j _ => (hct j).symm, g', p', fun z => ?_⟩ (fun b hb hb2 => ?_) k
    · rw [hpb z, putAll_congr hpb1, putAll_two]
    · rw [← hVapp hV b hb hb2]
      unfold Vw
      rw [← hct b, q2 b hb]
theorem cr_open (hw : Wf m) (h : DsAt m d cb S) (hd : S.dead = false) (hR : Rests S.L c) (hB : S.Bd n 0) {V : Nat → Bs} (hG : GoodC V c) {Q : AV → M → Prop}
    (hQ : ∀ m' lg mb seq tail used es P, CrAt m' d cb lg mb S n seq tail used c es P → (∀ b, 11 ≤ b → b < 60 → Vw c es b = V b) → m.next ≤ lg → m.next ≤ mb → Keep m m' (fun _ => False) → Q (.tuple [.ptr lg 0, iv 0]) m') :
    WpF Tryz.prog tb fn_h1 [.ptr d 0, .agg smallP] m Q := by
  obtain ⟨seq, tail, used, es, hlog, hV⟩ := hG
  have hlog' : LogOk S.ct seq tail used es := hlog.congr fun j hj => hR.ct (by omega)
  refine open_ds hw h hB (by omega) hd (fun e => by rw [hlog'.opn] at e; cases e) fun seq' tail' used' es' e m' lg mb P g p hp _ _ _ hl hm k => ?_
  rw [hlog'.opn] at e
  cases e
  exact hQ m' lg mb _ _ _ _ P ⟨h.k0 hw k, hd, hR, hB, hlog, g, p, hp⟩ hV hl hm k
end
end Go.Proofs.YthbfinjddaembaaGreat
