import Derived.Test.YthbfinjddaembaaGreatXg
import Derived.Test.YthbfinjddaembaaGreatWfo
set_option linter.unusedVariables false
set_option linter.unusedSimpArgs false
/- Plain: what is written is read. -/
namespace Go.Proofs.YthbfinjddaembaaGreat
open Go Go.Am
theorem le_succ (w v : Nat) : le (w + 1) v = UInt8.ofNat v :: le w (v / 256) := by
  unfold le
  rw [List.range_succ_eq_map, List.map_cons, List.map_map]
  congr 1
  · simp
  · apply List.map_congr_left
    intro i _
    show UInt8.ofNat (v / 2 ^ (8 * (i + 1))) = UInt8.ofNat (v / 256 / 2 ^ (8 * i))
    rw [Nat.div_div_eq_div_mul, show (256 : Nat) = 2 ^ 8 from rfl, ← Nat.pow_add, show 8 + 8 * i = 8 * (i + 1) by omega]
theorem ge_le : ∀ (w v : Nat), v < 256 ^ w → ge (le w v) = v
  | 0, v, h => by
    have : v = 0 := by simpa using h
    subst this; rfl
  | w + 1, v, h => by
    rw [le_succ]
    show (UInt8.ofNat v).toNat + 256 * ge (le w (v / 256)) = v
    rw [ge_le w (v / 256) (by
      rw [Nat.pow_succ] at h
      exact Nat.div_lt_of_lt_mul (by rw [Nat.mul_comm]; exact h))]
    have : (UInt8.ofNat v).toNat = v % 256 := by simp
    rw [this]
    omega
theorem mid {a b c : Bs} {n k : Nat} (ha : a.length = n) (hb : b.length = k) : ((a ++ (b ++ c)).drop n).take k = b := by
  rw [List.drop_append_of_le_length (by omega), List.drop_of_length_le (by omega), List.nil_append, List.take_append_of_le_length (by omega), List.take_of_length_le (by omega)]
theorem les_cons (w x : Nat) (l : List Nat) : les w (x :: l) = le w x ++ les w l := by simp [les]
theorem uhA_hdr {seq tail used : Nat} (h : seq < 2 ^ 32) : uhA (hdrB seq tail used) = seq := by
  unfold uhA hdrB hdrA
  rw [show (([83, 76, 79, 71] ++ le 4 seq ++ les 2 [tail, used] ++ le 4 (crc ([83, 76, 79, 71] ++ le 4 seq ++ les 2 [tail, used]))) ++ List.replicate 48 0 : Bs) = [83, 76, 79, 71] ++ (le 4 seq ++ (les 2 [tail, used] ++ le 4 (crc ([83, 76, 79, 71] ++ le 4 seq ++ les 2 [tail, used])) ++ List.replicate 48 0)) by simp only [List.append_assoc]]
  rw [mid (n := 4) rfl (le_len 4 seq), ge_le 4 seq (by exact h)]
theorem uhB_hdr {seq tail used : Nat} (h : tail < 2 ^ 16) : uhB (hdrB seq tail used) = tail := by
  unfold uhB hdrB hdrA
  rw [les_cons]
  rw [show (([83, 76, 79, 71] ++ le 4 seq ++ (le 2 tail ++ les 2 [used]) ++ le 4 (crc ([83, 76, 79, 71] ++ le 4 seq ++ (le 2 tail ++ les 2 [used])))) ++ List.replicate 48 0 : Bs) = ([83, 76, 79, 71] ++ le 4 seq) ++ (le 2 tail ++ (les 2 [used] ++ le 4 (crc ([83, 76, 79, 71] ++ le 4 seq ++ (le 2 tail ++ les 2 [used]))) ++ List.replicate 48 0)) by simp only [List.append_assoc]]
  rw [mid (by simp [le_len]) (le_len 2 tail), ge_le 2 tail (by exact h)]
theorem uhC_hdr {seq tail used : Nat} (h : used < 2 ^ 16) : uhC (hdrB seq tail used) = used := by
  unfold uhC hdrB hdrA
  rw [les_cons, les_cons]
  generalize hc : le 4 (crc _) = c
  rw [show (([83, 76, 79, 71] ++ le 4 seq ++ (le 2 tail ++ (le 2 used ++ les 2 []))) ++ c ++ List.replicate 48 0 : Bs) = ([83, 76, 79, 71] ++ le 4 seq ++ le 2 tail) ++ (le 2 used ++ (les 2 [] ++ c ++ List.replicate 48 0)) by simp only [List.append_assoc]]
  rw [mid (by simp [le_len]) (le_len 2 used), ge_le 2 used (by exact h)]
theorem uhA_desc {seq : Nat} {l : List Nat} (h : seq < 2 ^ 32) : uhA (descB seq l) = seq := by
  unfold uhA descB descR descA
  generalize hc : le 4 (crc _) = c
  have hcl : c.length = 4 := by rw [← hc]; exact le_len _ _
  simp only [List.append_assoc, List.nil_append]
  rw [mid hcl (le_len 4 seq), ge_le 4 seq (by exact h)]
theorem udN_desc {seq : Nat} {l : List Nat} (h : l.length < 2 ^ 16) : udN (descB seq l) = l.length := by
  unfold udN descB descR descA
  generalize hc : le 4 (crc _) = c
  have hcl : c.length = 4 := by rw [← hc]; exact le_len _ _
  simp only [List.append_assoc, List.nil_append]
  rw [← List.append_assoc c (le 4 seq), mid (by simp [le_len, hcl]) (le_len 2 _), ge_le 2 _ (by exact h)]
theorem les_get (l : List Nat) (r : Bs) : ∀ (k : Nat) (h : k < l.length), ((les 2 l ++ r).drop (k * 2)).take 2 = le 2 l[k] := by
  induction l with
  | nil => intro k h; cases h
  | cons a l ih =>
    intro k h
    rw [les_cons, List.append_assoc]
    cases k with
    | zero => rw [Nat.zero_mul, List.drop_zero, List.take_append_of_le_length (by rw [le_len]; exact Nat.le_refl 2), List.take_of_length_le (by rw [le_len]; exact Nat.le_refl 2)]; rfl
    | succ k =>
      have := ih k (by simpa using h)
      rw [show (k + 1) * 2 = (le 2 a).length + k * 2 by rw [le_len]; omega, ← List.drop_drop, List.drop_append_of_le_length (Nat.le_refl _), List.drop_of_length_le (Nat.le_refl _), List.nil_append]
      exact this
theorem udL_desc {seq : Nat} {l : List Nat} (h1 : ∀ z ∈ l, z < 2 ^ 16) : udL (descB seq l) l.length = l := by
  unfold udL descB descR descA
  generalize hc : le 4 (crc _) = c
  have hcl : c.length = 4 := by rw [← hc]; exact le_len _ _
  apply List.ext_getElem
  · simp
  · intro k hk1 hk2
    have hk : k < l.length := hk2
    rw [List.getElem_map, List.getElem_range]
    simp only [List.append_assoc, List.nil_append]
    generalize hr : List.replicate (60 - _) (0 : UInt8) = r
    rw [show c ++ (le 4 seq ++ (le 2 l.length ++ (les 2 l ++ r))) = (c ++ le 4 seq ++ le 2 l.length) ++ (les 2 l ++ r) by simp only [List.append_assoc]]
    have hpl : (c ++ le 4 seq ++ le 2 l.length).length = 10 := by simp [le_len, hcl]
    generalize c ++ le 4 seq ++ le 2 l.length = pre at hpl ⊢
    have hd : (pre ++ (les 2 l ++ r)).drop 10 = les 2 l ++ r := by rw [← hpl]; exact List.drop_left
    rw [← List.drop_drop, hd, les_get l r k hk, ge_le 2 _ (h1 _ (List.getElem_mem hk))]
def cset (c : Nat → Bs) (k : Nat) (t : Bs) : Nat → Bs := fun j => if j = k then t else c j
def cact (c : Nat → Bs) : Act → Nat → Bs
  | .wr k t => cset c k t
  | .fl => c
def cacts (c : Nat → Bs) (l : List Act) : Nat → Bs := l.foldl cact c
theorem cacts_app (c : Nat → Bs) (l k : List Act) : cacts c (l ++ k) = cacts (cacts c l) k := List.foldl_append
inductive Rp (c : Nat → Bs) (tail used : Nat) : Nat → List (Nat × List (Int × Bs)) → Prop where
  | nil : Rp c tail used used []
  | cons {at' sq : Nat} {l : List Nat} {ps : List (Nat × List (Int × Bs))} (h1 : c (2 + (tail + at') % 9) = descB sq l) (h2 : l.length ≤ 27) (h3 : l ≠ []) (h4 : ∀ z ∈ l, z < 2 ^ 16) (h5 : sq < 2 ^ 32) (h6 : at' + l.length < used) (h7 : ¬ oddL l) (h8 : Rp c tail used (at' + 1 + l.length) ps) : Rp c tail used at' ((sq, ents9 c tail (at' + 1) l) :: ps)
theorem Rp.rpl {c : Nat → Bs} {tail used at' : Nat} {ps : List (Nat × List (Int × Bs))} (h : Rp c tail used at' ps) : ∀ f, used - at' < f → rpl c tail used f at' = some ps := by
  induction h with
  | nil => intro f hf; cases f with
    | zero => omega
    | succ f => unfold YthbfinjddaembaaGreat.rpl; rw [if_pos rfl]
  | @cons at' sq l ps h1 h2 h3 h4 h5 h6 h7 h8 ih =>
    intro f hf
    cases f with
    | zero => omega
    | succ f =>
      have hl : 0 < l.length := List.length_pos_iff.2 h3
      have e1 : uhA (descB sq l) = sq := uhA_desc h5
      have e2 : udN (descB sq l) = l.length := udN_desc (by omega)
      have e3 : udL (descB sq l) l.length = l := udL_desc h4
      have := ih f (by omega)
      unfold YthbfinjddaembaaGreat.rpl
      rw [if_neg (by omega), h1, e1, e2, e3, if_pos ⟨h2, rfl⟩, if_neg (by
        rintro (h | h | h)
        · omega
        · omega
        · exact h7 h), this]
      rfl
theorem ents9_congr {c c' : Nat → Bs} {tail : Nat} : ∀ (l : List Nat) (u : Nat), (∀ i, i < l.length → c' (2 + (tail + (u + i)) % 9) = c (2 + (tail + (u + i)) % 9)) → ents9 c' tail u l = ents9 c tail u l
  | [], _, _ => rfl
  | k :: l, u, h => by
    show ((k : Int), c' _) :: _ = ((k : Int), c _) :: _
    have h0 := h 0 (by simp)
    rw [Nat.add_zero] at h0
    have ih := ents9_congr (c := c) (c' := c') (tail := tail) l (u + 1) fun i hi => by
      have := h (i + 1) (by simp; omega)
      rwa [show u + (i + 1) = u + 1 + i by omega] at this
    rw [h0, ih]
theorem Rp.more {c c' : Nat → Bs} {tail used seq at' : Nat} {ks : List Nat} {ps : List (Nat × List (Int × Bs))} (h : Rp c tail used at' ps) (hc : ∀ j, j < used → c' (2 + (tail + j) % 9) = c (2 + (tail + j) % 9)) (hd : c' (2 + (tail + used) % 9) = descB seq ks)
    (h2 : ks.length ≤ 27) (h3 : ks ≠ []) (h4 : ∀ z ∈ ks, z < 2 ^ 16) (h5 : seq < 2 ^ 32) (h7 : ¬ oddL ks) : Rp c' tail (used + 1 + ks.length) at' (ps ++ [(seq, ents9 c' tail (used + 1) ks)]) := by
  induction h with
  | nil => exact .cons hd h2 h3 h4 h5 (by omega) h7 .nil
  | @cons at' sq l ps g1 g2 g3 g4 g5 g6 g7 g8 ih =>
    rw [← ents9_congr (c' := c') l (at' + 1) fun i hi => hc (at' + 1 + i) (by omega)]
    exact .cons (by rw [hc _ (by omega)]; exact g1) g2 g3 g4 g5 (by omega) g7 ih
structure LogOk (c : Nat → Bs) (seq tail used : Nat) (es : List (Int × Bs)) : Prop where
  hdr : c 1 = hdrB seq tail used
  hs : seq < 2 ^ 32
  ht : tail < 9
  hu : used ≤ 9
  ps : ∃ ps, Rp c tail used 0 ps ∧ seqsOk seq (ps.map (·.1)) ∧ es = ps.flatMap (·.2)
theorem LogOk.opn {c : Nat → Bs} {seq tail used : Nat} {es : List (Int × Bs)} (h : LogOk c seq tail used es) : opn c = some (seq, tail, used, es) := by
  obtain ⟨ps, h1, h2, rfl⟩ := h.ps
  have e1 := uhA_hdr (tail := tail) (used := used) h.hs
  have e2 := uhB_hdr (seq := seq) (used := used) (tail := tail) (by have := h.ht; omega)
  have e3 := uhC_hdr (seq := seq) (tail := tail) (used := used) (by have := h.hu; omega)
  unfold YthbfinjddaembaaGreat.opn
  rw [h.hdr, e1, e2, e3, if_pos ⟨rfl, h.ht, h.hu⟩, h1.rpl 11 (by have := h.hu; omega)]
  unfold rplOk
  simp [h2]
theorem seqsOk_more {seq : Nat} {sq : List Nat} (h : seqsOk seq sq) : seqsOk (seq + 1) (sq ++ [seq]) := by
  intro i hi
  rw [List.length_append, List.length_cons, List.length_nil] at hi ⊢
  by_cases h2 : i < sq.length
  · rw [List.getElem_append_left h2, h i h2]
    omega
  · have : i = sq.length := by omega
    subst this
    rw [List.getElem_append_right (Nat.le_refl _)]
    simp
    omega
theorem LogOk.commit {c c' : Nat → Bs} {seq tail used : Nat} {es E : List (Int × Bs)} {ks : List Nat} (h : LogOk c seq tail used es) (hc : ∀ j, j < used → c' (2 + (tail + j) % 9) = c (2 + (tail + j) % 9)) (hd : c' (2 + (tail + used) % 9) = descB seq ks) (hh : c' 1 = hdrB (seq + 1) tail (used + 1 + ks.length))
    (hs : seq + 1 < 2 ^ 32) (h3 : ks ≠ []) (h4 : ∀ z ∈ ks, z < 2 ^ 16) (h7 : ¬ oddL ks) (hf : used + 1 + ks.length ≤ 9) (hE : ents9 c' tail (used + 1) ks = E) : LogOk c' (seq + 1) tail (used + 1 + ks.length) (es ++ E) := by
  obtain ⟨ps, h1, h2, rfl⟩ := h.ps
  refine ⟨hh, hs, h.ht, hf, _, h1.more hc hd (by omega) h3 h4 h.hs h7, ?_, ?_⟩
  · rw [List.map_append]
    exact seqsOk_more h2
  · rw [List.flatMap_append, hE]; simp
theorem LogOk.zero {c : Nat → Bs} {seq tail : Nat} (hh : c 1 = hdrB seq tail 0) (hs : seq < 2 ^ 32) (ht : tail < 9) : LogOk c seq tail 0 [] :=
  ⟨hh, hs, ht, by omega, [], .nil, (fun i hi => by cases hi), rfl⟩
theorem pos_ne {tail a b : Nat} (h : a < b) (h2 : b < 9) : (tail + a) % 9 ≠ (tail + b) % 9 := by omega
theorem datActs_ct (tail : Nat) : ∀ (ts : List Bs) (u : Nat) (c : Nat → Bs), u + ts.length ≤ 9 → (∀ i (h : i < ts.length), cacts c (datActs tail u ts) (2 + (tail + (u + i)) % 9) = ts[i]) ∧ ∀ k, (∀ i, i < ts.length → k ≠ 2 + (tail + (u + i)) % 9) → cacts c (datActs tail u ts) k = c k
  | [], u, c, _ => ⟨fun i h => (by cases h), fun k _ => rfl⟩
  | t :: l, u, c, h => by
    rw [List.length_cons] at h
    obtain ⟨h1, h2⟩ := datActs_ct tail l (u + 1) (cset c (2 + (tail + u) % 9) t) (by omega)
    refine ⟨fun i hi => ?_, fun k hk => ?_⟩
    · cases i with
      | zero =>
        show cacts (cset c (2 + (tail + u) % 9) t) (datActs tail (u + 1) l) (2 + (tail + u) % 9) = t
        rw [h2 _ fun i hi e => pos_ne (tail := tail) (show u < u + 1 + i by omega) (by omega) (by omega)]
        unfold cset
        rw [if_pos rfl]
      | succ i =>
        have := h1 i (by simpa using hi)
        show cacts (cset c (2 + (tail + u) % 9) t) (datActs tail (u + 1) l) (2 + (tail + (u + (i + 1))) % 9) = l[i]'(by simpa using hi)
        rw [show u + (i + 1) = u + 1 + i by omega]
        exact this
    · show cacts (cset c (2 + (tail + u) % 9) t) (datActs tail (u + 1) l) k = c k
      rw [h2 k fun i hi => by
        have := hk (i + 1) (by simp; omega)
        rwa [show u + (i + 1) = u + 1 + i by omega] at this]
      unfold cset
      rw [if_neg (by have := hk 0 (by simp); simpa using this)]
theorem ents9_list {c : Nat → Bs} {tail : Nat} : ∀ (L : List (Int × Bs)) (u : Nat), (∀ e ∈ L, 0 ≤ e.1) → (∀ i (h : i < L.length), c (2 + (tail + (u + i)) % 9) = L[i].2) → ents9 c tail u (L.map fun e => e.1.toNat) = L
  | [], _, _, _ => rfl
  | e :: l, u, h0, h => by
    show (((e.1.toNat : Nat) : Int), c (2 + (tail + u) % 9)) :: ents9 c tail (u + 1) (l.map fun e => e.1.toNat) = _
    have h1 := h 0 (by simp)
    rw [ents9_list l (u + 1) (fun x hx => h0 x (List.mem_cons_of_mem _ hx)) fun i hi => by
      have := h (i + 1) (by simpa using hi)
      rw [show u + (i + 1) = u + 1 + i by omega] at this
      simpa using this]
    have h2 := h0 e List.mem_cons_self
    rw [Nat.add_zero] at h1
    rw [h1, Int.toNat_of_nonneg h2]; rfl
theorem cActs_log {c : Nat → Bs} {seq tail used : Nat} {es L : List (Int × Bs)} (h : LogOk c seq tail used es) (hL : soundE L = 0) (h0 : L.length ≠ 0) (hs : seq + 1 < 2 ^ 32) (hf : used + 1 + L.length ≤ 9) :
    LogOk (cacts c (partActs seq tail used (L.map fun e => e.1.toNat) (L.map (·.2)) ++ headActs (seq + 1) tail (used + 1 + L.length))) (seq + 1) tail (used + 1 + L.length) (es ++ L) ∧
    ∀ k, 11 ≤ k → cacts c (partActs seq tail used (L.map fun e => e.1.toNat) (L.map (·.2)) ++ headActs (seq + 1) tail (used + 1 + L.length)) k = c k := by
  obtain ⟨s1, s2, s3, s4⟩ := sound0 hL
  obtain ⟨d1, d2⟩ := datActs_ct tail (L.map (·.2)) (used + 1) (cset c (2 + (tail + used) % 9) (descB seq (L.map fun e => e.1.toNat))) (by rw [List.length_map]; omega)
  have e : cacts c (partActs seq tail used (L.map fun e => e.1.toNat) (L.map (·.2)) ++ headActs (seq + 1) tail (used + 1 + L.length)) = cset (cacts (cset c (2 + (tail + used) % 9) (descB seq (L.map fun e => e.1.toNat))) (datActs tail (used + 1) (L.map (·.2)))) 1 (hdrB (seq + 1) tail (used + 1 + L.length)) := by
    rw [cacts_app]; rfl
  rw [e]
  generalize cacts (cset c (2 + (tail + used) % 9) (descB seq (L.map fun e => e.1.toNat))) (datActs tail (used + 1) (L.map (·.2))) = c2 at d1 d2
  rw [List.length_map] at d2
  have hlen : (L.map fun e => e.1.toNat).length = L.length := List.length_map ..
  have key : ∀ k, k ≠ 1 → cset c2 1 (hdrB (seq + 1) tail (used + 1 + L.length)) k = c2 k := fun k hk => by unfold cset; rw [if_neg hk]
  refine ⟨?_, fun k hk => ?_⟩
  · have := LogOk.commit (c' := cset c2 1 (hdrB (seq + 1) tail (used + 1 + L.length))) (ks := L.map fun e => e.1.toNat) (E := L) h (fun j hj => ?_) ?_ ?_ hs (fun e => h0 (by rw [← hlen, e]; rfl)) (fun z hz => ?_) ?_ (by rw [hlen]; exact hf) ?_
    · rwa [hlen] at this
    · rw [key _ (by omega), d2 _ fun i hi e => pos_ne (tail := tail) (show j < used + 1 + i by omega) (by omega) (by omega)]
      unfold cset
      rw [if_neg fun e => pos_ne (tail := tail) hj (by omega) (by omega)]
    · rw [key _ (by omega), d2 _ fun i hi e => pos_ne (tail := tail) (show used < used + 1 + i by omega) (by omega) (by omega)]
      unfold cset
      rw [if_pos rfl]
    · rw [hlen]; unfold cset; rw [if_pos rfl]
    · obtain ⟨e, he, rfl⟩ := List.mem_map.1 hz
      have := s2 e he
      omega
    · rintro (h | ⟨z, hz, h⟩)
      · refine h ?_
        rw [← nodup_cast]
        have e : ((L.map fun e => e.1.toNat).map fun k => ((k : Nat) : Int)) = L.map (·.1) := by
          rw [List.map_map]
          apply List.map_congr_left
          intro e he
          have := s2 e he
          show ((e.1.toNat : Nat) : Int) = e.1
          omega
        rw [e]
        exact s3
      · obtain ⟨e, he, rfl⟩ := List.mem_map.1 hz
        have := s2 e he
        omega
    · refine ents9_list L (used + 1) (fun e he => by have := s2 e he; omega) fun i hi => ?_
      rw [key _ (by omega), d1 i (by rw [List.length_map]; exact hi), List.getElem_map]
  · rw [key k (by omega), d2 k fun i hi e => by omega]
    unfold cset
    rw [if_neg (by omega)]
theorem wrActs_ct : ∀ (l : List (Int × Bs)) (c : Nat → Bs) (k : Nat), (∀ e ∈ l, 0 ≤ e.1) → cacts c (wrActs l) k = (putAll (fun k => some (c k)) l k).getD []
  | [], c, k, _ => rfl
  | e :: l, c, k, h => by
    show cacts (cset c e.1.toNat e.2) (wrActs l) k = _
    rw [wrActs_ct l _ k fun x hx => h x (List.mem_cons_of_mem _ hx)]
    have h0 := h e List.mem_cons_self
    have : putAll (fun k => some (cset c e.1.toNat e.2 k)) l k = putAll (fun k => some (c k)) (e :: l) k := by
      unfold putAll cset
      rw [List.foldl_cons]
      show List.foldl _ (some (if k = e.1.toNat then e.2 else c k)) l = List.foldl _ (if e.1 = (k : Int) then some e.2 else some (c k)) l
      by_cases hk : k = e.1.toNat
      · rw [if_pos hk, if_pos (by omega)]
      · rw [if_neg hk, if_neg (by omega)]
    rw [this]
structure Ds.Lv (S : Ds) : Prop where
  fu : S.fused = false
  de : S.dead = false
theorem Ds.Lv.dies {S : Ds} (h : S.Lv) : S.dies = false := by unfold Ds.dies; rw [h.fu, h.de]; rfl
theorem Ds.Lv.act {S : Ds} (h : S.Lv) (a : Act) : (S.act a).Lv := by
  cases a with
  | wr k t => show (S.wr k t).Lv; unfold Ds.wr; rw [h.dies]; exact ⟨h.fu, h.de⟩
  | fl => show S.fl.Lv; unfold Ds.fl; rw [h.dies]; exact ⟨h.fu, h.de⟩
theorem Ds.Lv.acts {S : Ds} (h : S.Lv) (l : List Act) : (S.acts l).Lv := by
  induction l generalizing S with
  | nil => exact h
  | cons a l ih => exact ih (h.act a)
theorem cLast_add (a : Bs) (l : List Bs) (t : Bs) : cLast (a, l ++ [t]) = t := by
  unfold cLast
  simp
theorem ct_act {S : Ds} (h : S.Lv) (hl : S.L.length = 60) (a : Act) {j : Nat} (hj : j < 60) : (S.act a).ct j = cact S.ct a j := by
  have hx : S.L[j]? = some S.L[j] := List.getElem?_eq_getElem (by omega)
  generalize S.L[j] = x at hx
  cases a with
  | wr k t =>
    show (S.wr k t).ct j = cset S.ct k t j
    unfold Ds.wr
    rw [h.dies]
    unfold Ds.ct cset
    show (((S.L.modify k fun c => (c.1, c.2 ++ [t]))[j]?).map cLast).getD [] = _
    rw [List.getElem?_modify, hx]
    by_cases hk : k = j
    · subst hk
      rw [if_pos rfl]
      show (Option.map cLast (some (if k = k then (x.1, x.2 ++ [t]) else x))).getD [] = t
      rw [if_pos rfl]
      exact cLast_add _ _ _
    · rw [if_neg (fun e => hk e.symm)]
      show (Option.map cLast (some (if k = j then (x.1, x.2 ++ [t]) else x))).getD [] = (Option.map cLast S.L[j]?).getD []
      rw [if_neg hk, hx]
  | fl =>
    show S.fl.ct j = S.ct j
    unfold Ds.fl
    rw [h.dies]
    unfold Ds.ct
    show (((S.L.map fun c => (cLast c, []))[j]?).map cLast).getD [] = _
    rw [List.getElem?_map, hx]
    rfl
theorem len_act {S : Ds} (a : Act) : (S.act a).L.length = S.L.length := by
  cases a with
  | wr k t => show (S.wr k t).L.length = _; unfold Ds.wr; cases S.dies with
    | true => rfl
    | false => exact List.length_modify ..
  | fl => show S.fl.L.length = _; unfold Ds.fl; cases S.dies with
    | true => rfl
    | false => exact List.length_map ..
theorem cacts_congr {c c' : Nat → Bs} {j : Nat} (h : c j = c' j) (l : List Act) : cacts c l j = cacts c' l j := by
  induction l generalizing c c' with
  | nil => exact h
  | cons a l ih =>
    refine ih ?_
    cases a with
    | wr k t =>
      show (if j = k then t else c j) = if j = k then t else c' j
      rw [h]
    | fl => exact h
theorem ct_acts {S : Ds} (h : S.Lv) (hl : S.L.length = 60) (l : List Act) {j : Nat} (hj : j < 60) : (S.acts l).ct j = cacts S.ct l j := by
  induction l generalizing S with
  | nil => rfl
  | cons a l ih =>
    have := ih (h.act a) (by rw [len_act]; exact hl)
    show ((S.act a).acts l).ct j = cacts (cact S.ct a) l j
    rw [this]
    exact cacts_congr (ct_act h hl a hj) l
def Ds.Qt (S : Ds) : Prop := ∀ c ∈ S.L, c.2 = []
theorem Ds.Lv.qt {S : Ds} (h : S.Lv) : S.fl.Qt := by
  unfold Ds.fl
  rw [h.dies]
  intro c hc
  obtain ⟨x, _, rfl⟩ := List.mem_map.1 hc
  rfl
theorem Ds.Bd.qt {S : Ds} {n w : Nat} (h : S.Bd n w) (hq : S.Qt) : S.Bd n 0 := ⟨h.len, h.f1, h.f2, h.w1, h.w2, fun c hc => by rw [hq c hc]; exact Nat.le_refl 0, h.b1, h.b2⟩
theorem Rp.congr {c c' : Nat → Bs} {tail used at' : Nat} {ps : List (Nat × List (Int × Bs))} (h : Rp c tail used at' ps) (hc : ∀ j, j < 11 → c' j = c j) : Rp c' tail used at' ps := by
  induction h with
  | nil => exact .nil
  | @cons at' sq l ps g1 g2 g3 g4 g5 g6 g7 g8 ih =>
    rw [← ents9_congr (c' := c') l (at' + 1) fun i hi => hc _ (by omega)]
    exact .cons (by rw [hc _ (by omega)]; exact g1) g2 g3 g4 g5 g6 g7 ih
theorem LogOk.congr {c c' : Nat → Bs} {seq tail used : Nat} {es : List (Int × Bs)} (h : LogOk c seq tail used es) (hc : ∀ j, j < 11 → c' j = c j) : LogOk c' seq tail used es := by
  obtain ⟨ps, h1, h2⟩ := h.ps
  exact ⟨by rw [hc 1 (by omega)]; exact h.hdr, h.hs, h.ht, h.hu, ps, h1.congr hc, h2⟩
section
variable {m : M} {d cb n w : Nat} {S : Ds}
theorem wr_eq {D : Dv} {k nx : Nat} {c c' : Cw} {t : Bs} (hd : D.dies = false) (hck : D.L[k]? = some c) (hp : c.Push nx c' t) : (Dv.mk (D.L.set k c') D.fused D.dead (D.fuse - 1) (D.writes + 1)).ds = D.ds.wr k t := by
  have hk := (List.getElem?_eq_some_iff.1 hck).1
  unfold Ds.wr
  rw [show D.ds.dies = false from hd]
  unfold Dv.ds
  simp only [cond_false, Ds.mk.injEq, and_true]
  apply List.ext_getElem?
  intro i
  rw [List.getElem?_modify, List.getElem?_map, List.getElem?_map, List.getElem?_set]
  by_cases hi : k = i
  · subst hi
    rw [if_pos rfl, if_pos hk, hck]
    obtain ⟨s', b', e1, _⟩ := hp.wl
    simp [Cw.cs, e1, hp.al]
  · rw [if_neg hi]
    cases D.L[i]? <;> simp [hi]
theorem fl_eq {D : Dv} (hd : D.dies = false) : (Dv.mk (D.L.map Cw.fl) D.fused D.dead (D.fuse - 1) (D.writes + 1)).ds = D.ds.fl := by
  unfold Ds.fl
  rw [show D.ds.dies = false from hd]
  unfold Dv.ds
  simp only [cond_false, Ds.mk.injEq, and_true, List.map_map]
  apply List.map_congr_left
  intro c _
  show c.fl.cs = (cLast c.cs, [])
  rw [cs_last]
  have h1 : c.fl.al = c.last.2.1 := by
    have := Cw.fl_last (c := c)
    rw [← this]
    rfl
  show (c.fl.al, c.fl.wl.map _) = _
  rw [h1]
  rfl
set_option maxHeartbeats 1000000 in
theorem fresh_ds (hw : Wf m) {Q : AV → M → Prop} (hQ : ∀ m' d cb lg mb S P, DsAt m' d cb S → S.Lv → S.Qt → S.Bd 2 0 → LogOk S.ct 1 0 0 [] → (∀ k, k < 60 → k ≠ 1 → S.ct k = zeros) → LgAt m' lg d mb 1 0 0 false → PmAt m' mb P → (∀ k, pbs P k = none) → KeepK m m' devK → Q (.tuple [.ptr d 0, .ptr lg 0]) m') :
    WpF Tryz.prog tb fn_f6 [.agg smallP] m Q := by
  obtain ⟨m1, e1, a1, k1, n1⟩ := addL_at hw ty_api_Plan 12 smallP
  have r0 : m1.rd m.next 0 = some (iv 64) := by rw [a1.rd]; rfl
  have r1 : m1.rd m.next 1 = some (iv 60) := by rw [a1.rd]; rfl
  refine WpF.go at_f6 ?_
  simp -implicitDefEqProofs only [o_f6, r_f6_0, r_f6_1, e1, r0, r1, ↓reduceIte, Nat.reduceEqDiff, Nat.reduceAdd, wA, wB, wC, wD]
  refine dnew (n := 60) k1.wf (by omega) (by omega) fun m2 d cb D h2 hl hfu hde hfs hwr hz k2 => ?_
  have f0 : ∀ d, binS Tryz.prog .eql ty_pdevice_Device (.ptr d 0) nilp = some (.b false) := fun d => by kernel_rfl
  have a2 := a1.keep k1.wf k2 fun h => h
  have q2 : m2.rdN m.next 0 12 = some smallP := a2.rdN (i := 0) (n := 12) (Nat.le_refl 12)
  simp -implicitDefEqProofs only [o_f6, r_f6_2, r_f6_4, f0, q2, ↓reduceIte, Nat.reduceEqDiff, wA, wB, wC, wD]
  have hck : D.L[1]? = some D.L[1] := List.getElem?_eq_getElem (by omega)
  have hwl : ∀ c ∈ D.L, c.wl.length < 400 := fun c hc => by rw [(hz c hc).2]; decide
  have hdi : D.dies = false := by unfold Dv.dies; rw [hde, hfu]; rfl
  refine format_spec k2.wf h2 hl hde hfu (by omega) (by omega) (by omega) (by omega) hck hwl fun m3 c' nx hnx hp h3 k3 => ?_
  have S1 : (Dv.mk (D.L.set 1 c') D.fused D.dead (D.fuse - 1) (D.writes + 1)).ds = D.ds.wr 1 (hdrB 1 0 0) := wr_eq hdi hck hp
  have S2 : Dv.ds { D with L := (D.L.set 1 c').map Cw.fl, fuse := D.fuse - 1 - 1, writes := D.writes + 1 + 1 } = (D.ds.wr 1 (hdrB 1 0 0)).fl := by
    rw [← S1]
    exact fl_eq (D := Dv.mk (D.L.set 1 c') D.fused D.dead (D.fuse - 1) (D.writes + 1)) (by unfold Dv.dies; show (D.dead || (D.fused && _)) = false; rw [hde, hfu]; rfl)
  have hlv0 : D.ds.Lv := ⟨hfu, hde⟩
  have hl60 : D.ds.L.length = 60 := by show (D.L.map Cw.cs).length = 60; rw [List.length_map]; exact hl
  have hB0 : D.ds.Bd 0 0 := by
    refine ⟨hl60, by show -((0 : Nat) : Int) ≤ D.fuse; omega, by show D.fuse ≤ _; omega, by show 0 ≤ D.writes; omega, by show D.writes ≤ _; omega, fun c hc => ?_, fun c hc => ?_, fun c hc => ?_⟩
    · obtain ⟨x, hx, rfl⟩ := List.mem_map.1 hc
      show (x.wl.map _).length ≤ 0
      rw [(hz x hx).2]; exact Nat.le_refl 0
    · obtain ⟨x, hx, rfl⟩ := List.mem_map.1 hc
      show x.al.length = 64
      rw [(hz x hx).1]; rfl
    · obtain ⟨x, hx, rfl⟩ := List.mem_map.1 hc
      intro t ht
      have ht : t ∈ x.wl.map _ := ht
      rw [(hz x hx).2] at ht; cases ht
  have hct0 : ∀ k, k < 60 → D.ds.ct k = zeros := fun k hk => by
    have hx : D.L[k]? = some D.L[k] := List.getElem?_eq_getElem (by omega)
    have hm := hz _ (List.getElem_mem (l := D.L) (n := k) (by omega))
    generalize D.L[k] = x at hx hm
    unfold Ds.ct
    show (((D.L.map Cw.cs)[k]?).map cLast).getD [] = zeros
    rw [List.getElem?_map, hx]
    show cLast x.cs = zeros
    unfold cLast Cw.cs
    rw [hm.1, hm.2]; rfl
  generalize hS : (D.ds.wr 1 (hdrB 1 0 0)).fl = S at S2
  have hSa : D.ds.acts [.wr 1 (hdrB 1 0 0), .fl] = S := hS
  have hlv : S.Lv := hSa ▸ hlv0.acts _
  have hqt : S.Qt := by rw [← hS]; exact (hlv0.act (.wr 1 (hdrB 1 0 0))).qt
  have hBd : S.Bd 2 0 := by
    rw [← hS] at hqt ⊢
    exact ((hB0.wr 1 (hdrB_len 1 0 0)).fl).qt hqt
  have hct : ∀ k, k < 60 → S.ct k = if k = 1 then hdrB 1 0 0 else zeros := fun k hk => by
    rw [← hSa, ct_acts hlv0 hl60 _ hk]
    show cset D.ds.ct 1 (hdrB 1 0 0) k = _
    unfold cset
    by_cases h : k = 1
    · rw [if_pos h, if_pos h]
    · rw [if_neg h, if_neg h, hct0 k hk]
  have hlog : LogOk S.ct 1 0 0 [] := LogOk.zero (by rw [hct 1 (by omega)]; rfl) (by decide) (by decide)
  have d3 : DsAt m3 d cb S := ⟨_, h3, S2⟩
  have a3 := a2.kp k2.wf k3
  have q3 : m3.rdN m.next 0 12 = some smallP := a3.rdN (i := 0) (n := 12) (Nat.le_refl 12)
  simp -implicitDefEqProofs only [o_f6, r_f6_5, q3, ↓reduceIte, Nat.reduceEqDiff, wA, wB, wC, wD]
  refine open_ds k3.wf d3 hBd (by omega) hlv.de (fun e => by rw [hlog.opn] at e; cases e) fun seq tail used es e m4 lg mb P' g4 p4 hp4 _ _ _ _ _ k4 => ?_
  rw [hlog.opn] at e
  cases e
  simp -implicitDefEqProofs only [o_f6, r_f6_6, r_f6_8, ↓reduceIte, Nat.reduceEqDiff, wA, wB, wC, wD]
  refine hQ m4 d cb lg mb S P' (d3.k0 k3.wf k4) hlv hqt hBd hlog (fun k hk h1 => by rw [hct k hk, if_neg h1]) g4 p4 hp4 ((((k1.tf k2).k0 (E := devK) (S := [])).tk k3).tf k4)
end
end Go.Proofs.YthbfinjddaembaaGreat
/- Small functions of the law: bytes and writes compared, headers compared, a device's image. -/
namespace Go.Am
open Go Go.RowKit
end Go.Am
namespace Go.Proofs.YthbfinjddaembaaGreat
open Go Go.Am
section
variable {m : M} {d cb n w : Nat} {S : Ds}
theorem WsAt.cell {x : AV} {L : List Wr} (h : WsAt m x L) {k : Nat} (hk : k < L.length) : ∃ b cap q, x = .slice b 0 L.length cap q ∧ m.rd b (k * 2) = some (iv L[k].1) ∧ m.rd b (k * 2 + 1) = some L[k].2.1 := by
  obtain ⟨b, cap, q, junk, h1, h2, _⟩ := h.row (fun e => by subst e; cases hk)
  have hl := wcells_len L
  have hg := wcells_get L k hk
  have g0 : (wcells L)[k * 2]? = some (iv L[k].1) := by
    have := congrArg (fun l => l[0]?) hg
    simpa [List.getElem?_take, List.getElem?_drop] using this
  have g1 : (wcells L)[k * 2 + 1]? = some L[k].2.1 := by
    have := congrArg (fun l => l[1]?) hg
    simpa [List.getElem?_take, List.getElem?_drop] using this
  refine ⟨b, cap, q, h1, ?_, ?_⟩
  · rw [h2.rd, List.getElem?_append_left (by omega)]; exact g0
  · rw [h2.rd, List.getElem?_append_left (by omega)]; exact g1
def imgN (c : Nat → Bs) (k : Nat) : Bs := (List.range k).flatMap fun i => c (11 + i)
def imgB (c : Nat → Bs) : Bs := imgN c 49
theorem imgN_succ (c : Nat → Bs) (k : Nat) : imgN c (k + 1) = imgN c k ++ c (11 + k) := by
  unfold imgN
  rw [List.range_succ, List.flatMap_append]
  simp
theorem imgN_len {c : Nat → Bs} (h : ∀ k, k < 60 → (c k).length = 64) : ∀ k, k ≤ 49 → (imgN c k).length = k * 64
  | 0, _ => rfl
  | k + 1, hk => by
    rw [imgN_succ, List.length_append, imgN_len h k (by omega), h _ (by omega)]; omega
theorem Ds.Bd.ct64 (h : S.Bd n w) {k : Nat} (hk : k < 60) : (S.ct k).length = 64 := by
  have hlen := h.len
  have hx : S.L[k]? = some (S.L[k]'(by omega)) := List.getElem?_eq_getElem (by omega)
  unfold Ds.ct
  rw [hx]
  have hm := List.mem_of_getElem? hx
  exact cLast_len (h.b1 _ hm) (h.b2 _ hm)
theorem image_ds (hw : Wf m) (h : DsAt m d cb S) (hB : S.Bd n w) (hw4 : w ≤ 400) (hd : S.dead = false) :
    ∃ m' y b, BtU m' y (imgB S.ct) b ∧ m.next ≤ b ∧ Keep m m' (fun _ => False) ∧ Ran Tryz.prog tb fn_f7 [.ptr d 0, .agg smallP] m (.tuple [y, .b true]) m' := by
  obtain ⟨m1, e1, a1, k1, n1⟩ := addL_at hw ty_api_Plan 12 smallP
  have h1 := h.k0 hw k1
  have hct : ∀ k, k < 60 → (S.ct k).length = 64 := fun k hk => hB.ct64 hk
  have key : WpF Tryz.prog tb fn_f7 [.ptr d 0, .agg smallP] m fun v m' => ∃ y b, v = .tuple [y, .b true] ∧ BtU m' y (imgB S.ct) b ∧ m.next ≤ b ∧ Keep m m' (fun _ => False) := by
    have r5 : m1.rd m.next 5 = some (iv 11) := by rw [a1.rd]; rfl
    refine WpF.go at_f7 ?_
    simp -implicitDefEqProofs only [o_f7, r_f7_0, r_f7_1, r_f7_2, e1, r5, ↓reduceIte, Nat.reduceEqDiff, Nat.reduceAdd, wA, wB, wC, wD]
    refine GX_loop (fun j fr mk => ∃ k y o, k ≤ 49 ∧ j = 49 - k ∧ (ev (tm 0) fr = .ptr d 0 ∧ ev (tm 3) fr = .ptr m.next 0 ∧ ev (tm 6) fr = y ∧ ev (tm 7) fr = iv ((11 + k : Nat) : Int)) ∧ SlAt mk ty_uint8 1 y (imgN S.ct k).length (ycells (imgN S.ct k)) o ∧ (∀ b, o = some b → m1.next ≤ b) ∧ Keep m1 mk (fun _ => False)) (k := 49) ⟨0, nils, none, Nat.zero_le _, rfl, by simp -implicitDefEqProofs only [ev_tm, ↓reduceIte, Nat.reduceEqDiff, Nat.add_zero, true_and]; exact rfl, .nil, (fun _ e => by cases e), Keep.refl k1.wf _⟩ ?_
    rintro j fr mk ⟨k, y, o, hk, rfl, ⟨e0, e3, e6, e7⟩, hy, ho, kk⟩
    have ak := a1.keep k1.wf kk fun h => h
    have q1 : mk.rd m.next 1 = some (iv 60) := by rw [ak.rd]; rfl
    have hnk := kk.next
    have hil := imgN_len hct k hk
    by_cases hlt : k < 49
    · obtain ⟨m2, b2, c2, hb2, hc2, h64, k2, hn2, r2⟩ := ds_read2 (k := 11 + k) kk.wf (h1.k0 k1.wf kk) hB hw4 hd (by omega)
      obtain ⟨y', m3, o', ea, hy3, k3, ho3⟩ := (hy.keep kk.wf k2 fun _ _ h => h).append (bytes := 1) (z := [.y 0]) k2.wf hb2.bs.src (room_of (by omega) (by omega))
      simp -implicitDefEqProofs only [o_f7, r_f7_3, r_f7_5, r_f7_6, r_f7_8, r_f7_4, e0, e3, e6, e7, q1, show (((11 + k : Nat) : Int) < 60) = True from eq_true (by omega), r2.eq, ea, b_add ty_int (show -9223372036854775808 ≤ ((11 + k : Nat) : Int) + 1 by omega) (show ((11 + k : Nat) : Int) + 1 ≤ 9223372036854775807 by omega), ↓reduceIte, Nat.reduceEqDiff, wA, wB, wC, wD]
      have k23 : Keep m1 m3 fun _ => False := (kk.tf k2).trans k3 fun z hz e => absurd (ho z e) (by omega)
      refine LK_n (k' := 49 - (k + 1)) (by omega) ⟨k + 1, y', o', by omega, rfl, by simp -implicitDefEqProofs only [e0, e3, show ((11 + k : Nat) : Int) + 1 = ((11 + (k + 1) : Nat) : Int) from rfl, ev_tm, ↓reduceIte, Nat.reduceEqDiff, and_self], ?_, fun b hb => ?_, k23⟩
      · rw [imgN_succ, List.length_append, ycells_app]
        exact hy3
      · rcases ho3 with e | ⟨b', e, h5, _⟩
        · exact ho b (e ▸ hb)
        · rw [e] at hb; cases hb
          have := k2.next
          omega
    · have hk49 : k = 49 := by omega
      subst hk49
      simp -implicitDefEqProofs only [o_f7, r_f7_3, r_f7_9, e3, e6, e7, q1, show (((11 + 49 : Nat) : Int) < 60) = False from eq_false (by omega), ↓reduceIte, Nat.reduceEqDiff, Nat.reduceAdd, Nat.reduceSub, wA, wB, wC, wD]
      have hob : ∃ b, o = some b := by
        rw [hil] at hy
        generalize ycells (imgN S.ct 49) = ys at hy
        generalize hN : 49 * 64 = N at hy
        cases hy with
        | nil => cases hN
        | row => exact ⟨_, rfl⟩
      obtain ⟨b, rfl⟩ := hob
      have hnb := ho b rfl
      have hn1 := k1.next
      exact ⟨y, b, rfl, ⟨(RowB.mk hy).bs, hy.kd⟩, by omega, k1.tf kk⟩
  obtain ⟨v, m', ⟨y, b, rfl, h2, h3, h4⟩, r⟩ := key.ran
  exact ⟨m', y, b, h2, h3, h4, r⟩
end
end Go.Proofs.YthbfinjddaembaaGreat
/- A log and its device, alive and with nothing that waits: a Commit, an Apply, an Open, what is pending. -/
namespace Go.Am
open Go Go.RowKit
end Go.Am
namespace Go.Proofs.YthbfinjddaembaaGreat
open Go Go.Am
theorem putAll_keys (f : Nat → Bs) : ∀ (ks : List Nat) (g : Nat → Option Bs) (z : Nat), putAll g (ks.map fun k : Nat => ((k : Int), f k)) z = if z ∈ ks then some (f z) else g z
  | [], g, z => rfl
  | k :: ks, g, z => by
    have ih := putAll_keys f ks (fun j => if (k : Int) = (j : Int) then some (f k) else g j) z
    have e : putAll g ((k :: ks).map fun k : Nat => ((k : Int), f k)) z = putAll (fun j => if (k : Int) = (j : Int) then some (f k) else g j) (ks.map fun k : Nat => ((k : Int), f k)) z := rfl
    rw [e, ih]
    by_cases h : z ∈ ks
    · rw [if_pos h, if_pos (List.mem_cons_of_mem _ h)]
    · rw [if_neg h]
      by_cases h2 : k = z
      · subst h2
        rw [if_pos rfl, if_pos List.mem_cons_self]
      · rw [if_neg (by omega), if_neg (by
          intro hm
          rcases List.mem_cons.1 hm with e | e
          · exact h2 e.symm
          · exact h e)]
theorem putAll_plist (P : List Pe) (c : Nat → Bs) (z : Nat) : (putAll (fun k => some (c k)) (plist P) z).getD [] = (pbs P z).getD (c z) := by
  unfold plist
  rw [putAll_keys]
  by_cases h : z ∈ pks P
  · rw [if_pos h]
    obtain ⟨e, he⟩ := mem_pks.1 h
    unfold pbs
    rw [he]; rfl
  · rw [if_neg h]
    have : pbs P z = none := by
      unfold pbs
      cases hg : pget P z with
      | none => rfl
      | some y => exact absurd (mem_pks.2 ⟨y, hg⟩) h
    rw [this]; rfl
theorem Rp.nil0 {c : Nat → Bs} {tail : Nat} {ps : List (Nat × List (Int × Bs))} (h : Rp c tail 0 0 ps) : ps = [] := by
  cases h with
  | nil => rfl
  | cons h1 h2 h3 h4 h5 h6 => omega
theorem LogOk.nil0 {c : Nat → Bs} {seq tail : Nat} {es : List (Int × Bs)} (h : LogOk c seq tail 0 es) : es = [] := by
  obtain ⟨ps, h1, h2, rfl⟩ := h.ps
  rw [h1.nil0]; rfl
structure RsD (m : M) (d cb : Nat) (S : Ds) (n seq tail used : Nat) (es : List (Int × Bs)) : Prop where
  ds : DsAt m d cb S
  lv : S.Lv
  qt : S.Qt
  bd : S.Bd n 0
  ok : LogOk S.ct seq tail used es
structure WtAt (m : M) (d cb lg mb : Nat) (S : Ds) (n seq tail used : Nat) (es : List (Int × Bs)) (P : List Pe) : Prop where
  rs : RsD m d cb S n seq tail used es
  lg : LgAt m lg d mb seq tail used false
  pm : PmAt m mb P
  pb : ∀ k, pbs P k = putAll (fun _ => none) es k
section
variable {m : M} {d cb lg mb : Nat} {S : Ds} {n seq tail used : Nat} {es : List (Int × Bs)} {P : List Pe}
end
structure ScAt (m : M) (x : AV) (X : List (AV × List Wr)) : Prop where
  len : lenK false x = some X.length
  row : X ≠ [] → ∃ b cap q, x = .slice b 0 X.length cap q ∧ AtR m b (X.map (·.1)) ∧ kd m b roK
  dt : ∀ e ∈ X, WsAt m e.1 e.2 ∧ e.2.length ≤ 2000000
theorem ScAt.kp {m m' : M} {x : AV} {X : List (AV × List Wr)} {E S : List Nat} (h : ScAt m x X) (hw : Wf m) (hk : KeepK m m' E S) (hE : uB ∉ E := by decide) (hR : roK ∉ E := by decide) (hW : ty_api_Write + 1 ∉ E := by decide) : ScAt m' x X := by
  refine ⟨h.len, fun hn => ?_, fun e he => ⟨(h.dt e he).1.kp hw hk hE hR hW, (h.dt e he).2⟩⟩
  obtain ⟨b, cap, q, h1, h2, h3⟩ := h.row hn
  have hk1 : ¬ Kinds m E S b := Kinds.not h3 hR (by decide)
  have hg := hk.get b (AtR.lt' h2 hw) hk1
  exact ⟨b, cap, q, h1, h2.of_get hg, h3.of_get hg⟩
theorem ScAt.k0 {m m' : M} {x : AV} {X : List (AV × List Wr)} (h : ScAt m x X) (hw : Wf m) (k : Keep m m' fun _ => False) : ScAt m' x X := h.kp hw (E := []) (S := []) k.k0
theorem ScAt.cell {m : M} {x : AV} {X : List (AV × List Wr)} (h : ScAt m x X) {k : Nat} (hk : k < X.length) : ∃ b cap q, x = .slice b 0 X.length cap q ∧ m.rd b k = some X[k].1 := by
  obtain ⟨b, cap, q, h1, h2, _⟩ := h.row (fun e => by subst e; cases hk)
  refine ⟨b, cap, q, h1, ?_⟩
  rw [h2.rd, List.getElem?_map, List.getElem?_eq_getElem hk]; rfl
section
variable {m : M}
theorem len_aq {x : AV} {n : Nat} (h : lenK false x = some n) : aveq 40 x x = true := by
  cases x with
  | slice b o l c q => exact sl_aq b o l c q
  | sliceE b o a => simp [aveq, Nat.beq_refl]
  | p v =>
    cases v with
    | slice r l c =>
      cases r with
      | none => simp [aveq, veq, Nat.beq_refl]
      | some a => simp [aveq, veq, Nat.beq_refl]
    | _ => cases h
  | _ => cases h
theorem Rp.home {c : Nat → Bs} {tail used at' : Nat} {ps : List (Nat × List (Int × Bs))} (h : Rp c tail used at' ps) : ∀ e ∈ ps.flatMap (·.2), 11 ≤ e.1 := by
  have key : ∀ (l : List Nat) (u : Nat), (∀ z ∈ l, 11 ≤ z) → ∀ e ∈ ents9 c tail u l, 11 ≤ e.1 := fun l => by
    induction l with
    | nil => intro u _ e he; cases he
    | cons k l ih =>
      intro u hz e he
      rcases List.mem_cons.1 he with rfl | he
      · have := hz k List.mem_cons_self
        show (11 : Int) ≤ (k : Int)
        omega
      · exact ih (u + 1) (fun z h => hz z (List.mem_cons_of_mem _ h)) e he
  induction h with
  | nil => intro e he; cases he
  | @cons at' sq l ps g1 g2 g3 g4 g5 g6 g7 g8 ih =>
    intro e he
    rw [List.flatMap_cons] at he
    rcases List.mem_append.1 he with he | he
    · refine key l (at' + 1) (fun z hz => ?_) e he
      exact Nat.le_of_not_lt fun h => g7 (.inr ⟨z, hz, by omega⟩)
    · exact ih e he
theorem putAll_mem {l : List (Int × Bs)} {g : Nat → Option Bs} {z : Nat} {t : Bs} (h : putAll g l z = some t) : (∃ e ∈ l, e.1 = (z : Int)) ∨ g z = some t := by
  induction l generalizing g with
  | nil => exact .inr h
  | cons e l ih =>
    have h : putAll (fun j => if e.1 = (j : Int) then some e.2 else g j) l z = some t := h
    rcases ih h with ⟨x, hx, h2⟩ | h2
    · exact .inl ⟨x, List.mem_cons_of_mem _ hx, h2⟩
    · by_cases he : e.1 = (z : Int)
      · exact .inl ⟨e, List.mem_cons_self, he⟩
      · rw [if_neg he] at h2
        exact .inr h2
abbrev okQ : AV → M → Prop := fun v _ => v = .b true
theorem b_nnil (lg : Nat) : binS Tryz.prog .eql ty_pwal_Log (.ptr lg 0) nilp = some (.b false) := by kernel_rfl
end
end Go.Proofs.YthbfinjddaembaaGreat
