import Derived.Test.YthbfinjddaembaaGreatYd
import Derived.Test.YthbfinjddaembaaGreatWbA
set_option linter.unusedVariables false
set_option linter.unusedSimpArgs false
/- What a crash may leave: plain. -/
namespace Go.Proofs.YthbfinjddaembaaGreat
open Go Go.Am
def lact (L : List Ct) : Act → List Ct
  | .wr k t => L.modify k fun c => (c.1, c.2 ++ [t])
  | .fl => L.map fun c => (cLast c, [])
def lacts (L : List Ct) (l : List Act) : List Ct := l.foldl lact L
theorem lacts_app (L : List Ct) (l k : List Act) : lacts L (l ++ k) = lacts (lacts L l) k := List.foldl_append
theorem act_L (S : Ds) (a : Act) : (S.act a).L = if S.dies then S.L else lact S.L a := by
  cases a with
  | wr k t => show (S.wr k t).L = _; unfold Ds.wr; cases S.dies <;> rfl
  | fl => show S.fl.L = _; unfold Ds.fl; cases S.dies <;> rfl
theorem act_dead_iff (S : Ds) (a : Act) : (S.act a).dead = S.dies := by
  cases a with
  | wr k t =>
    show (S.wr k t).dead = _; unfold Ds.wr
    cases h : S.dies with
    | true => rfl
    | false => exact Ds.live (S := S) h
  | fl =>
    show S.fl.dead = _; unfold Ds.fl
    cases h : S.dies with
    | true => rfl
    | false => exact Ds.live (S := S) h
theorem acts_pre : ∀ (l : List Act) (S : Ds), S.dead = false → ∃ p q, l = p ++ q ∧ (S.acts l).L = lacts S.L p ∧ ((S.acts l).dead = false → q = [])
  | [], S, _ => ⟨[], [], rfl, rfl, fun _ => rfl⟩
  | a :: l, S, h => by
    cases hd : S.dies with
    | true =>
      have e : S.act a = S.kill := by
        cases a with
        | wr k t => show S.wr k t = _; unfold Ds.wr; rw [hd]; rfl
        | fl => show S.fl = _; unfold Ds.fl; rw [hd]; rfl
      have e2 : S.acts (a :: l) = S.kill := by
        rw [Ds.acts_cons, e]
        exact Ds.acts_dead (S := S.kill) rfl l
      exact ⟨[], a :: l, rfl, by rw [e2]; rfl, fun h => by rw [e2] at h; cases h⟩
    | false =>
      obtain ⟨p, q, h1, h2, h3⟩ := acts_pre l (S.act a) (by rw [act_dead_iff]; exact hd)
      refine ⟨a :: p, q, by rw [h1]; rfl, ?_, h3⟩
      show ((S.act a).acts l).L = lacts (lact S.L a) p
      rw [h2, act_L, hd]; rfl
def Cand (L : List Ct) (f : Nat → Bs) : Prop := ∀ b, b < 60 → ∃ c, L[b]? = some c ∧ (f b = c.1 ∨ f b ∈ c.2)
structure Rests (L : List Ct) (c : Nat → Bs) : Prop where
  len : L.length = 60
  at' : ∀ b, b < 60 → L[b]? = some (c b, [])
def isWr : Act → Prop
  | .wr _ _ => True
  | .fl => False
theorem lact_len (L : List Ct) (a : Act) : (lact L a).length = L.length := by
  cases a with
  | wr k t => exact List.length_modify ..
  | fl => exact List.length_map ..
theorem lacts_len (l : List Act) : ∀ L : List Ct, (lacts L l).length = L.length := by
  induction l with
  | nil => intro L; rfl
  | cons a l ih => intro L; show (lacts (lact L a) l).length = _; rw [ih, lact_len]
theorem lacts_wr : ∀ (l : List Act) (L : List Ct) (b : Nat) (c : Ct), (∀ a ∈ l, isWr a) → L[b]? = some c → ∃ w, (lacts L l)[b]? = some (c.1, c.2 ++ w) ∧ (∀ t ∈ w, Act.wr b t ∈ l) ∧ cLast (c.1, c.2 ++ w) = cacts (fun _ => cLast c) l b
  | [], L, b, c, _, h => ⟨[], by rw [List.append_nil]; exact h, (fun t ht => by cases ht), by rw [List.append_nil]; rfl⟩
  | .fl :: l, L, b, c, hl, h => (hl .fl List.mem_cons_self).elim
  | .wr k t :: l, L, b, c, hl, h => by
    have hl' : ∀ a ∈ l, isWr a := fun a ha => hl a (List.mem_cons_of_mem _ ha)
    by_cases hk : k = b
    · subst hk
      obtain ⟨w, h1, h2, h3⟩ := lacts_wr l (L.modify k fun c => (c.1, c.2 ++ [t])) k (c.1, c.2 ++ [t]) hl' (by rw [List.getElem?_modify, h]; simp)
      refine ⟨t :: w, ?_, fun u hu => ?_, ?_⟩
      · show (lacts (lact L (.wr k t)) l)[k]? = _
        rw [show c.2 ++ t :: w = c.2 ++ [t] ++ w by simp]
        exact h1
      · rcases List.mem_cons.1 hu with rfl | hu
        · exact List.mem_cons_self
        · exact List.mem_cons_of_mem _ (h2 u hu)
      · rw [show c.2 ++ t :: w = c.2 ++ [t] ++ w by simp]
        have h3 : cLast (c.1, c.2 ++ [t] ++ w) = cacts (fun _ => cLast (c.1, c.2 ++ [t])) l k := h3
        rw [h3, cLast_add]
        show cacts (fun _ => t) l k = cacts (cset (fun _ => cLast c) k t) l k
        refine cacts_congr ?_ l
        unfold cset
        rw [if_pos rfl]
    · obtain ⟨w, h1, h2, h3⟩ := lacts_wr l (L.modify k fun c => (c.1, c.2 ++ [t])) b c hl' (by rw [List.getElem?_modify, h]; simp [hk])
      refine ⟨w, h1, fun u hu => List.mem_cons_of_mem _ (h2 u hu), ?_⟩
      rw [h3]
      show cacts (fun _ => cLast c) l b = cacts (cset (fun _ => cLast c) k t) l b
      refine cacts_congr ?_ l
      unfold cset
      rw [if_neg (fun e => hk e.symm)]
theorem Rests.cand {L : List Ct} {c : Nat → Bs} (h : Rests L c) {f : Nat → Bs} (hf : Cand L f) : ∀ b, b < 60 → f b = c b := fun b hb => by
  obtain ⟨x, h1, h2⟩ := hf b hb
  rw [h.at' b hb] at h1
  cases h1
  rcases h2 with h2 | h2
  · exact h2
  · cases h2
theorem Rests.wr {L : List Ct} {c : Nat → Bs} (h : Rests L c) {l : List Act} (hl : ∀ a ∈ l, isWr a) {f : Nat → Bs} (hf : Cand (lacts L l) f) : ∀ b, b < 60 → f b = c b ∨ ∃ t, Act.wr b t ∈ l ∧ f b = t := fun b hb => by
  obtain ⟨x, h1, h2⟩ := hf b hb
  obtain ⟨w, h3, h4, _⟩ := lacts_wr l L b _ hl (h.at' b hb)
  rw [h1] at h3
  cases h3
  rcases h2 with h2 | h2
  · exact .inl h2
  · exact .inr ⟨f b, h4 _ (by simpa using h2), rfl⟩
theorem Rests.fl {L : List Ct} {c : Nat → Bs} (h : Rests L c) {l : List Act} (hl : ∀ a ∈ l, isWr a) : Rests (lacts L (l ++ [.fl])) (cacts c l) := by
  refine ⟨by rw [lacts_len]; exact h.len, fun b hb => ?_⟩
  obtain ⟨w, h3, h4, h5⟩ := lacts_wr l L b _ hl (h.at' b hb)
  rw [lacts_app]
  show ((lacts L l).map fun c => (cLast c, ([] : List Bs)))[b]? = _
  rw [List.getElem?_map, h3]
  show some (cLast (c b, [] ++ w), ([] : List Bs)) = _
  have h5 : cLast (c b, [] ++ w) = cacts (fun _ => c b) l b := h5
  rw [h5]
  have : cacts (fun _ => c b) l b = cacts c l b := cacts_congr (c := fun _ => c b) (c' := c) rfl l
  rw [this]
theorem waves {L : List Ct} {c : Nat → Bs} (h : Rests L c) {l1 l2 p q : List Act} (h1 : ∀ a ∈ l1, isWr a) (h2 : ∀ a ∈ l2, isWr a) (hpq : l1 ++ [Act.fl] ++ (l2 ++ [Act.fl]) = p ++ q) {f : Nat → Bs} (hf : Cand (lacts L p) f) :
    (∀ b, b < 60 → f b = c b ∨ ∃ t, Act.wr b t ∈ l1 ∧ f b = t) ∨ (∀ b, b < 60 → f b = cacts c l1 b ∨ ∃ t, Act.wr b t ∈ l2 ∧ f b = t) ∨ (q = [] ∧ ∀ b, b < 60 → f b = cacts (cacts c l1) l2 b) := by
  have hlen := congrArg List.length hpq
  simp only [List.length_append, List.length_cons, List.length_nil] at hlen
  have hp : p = (l1 ++ [Act.fl] ++ (l2 ++ [Act.fl])).take p.length := by rw [hpq]; simp
  by_cases c1 : p.length ≤ l1.length
  · have e : p = l1.take p.length := by
      rw [List.append_assoc, List.take_append_of_le_length c1] at hp
      exact hp
    refine .inl fun b hb => ?_
    rw [e] at hf
    rcases h.wr (l := l1.take p.length) (fun a ha => h1 a (List.mem_of_mem_take ha)) hf b hb with h5 | ⟨t, h5, h6⟩
    · exact .inl h5
    · exact .inr ⟨t, List.mem_of_mem_take h5, h6⟩
  · have hR := h.fl h1
    have e : p = (l1 ++ [Act.fl]) ++ (l2 ++ [Act.fl]).take (p.length - (l1.length + 1)) := by
      rw [List.take_append, List.take_of_length_le (by simp; omega)] at hp
      simpa using hp
    rw [e, lacts_app] at hf
    by_cases c2 : p.length - (l1.length + 1) ≤ l2.length
    · refine .inr (.inl fun b hb => ?_)
      rw [List.take_append_of_le_length c2] at hf
      rcases hR.wr (l := l2.take (p.length - (l1.length + 1))) (fun a ha => h2 a (List.mem_of_mem_take ha)) hf b hb with h5 | ⟨t, h5, h6⟩
      · exact .inl h5
      · exact .inr ⟨t, List.mem_of_mem_take h5, h6⟩
    · refine .inr (.inr ⟨List.length_eq_zero_iff.1 (by omega), fun b hb => ?_⟩)
      rw [List.take_of_length_le (by simp; omega)] at hf
      exact (hR.fl h2).cand hf b hb
def Vw (c : Nat → Bs) (es : List (Int × Bs)) (b : Nat) : Bs := (putAll (fun _ => none) es b).getD (c b)
def GoodC (V f : Nat → Bs) : Prop := ∃ seq tail used es, LogOk f seq tail used es ∧ ∀ b, 11 ≤ b → b < 60 → Vw f es b = V b
theorem LogOk.congrU {c c' : Nat → Bs} {seq tail used : Nat} {es : List (Int × Bs)} (h : LogOk c seq tail used es) (h1 : c' 1 = c 1) (hc : ∀ j, j < used → c' (2 + (tail + j) % 9) = c (2 + (tail + j) % 9)) : LogOk c' seq tail used es := by
  obtain ⟨ps, h2, h3⟩ := h.ps
  have key : ∀ {at' ps}, Rp c tail used at' ps → Rp c' tail used at' ps := fun {at' ps} h => by
    induction h with
    | nil => exact .nil
    | @cons at' sq l ps g1 g2 g3 g4 g5 g6 g7 g8 ih =>
      rw [← ents9_congr (c' := c') l (at' + 1) fun i hi => hc _ (by omega)]
      exact .cons (by rw [hc _ (by omega)]; exact g1) g2 g3 g4 g5 g6 g7 ih
  exact ⟨by rw [h1]; exact h.hdr, h.hs, h.ht, h.hu, ps, key h2, h3⟩
theorem datActs_mem (tail : Nat) : ∀ (ts : List Bs) (u b : Nat) (t : Bs), Act.wr b t ∈ datActs tail u ts → ∃ i, i < ts.length ∧ b = 2 + (tail + (u + i)) % 9
  | [], u, b, t, h => by cases h
  | x :: ts, u, b, t, h => by
    rcases List.mem_cons.1 h with e | h
    · cases e
      exact ⟨0, by simp, rfl⟩
    · obtain ⟨i, h1, h2⟩ := datActs_mem tail ts (u + 1) b t h
      exact ⟨i + 1, by simp; omega, by rw [h2, show u + 1 + i = u + (i + 1) by omega]⟩
theorem datActs_wr (tail : Nat) : ∀ (ts : List Bs) (u : Nat), ∀ a ∈ datActs tail u ts, isWr a
  | [], u, a, h => by cases h
  | x :: ts, u, a, h => by
    rcases List.mem_cons.1 h with rfl | h
    · trivial
    · exact datActs_wr tail ts (u + 1) a h
theorem partActs_mem {seq tail used b : Nat} {ks : List Nat} {ts : List Bs} {t : Bs} (h : Act.wr b t ∈ partActs seq tail used ks ts) : ∃ i, i ≤ ts.length ∧ b = 2 + (tail + (used + i)) % 9 := by
  rcases List.mem_cons.1 h with e | h
  · cases e
    exact ⟨0, Nat.zero_le _, rfl⟩
  · obtain ⟨i, h1, h2⟩ := datActs_mem _ _ _ _ _ h
    exact ⟨i + 1, by omega, by rw [h2, show used + 1 + i = used + (i + 1) by omega]⟩
theorem partActs_wr {seq tail used : Nat} {ks : List Nat} {ts : List Bs} : ∀ a ∈ partActs seq tail used ks ts, isWr a := fun a h => by
  rcases List.mem_cons.1 h with rfl | h
  · trivial
  · exact datActs_wr _ _ _ a h
theorem wrActs_wr {l : List (Int × Bs)} : ∀ a ∈ wrActs l, isWr a := fun a h => by
  obtain ⟨e, _, rfl⟩ := List.mem_map.1 h
  trivial
theorem headActs_eq (ws : List Act) (seq tail used : Nat) : ws ++ headActs seq tail used = ws ++ [Act.fl] ++ ([Act.wr 1 (hdrB seq tail used)] ++ [Act.fl]) := by
  unfold headActs
  rw [List.append_assoc]; rfl
theorem wr1_wr {t : Bs} : ∀ a ∈ [Act.wr 1 t], isWr a := fun a h => by cases List.mem_singleton.1 h; trivial
theorem wr1_mem {b : Nat} {t u : Bs} (h : Act.wr b t ∈ [Act.wr 1 u]) : b = 1 ∧ t = u := by
  have := List.mem_singleton.1 h
  cases this
  exact ⟨rfl, rfl⟩
theorem Vw_app (c : Nat → Bs) (es L : List (Int × Bs)) (b : Nat) : Vw c (es ++ L) b = (putAll (fun _ => none) L b).getD (Vw c es b) := by
  unfold Vw
  rw [← putAll_two]
  have : ∀ (l : List (Int × Bs)) (g : Nat → Option Bs) (x : Bs), (putAll g l b).getD x = (putAll (fun _ => none) l b).getD ((g b).getD x) := fun l => by
    induction l with
    | nil => intro g x; rfl
    | cons e l ih =>
      intro g x
      have e1 : putAll g (e :: l) b = putAll (fun j => if e.1 = (j : Int) then some e.2 else g j) l b := rfl
      have e2 : putAll (fun _ => none) (e :: l) b = putAll (fun j => if e.1 = (j : Int) then some e.2 else none) l b := rfl
      rw [e1, e2, ih, ih (fun j => if e.1 = (j : Int) then some e.2 else none)]
      by_cases h : e.1 = (b : Int)
      · rw [if_pos h, if_pos h]; rfl
      · rw [if_neg h, if_neg h]; rfl
  exact this L _ _
section
variable {L : List Ct} {c : Nat → Bs} {seq tail used : Nat} {es : List (Int × Bs)}
theorem commit_way {K : List (Int × Bs)} {p q : List Act} {f : Nat → Bs} (hR : Rests L c) (h : LogOk c seq tail used es) (hK : soundE K = 0) (h0 : K.length ≠ 0) (hs : seq + 1 < 2 ^ 32) (hf9 : used + 1 + K.length ≤ 9)
    (hpq : partActs seq tail used (K.map fun e => e.1.toNat) (K.map (·.2)) ++ headActs (seq + 1) tail (used + 1 + K.length) = p ++ q) (hf : Cand (lacts L p) f) :
    GoodC (Vw c es) f ∨ GoodC (Vw c (es ++ K)) f := by
  obtain ⟨g1, g2⟩ := cActs_log h hK h0 hs hf9
  have hct : cacts c (partActs seq tail used (K.map fun e => e.1.toNat) (K.map (·.2)) ++ headActs (seq + 1) tail (used + 1 + K.length)) = cset (cacts c (partActs seq tail used (K.map fun e => e.1.toNat) (K.map (·.2)))) 1 (hdrB (seq + 1) tail (used + 1 + K.length)) := by
    rw [cacts_app]; rfl
  rw [hct] at g1 g2
  -- slots of the live log and blocks beyond are not touched by the first wave
  have hwr : ∀ b t, Act.wr b t ∈ partActs seq tail used (K.map fun e => e.1.toNat) (K.map (·.2)) → b ≠ 1 ∧ b < 11 ∧ ∀ j, j < used → b ≠ 2 + (tail + j) % 9 := fun b t hb => by
    obtain ⟨i, h1, h2⟩ := partActs_mem hb
    rw [List.length_map] at h1
    refine ⟨by omega, by omega, fun j hj e => ?_⟩
    exact pos_ne (tail := tail) (show j < used + i by omega) (by omega) (by omega)
  have hcs : ∀ b, (b = 1 ∨ 11 ≤ b ∨ ∃ j, j < used ∧ b = 2 + (tail + j) % 9) → cacts c (partActs seq tail used (K.map fun e => e.1.toNat) (K.map (·.2))) b = c b := fun b hb => by
    have key : ∀ (l : List Act) (c : Nat → Bs), (∀ t, Act.wr b t ∉ l) → cacts c l b = c b := fun l => by
      induction l with
      | nil => intro c _; rfl
      | cons a l ih =>
        intro c hn
        show cacts (cact c a) l b = c b
        rw [ih _ fun t h => hn t (List.mem_cons_of_mem _ h)]
        cases a with
        | wr k t =>
          show (if b = k then t else c b) = c b
          rw [if_neg fun e => hn t (by subst e; exact List.mem_cons_self)]
        | fl => rfl
    refine key _ c fun t ht => ?_
    obtain ⟨h1, h2, h3⟩ := hwr b t ht
    rcases hb with hb | hb | ⟨j, hj, hb⟩
    · exact h1 hb
    · omega
    · exact h3 j hj hb
  rw [headActs_eq] at hpq
  have old : ∀ f : Nat → Bs, (∀ b, (b = 1 ∨ (11 ≤ b ∧ b < 60) ∨ ∃ j, j < used ∧ b = 2 + (tail + j) % 9) → f b = c b) → GoodC (Vw c es) f := fun f hfc =>
    ⟨seq, tail, used, es, h.congrU (hfc 1 (.inl rfl)) fun j hj => hfc _ (.inr (.inr ⟨j, hj, rfl⟩)), fun b h1 h2 => by unfold Vw; rw [hfc b (.inr (.inl ⟨h1, h2⟩))]⟩
  have new : ∀ f : Nat → Bs, (∀ b, b < 60 → f b = cset (cacts c (partActs seq tail used (K.map fun e => e.1.toNat) (K.map (·.2)))) 1 (hdrB (seq + 1) tail (used + 1 + K.length)) b) → GoodC (Vw c (es ++ K)) f := fun f hfc =>
    ⟨seq + 1, tail, used + 1 + K.length, es ++ K, g1.congr fun j hj => hfc j (by omega), fun b h1 h2 => by unfold Vw; rw [hfc b h2, g2 b h1]⟩
  rcases waves hR partActs_wr wr1_wr hpq hf with hw | hw | ⟨_, hw⟩
  · refine .inl (old f fun b hb => ?_)
    have hb60 : b < 60 := by
      rcases hb with hb | hb | ⟨j, hj, hb⟩ <;> omega
    rcases hw b hb60 with e | ⟨t, ht, e⟩
    · exact e
    · obtain ⟨h1, h2, h3⟩ := hwr b t ht
      rcases hb with hb | hb | ⟨j, hj, hb⟩
      · exact absurd hb h1
      · omega
      · exact absurd hb (h3 j hj)
  · rcases hw 1 (by omega) with e1 | ⟨t, ht, e1⟩
    · refine .inl (old f fun b hb => ?_)
      have hb60 : b < 60 := by
        rcases hb with hb | hb | ⟨j, hj, hb⟩ <;> omega
      rcases hw b hb60 with e | ⟨t, ht, e⟩
      · rw [e]
        exact hcs b (by rcases hb with hb | hb | hb <;> simp [hb])
      · obtain ⟨rfl, rfl⟩ := wr1_mem ht
        rw [e1]
        exact hcs 1 (.inl rfl)
    · refine .inr (new f fun b hb => ?_)
      obtain ⟨_, rfl⟩ := wr1_mem ht
      unfold cset
      by_cases h1 : b = 1
      · subst h1
        rw [if_pos rfl, e1]
      · rw [if_neg h1]
        rcases hw b hb with e | ⟨t, ht, e⟩
        · exact e
        · exact absurd (wr1_mem ht).1 h1
  · refine .inr (new f fun b hb => ?_)
    rw [hw b hb]; rfl
theorem apply_way {P : List Pe} {p q : List Act} {f : Nat → Bs} (hR : Rests L c) (h : LogOk c seq tail used es) (hP : ∀ k, pbs P k = putAll (fun _ => none) es k) (hhome : ∀ k t, pbs P k = some t → 11 ≤ k) (hpq : applyActs P seq tail used = p ++ q) (hf : Cand (lacts L p) f) : GoodC (Vw c es) f := by
  have hwr : ∀ b t, Act.wr b t ∈ wrActs (plist P) → pbs P b = some t := fun b t hb => by
    obtain ⟨e, he, h2⟩ := List.mem_map.1 hb
    obtain ⟨x, hx, rfl⟩ := plist_nat he
    cases h2
    unfold pbs
    have hx' : pget P x.1 = some x := by simpa using hx
    show (pget P ((x.1 : Nat) : Int).toNat).map _ = _
    rw [show ((x.1 : Nat) : Int).toNat = x.1 by simp, hx']; rfl
  have hc1 : ∀ b, cacts c (wrActs (plist P)) b = (pbs P b).getD (c b) := fun b => by
    rw [wrActs_ct _ _ _ fun e he => by obtain ⟨x, _, rfl⟩ := plist_nat he; exact Int.natCast_nonneg _]
    exact putAll_plist P c b
  have hlow : ∀ b, b < 11 → pbs P b = none := fun b hb => by
    cases hp : pbs P b with
    | none => rfl
    | some t => have := hhome b t hp; omega
  have hpq : wrActs (plist P) ++ [Act.fl] ++ ([Act.wr 1 (hdrB seq ((tail + used) % 9) 0)] ++ [Act.fl]) = p ++ q := by
    rw [← headActs_eq]; exact hpq
  have hV : ∀ b, Vw c es b = (pbs P b).getD (c b) := fun b => by unfold Vw; rw [hP]
  have old : ∀ f : Nat → Bs, (∀ b, b < 60 → f b = c b ∨ pbs P b = some (f b)) → GoodC (Vw c es) f := fun f hfc => by
    have hl : ∀ b, b < 11 → f b = c b := fun b hb => by
      rcases hfc b (by omega) with e | e
      · exact e
      · rw [hlow b hb] at e; cases e
    refine ⟨seq, tail, used, es, h.congr fun j hj => hl j hj, fun b h1 h2 => ?_⟩
    rw [hV]
    unfold Vw
    rw [← hP]
    cases hp : pbs P b with
    | some t => rfl
    | none =>
      rcases hfc b h2 with e | e
      · rw [e]
      · rw [hp] at e; cases e
  have new : ∀ f : Nat → Bs, (∀ b, b < 60 → f b = if b = 1 then hdrB seq ((tail + used) % 9) 0 else (pbs P b).getD (c b)) → GoodC (Vw c es) f := fun f hfc => by
    refine ⟨seq, (tail + used) % 9, 0, [], LogOk.zero (by rw [hfc 1 (by omega)]; rfl) h.hs (Nat.mod_lt _ (by omega)), fun b h1 h2 => ?_⟩
    rw [hV]
    show f b = _
    rw [hfc b h2, if_neg (by omega)]
  rcases waves hR wrActs_wr wr1_wr hpq hf with hw | hw | ⟨_, hw⟩
  · refine old f fun b hb => ?_
    rcases hw b hb with e | ⟨t, ht, e⟩
    · exact .inl e
    · exact .inr (by rw [e]; exact hwr b t ht)
  · rcases hw 1 (by omega) with e1 | ⟨t, ht, e1⟩
    · refine old f fun b hb => ?_
      have hfb : f b = (pbs P b).getD (c b) := by
        rcases hw b hb with e | ⟨t, ht, e⟩
        · rw [e, hc1]
        · obtain ⟨rfl, rfl⟩ := wr1_mem ht
          rw [e1, hc1]
      cases hp : pbs P b with
      | some t => exact .inr (by rw [hfb, hp]; rfl)
      | none => exact .inl (by rw [hfb, hp]; rfl)
    · refine new f fun b hb => ?_
      obtain ⟨_, rfl⟩ := wr1_mem ht
      by_cases h1 : b = 1
      · subst h1
        rw [if_pos rfl, e1]
      · rw [if_neg h1]
        rcases hw b hb with e | ⟨t, ht, e⟩
        · rw [e, hc1]
        · exact absurd (wr1_mem ht).1 h1
  · refine new f fun b hb => ?_
    rw [hw b hb]
    show (if b = 1 then hdrB seq ((tail + used) % 9) 0 else cacts c (wrActs (plist P)) b) = _
    rw [hc1]
end
structure PkAt (m : M) (x : AV) (zs : List Int) : Prop where
  len : lenK false x = some zs.length
  row : zs ≠ [] → ∃ b off cap cells, x = .slice b off zs.length cap true ∧ zs.length ≤ cap ∧ kd m b roK ∧ AtR m b cells ∧ ∀ i (h : i < zs.length), cells[off + i]? = some (iv zs[i])
theorem PkAt.kp {m m' : M} {x : AV} {zs : List Int} {E S : List Nat} (h : PkAt m x zs) (hw : Wf m) (hk : KeepK m m' E S) (hR : roK ∉ E := by decide) : PkAt m' x zs := by
  refine ⟨h.len, fun hn => ?_⟩
  obtain ⟨b, off, cap, cells, h1, h2, h3, h5, h4⟩ := h.row hn
  have hg := hk.get b (h3.lt hw) (Kinds.not h3 hR (by decide))
  exact ⟨b, off, cap, cells, h1, h2, h3.of_get hg, h5.of_get hg, h4⟩
theorem PkAt.drop {m : M} {x : AV} {z : Int} {r : List Int} (h : PkAt m x (z :: r)) : ∃ y, (∀ m', rSl 1 false (.cst x) (some (.cst (iv 1))) none none .leaf m' = some (y, m')) ∧ PkAt m y r := by
  obtain ⟨b, off, cap, cells, rfl, h2, h3, h5, h4⟩ := h.row (by simp)
  rw [List.length_cons] at h2
  have e0 : ∀ m', rSl 1 false (.cst (.slice b off (z :: r).length cap true)) (some (.cst (iv ((1 : Nat) : Int)))) none none .leaf m' =
      bc (Nat.beq cap 1 && !Nat.beq 1 0) (slEnd m' b off (1 * 1) true) (some (.slice b (off + 1) ((z :: r).length - 1) (cap - 1) true, m')) := by
    intro m'
    rw [rSl_eq, evo_none, bnd_none, ob_some', evo_some, ev_cst, bnd_iv (show 1 ≤ (z :: r).length by simp), ob_some', nble, decide_eq_true (by simpa using h2)]
    simp only [bc_true, fc_eq, Bool.or_false]
    rfl
  by_cases hc : cap = 1
  · subst hc
    have hr : r = [] := List.length_eq_zero_iff.1 (by omega)
    subst hr
    exact ⟨.slice b off 0 0 true, fun m' => by have := e0 m'; exact this, ⟨rfl, fun h => absurd rfl h⟩⟩
  · refine ⟨.slice b (off + 1) r.length (cap - 1) true, fun m' => ?_, ⟨rfl, fun hn => ⟨b, off + 1, cap - 1, cells, rfl, by omega, h3, h5, fun i hi => ?_⟩⟩⟩
    · have := e0 m'
      rw [nbeq, decide_eq_false hc] at this
      exact this
    · have := h4 (i + 1) (by simpa using hi)
      rw [show off + 1 + i = off + (i + 1) by omega]
      simpa using this
theorem Cw.arr_mem (c : Cw) {j : Nat} (hj : j ≤ c.wl.length) : (c.arr j).2.1 = c.al ∨ (c.arr j).2.1 ∈ c.wl.map (·.2.1) := by
  unfold Cw.arr
  by_cases h0 : j = 0
  · rw [if_pos h0]; exact .inl rfl
  · rw [if_neg h0]
    have : c.wl[j - 1]? = some (c.wl[j - 1]'(by omega)) := List.getElem?_eq_getElem (by omega)
    rw [this]
    exact .inr (List.mem_map_of_mem (f := fun e : AV × Bs × Nat => e.2.1) (List.getElem_mem (by omega)))
section
variable {m : M} {d cb : Nat} {D : Dv}
set_option maxHeartbeats 2000000 in
theorem dcrashP {x : AV} {zs : List Int} (hw : Wf m) (h : DvAt m d cb D) (hL : D.L.length ≤ 1000000) (hl : ∀ c ∈ D.L, c.wl.length ≤ 1000000) (hx : PkAt m x zs) {Q : AV → M → Prop}
    (hQ : ∀ m' L', L'.length = D.L.length → (∀ (i : Nat) (c : Cw), D.L[i]? = some c → ∃ j, j ≤ c.wl.length ∧ ((c.wl = [] ∧ L'[i]? = some c) ∨ L'[i]? = some (c.settle j))) → DvAt m' d cb { D with L := L', fused := false, dead := false } → KeepK m m' devK → Q (iv 0) m') : WpF Tryz.prog tb fn_b5 [.ptr d 0, x] m Q := by
  refine WpF.go at_b5 ?_
  simp -implicitDefEqProofs only [o_b5, r_b5_0, r_b5_1, r_b5_3, b_np24, h.dev.rd, ↓reduceIte, Nat.reduceEqDiff, Nat.reduceAdd, wA, wB, wC, wD]
  refine GX_loop (fun j fr mk => ∃ k L' y rs, k ≤ D.L.length ∧ j = D.L.length - k ∧ (ev (tm 0) fr = .ptr d 0 ∧ ev (tm 1) fr = y ∧ ev (tm 14) fr = iv (D.L.length : Nat) ∧ ev (tm 15) fr = iv (k : Nat)) ∧ PkAt mk y rs ∧ L'.length = D.L.length ∧ (∀ i, k ≤ i → L'[i]? = D.L[i]?) ∧ (∀ (i : Nat) (c : Cw), i < k → D.L[i]? = some c → ∃ j, j ≤ c.wl.length ∧ ((c.wl = [] ∧ L'[i]? = some c) ∨ L'[i]? = some (c.settle j))) ∧ DvAt mk d cb { D with L := L' } ∧ KeepK m mk devK) (k := D.L.length) ?_ ?_
  · exact ⟨0, D.L, x, zs, Nat.zero_le _, rfl, by simp -implicitDefEqProofs only [nc0, ev_tm, ↓reduceIte, Nat.reduceEqDiff, nc0, and_self], hx, rfl, fun i _ => rfl, fun i c hi => by omega, h, Keep.refl hw _⟩
  rintro j fr mk ⟨k, L', y, rs, hk, rfl, ⟨e0, e1, e14, e15⟩, hy, hlen, hLa, hLb, hdk, kk⟩
  have hwk := kk.wf
  by_cases hlt : k < D.L.length
  · have hck : D.L[k]? = some D.L[k] := List.getElem?_eq_getElem hlt
    generalize D.L[k] = c at hck
    have hck' : L'[k]? = some c := by rw [hLa k (Nat.le_refl _), hck]
    have hcl := hl c (List.mem_of_getElem? hck)
    have q1 := (hdk.cell hck').2
    have hsl := (hdk.ok c (List.mem_of_getElem? hck')).sl
    by_cases hwl : c.wl = []
    · have hz : c.wl.length = 0 := by rw [hwl]; rfl
      simp -implicitDefEqProofs only [o_b5, r_b5_4, r_b5_5, r_b5_6, r_b5_7, r_b5_13, e0, e14, e15, show ((k : Int) < (D.L.length : Int)) = True from eq_true (by omega), hdk.dev.rd, v_iaS 2 cb 0 L'.length L'.length false (show k < L'.length by omega), q1, hsl.len, hz, b_add ty_int (show -9223372036854775808 ≤ (k : Int) + 1 by omega) (show (k : Int) + 1 ≤ 9223372036854775807 by omega), ↓reduceIte, Nat.reduceEqDiff, wA, wB, wC, wD]
      refine LK_n (k' := D.L.length - (k + 1)) (by omega) ⟨k + 1, L', y, rs, by omega, rfl, by simp -implicitDefEqProofs only [e0, e1, e14, show (k : Int) + 1 = ((k + 1 : Nat) : Int) from rfl, ev_tm, ↓reduceIte, Nat.reduceEqDiff, and_self], hy, hlen, fun i hi => hLa i (by omega), fun i c' hi hc' => ?_, hdk, kk⟩
      by_cases hik : i < k
      · exact hLb i c' hik hc'
      · have : i = k := by omega
        subst this
        rw [hck] at hc'
        cases hc'
        exact ⟨0, Nat.zero_le _, .inl ⟨hwl, hck'⟩⟩
    · have hz : ¬ ((c.wl.length : Int) = 0) := by
        have := List.length_pos_iff.2 hwl
        omega
      have hnext : ∀ j, j ≤ c.wl.length → (∀ i, k + 1 ≤ i → (L'.set k (c.settle j))[i]? = D.L[i]?) ∧ (∀ i c', i < k + 1 → D.L[i]? = some c' → ∃ j', j' ≤ c'.wl.length ∧ ((c'.wl = [] ∧ (L'.set k (c.settle j))[i]? = some c') ∨ (L'.set k (c.settle j))[i]? = some (c'.settle j'))) := fun j hj => by
        refine ⟨fun i hi => by rw [List.getElem?_set, if_neg (by omega)]; exact hLa i (by omega), fun i c' hi hc' => ?_⟩
        by_cases hik : k = i
        · subst hik
          rw [hck] at hc'
          cases hc'
          exact ⟨j, hj, .inr (by rw [List.getElem?_set, if_pos rfl, if_pos (by omega)])⟩
        · rw [List.getElem?_set, if_neg hik]
          exact hLb i c' (by omega) hc'
      cases rs with
      | nil =>
        have hyl : lenK false y = some 0 := hy.len
        obtain ⟨m2, h2, k2, r2⟩ := settle_ran hwk hdk hck' (j := 0) (Nat.zero_le _) hcl
        have r2' : Ran Tryz.prog tb fn_a3 [.ptr cb (k * 2), iv 0] mk (.tuple []) m2 := r2
        obtain ⟨g1, g2⟩ := hnext 0 (Nat.zero_le _)
        simp -implicitDefEqProofs only [o_b5, r_b5_4, r_b5_5, r_b5_6, r_b5_7, r_b5_8, r_b5_9, r_b5_12, r_b5_13, e0, e1, e14, e15, show ((k : Int) < (D.L.length : Int)) = True from eq_true (by omega), hdk.dev.rd, v_iaS 2 cb 0 L'.length L'.length false (show k < L'.length by omega), q1, hsl.len, eq_false hz, hyl, r2'.eq, b_add ty_int (show -9223372036854775808 ≤ (k : Int) + 1 by omega) (show (k : Int) + 1 ≤ 9223372036854775807 by omega), ↓reduceIte, Nat.reduceEqDiff, wA, wB, wC, wD]
        exact LK_n (k' := D.L.length - (k + 1)) (by omega) ⟨k + 1, L'.set k (c.settle 0), y, [], by omega, rfl, by simp -implicitDefEqProofs only [e0, e1, e14, show (k : Int) + 1 = ((k + 1 : Nat) : Int) from rfl, ev_tm, ↓reduceIte, Nat.reduceEqDiff, and_self], hy.kp hwk k2, by rw [List.length_set]; exact hlen, g1, g2, h2, kk.tk k2⟩
      | cons z r =>
        obtain ⟨yb, yo, yc, ycs, rfl, hyc, hyk, hya, hyr⟩ := hy.row (by simp)
        have hyl : lenK false (.slice yb yo (z :: r).length yc true) = some (z :: r).length := hy.len
        have hr0 : mk.rd yb yo = some (iv z) := by rw [hya.rd]; exact hyr 0 (by simp)
        have hi0 : rIaS 1 (.cst (.slice yb yo (z :: r).length yc true)) (.cst (iv 0)) .leaf mk = some (.ptr yb yo, mk) := v_iaS (m := mk) 1 yb yo (z :: r).length yc true (k := 0) (by simp)
        obtain ⟨y2, hd, hy2⟩ := hy.drop
        obtain ⟨jn, hj, hjl⟩ : ∃ jn : Nat, max 0 (min z (c.wl.length : Int)) = (jn : Int) ∧ jn ≤ c.wl.length := ⟨(max 0 (min z (c.wl.length : Int))).toNat, by omega, by omega⟩
        obtain ⟨m2, h2, k2, r2⟩ := settle_ran hwk hdk hck' (j := jn) hjl hcl
        have r2' : Ran Tryz.prog tb fn_a3 [.ptr cb (k * 2), iv (jn : Int)] mk (.tuple []) m2 := r2
        obtain ⟨g1, g2⟩ := hnext jn hjl
        clear hyr hyc hy
        generalize hzl : (z :: r).length = zl at e1 hyl hi0 hd
        have hzp : (0 : Int) < (zl : Int) := by rw [← hzl]; simp
        simp -implicitDefEqProofs only [o_b5, r_b5_4, r_b5_5, r_b5_6, r_b5_7, r_b5_8, r_b5_9, r_b5_10, r_b5_11, r_b5_12, r_b5_13, e0, e1, e14, e15, show ((k : Int) < (D.L.length : Int)) = True from eq_true (by omega), hdk.dev.rd, v_iaS 2 cb 0 L'.length L'.length false (show k < L'.length by omega), q1, hsl.len, eq_false hz, hyl, eq_true hzp, hi0, hr0, hj, hd, len_aq hsl.len, r2'.eq, b_add ty_int (show -9223372036854775808 ≤ (k : Int) + 1 by omega) (show (k : Int) + 1 ≤ 9223372036854775807 by omega), ↓reduceIte, Nat.reduceEqDiff, exists_eq_left', wA, wB, wC, wD]
        exact LK_n (k' := D.L.length - (k + 1)) (by omega) ⟨k + 1, L'.set k (c.settle jn), y2, r, by omega, rfl, by simp -implicitDefEqProofs only [e0, e14, show (k : Int) + 1 = ((k + 1 : Nat) : Int) from rfl, ev_tm, ↓reduceIte, Nat.reduceEqDiff, and_self], hy2.kp hwk k2, by rw [List.length_set]; exact hlen, g1, g2, h2, kk.tk k2⟩
  · have hke : k = D.L.length := by omega
    subst hke
    obtain ⟨m2, e2, h2, k2, n2⟩ := hdk.dev.st hwk 4 [.b false]
    obtain ⟨m3, e3, h3, k3, n3⟩ := h2.st k2.wf 2 [.b false]
    have k23 : Keep mk m3 fun x => x = d := k2.trans k3 fun _ _ h => h
    have kd := k23.k1 (E := [ty_device_Device + 1]) (S := []) hdk.dev.kd
    simp -implicitDefEqProofs only [o_b5, r_b5_4, r_b5_14, r_b5_15, e0, e14, e15, e2, e3, ↓reduceIte, Nat.reduceEqDiff, wA, wB, wC, wD]
    refine hQ m3 L' hlen (fun i c hc => hLb i c (List.getElem?_eq_some_iff.1 hc).1 hc) ⟨h3, hdk.row.kp hwk kd, fun c hc => (hdk.ok c hc).keep hwk k23 (fun b hb e => ?_) (fun b hb e => (hdk.nd hc hb).1 e), hdk.wd⟩ (kk.tk kd)
    subst e; exact absurd (hb.inj hdk.dev.kd) (by decide)
end
section
variable {m : M} {d cb n w : Nat} {S : Ds}
theorem ds_crash {x : AV} {zs : List Int} (hw : Wf m) (h : DsAt m d cb S) (hB : S.Bd n w) (hw4 : w ≤ 1000) (hx : PkAt m x zs) {Q : AV → M → Prop}
    (hQ : ∀ m' S' f, DsAt m' d cb S' → S'.Lv → Cand S.L f → Rests S'.L f → S'.Bd n 0 → KeepK m m' devK → Q (iv 0) m') : WpF Tryz.prog tb fn_b5 [.ptr d 0, x] m Q := by
  obtain ⟨D, hD, rfl⟩ := h
  have h60 : D.L.length = 60 := by have := hB.len; simpa [Dv.ds] using this
  have hwl : ∀ c ∈ D.L, c.wl.length ≤ w := fun c hc => by
    have := hB.wt c.cs (List.mem_map_of_mem hc)
    simpa [Cw.cs] using this
  refine dcrashP hw hD (by omega) (fun c hc => by have := hwl c hc; omega) hx fun m' L' hl hc h1 k1 => ?_
  let f : Nat → Bs := fun b => ((L'[b]?).map fun c => c.al).getD []
  have key : ∀ b (c : Cw), D.L[b]? = some c → ∃ c' : Cw, L'[b]? = some c' ∧ c'.wl = [] ∧ (c'.al = c.al ∨ c'.al ∈ c.wl.map (·.2.1)) := fun b c hcb => by
    obtain ⟨j, hj, ⟨h2, h3⟩ | h3⟩ := hc b c hcb
    · exact ⟨c, h3, h2, .inl rfl⟩
    · exact ⟨c.settle j, h3, rfl, c.arr_mem hj⟩
  have hcand : Cand D.ds.L f := fun b hb => by
    have hx : D.L[b]? = some (D.L[b]'(by omega)) := List.getElem?_eq_getElem (by omega)
    generalize D.L[b]'(by omega) = c at hx
    obtain ⟨c', h2, h3, h4⟩ := key b c hx
    refine ⟨c.cs, by show (D.L.map Cw.cs)[b]? = _; rw [List.getElem?_map, hx]; rfl, ?_⟩
    have : f b = c'.al := by show ((L'[b]?).map fun c => c.al).getD [] = _; rw [h2]; rfl
    rw [this]
    exact h4
  have hrest : Rests (L'.map Cw.cs) f := by
    refine ⟨by rw [List.length_map]; omega, fun b hb => ?_⟩
    have hx : D.L[b]? = some (D.L[b]'(by omega)) := List.getElem?_eq_getElem (by omega)
    obtain ⟨c', h2, h3, h4⟩ := key b _ hx
    have : f b = c'.al := by show ((L'[b]?).map fun c => c.al).getD [] = _; rw [h2]; rfl
    rw [this, List.getElem?_map, h2]
    show some (c'.al, c'.wl.map _) = _
    rw [h3]; rfl
  have h64 : ∀ b, b < 60 → (f b).length = 64 := fun b hb => by
    obtain ⟨c, h2, h3⟩ := hcand b hb
    have hm := List.mem_of_getElem? h2
    rcases h3 with h3 | h3
    · rw [h3]; exact hB.b1 c hm
    · exact hB.b2 c hm _ h3
  have hel : ∀ c ∈ L'.map Cw.cs, ∃ b, b < 60 ∧ c = (f b, []) := fun c hc => by
    obtain ⟨b, hb, rfl⟩ := List.mem_iff_getElem.1 hc
    have hb60 : b < 60 := by rw [List.length_map] at hb; omega
    have := hrest.at' b hb60
    rw [List.getElem?_eq_getElem hb] at this
    exact ⟨b, hb60, Option.some.inj this⟩
  refine hQ m' ⟨L'.map Cw.cs, false, false, D.fuse, D.writes⟩ f ⟨_, h1, rfl⟩ ⟨rfl, rfl⟩ hcand hrest ⟨hrest.len, hB.f1, hB.f2, hB.w1, hB.w2, fun c hc => ?_, fun c hc => ?_, fun c hc => ?_⟩ k1
  · obtain ⟨b, _, rfl⟩ := hel c hc; exact Nat.le_refl 0
  · obtain ⟨b, hb, rfl⟩ := hel c hc; exact h64 b hb
  · obtain ⟨b, hb, rfl⟩ := hel c hc; intro t ht; cases ht
theorem ds_fuse {z : Int} (hw : Wf m) (h : DsAt m d cb S) (hB : S.Bd n w) (hd : S.dead = false) (hz0 : 0 ≤ z) (hz : z ≤ 9223372036854775807) :
    ∃ m', DsAt m' d cb { S with fused := true, fuse := z } ∧ KeepK m m' devK ∧ Ran Tryz.prog tb fn_b8 [.ptr d 0, iv z] m (iv 0) m' := by
  obtain ⟨D, hD, rfl⟩ := h
  have hdd : D.dead = false := hd
  obtain ⟨m2, e2, h2, k2, n2⟩ := hD.dev.st hw 2 [.b true]
  obtain ⟨m3, e3, h3, k3, n3⟩ := h2.st k2.wf 3 [iv z]
  have k23 : Keep m m3 fun x => x = d := k2.trans k3 fun _ _ h => h
  have kd := k23.k1 (E := [ty_device_Device + 1]) (S := []) hD.dev.kd
  have f0 : binS Tryz.prog .eql ty_pdevice_Device (.ptr d 0) nilp = some (.b false) := by kernel_rfl
  refine ⟨m3, ⟨{ D with fused := true, fuse := z }, ⟨h3, hD.row.kp hw kd, fun c hc => (hD.ok c hc).keep hw k23 (fun b hb e => ?_) (fun b hb e => (hD.nd hc hb).1 e), hD.wd⟩, rfl⟩, kd.sub, ?_⟩
  · subst e; exact absurd (hb.inj hD.dev.kd) (by decide)
  · refine WpF.go at_b8 ?_
    simp -implicitDefEqProofs only [o_b8, r_b8_0, r_b8_1, r_b8_3, r_b8_5, r_b8_6, f0, show (z < 0) = False from eq_false (by omega), hD.dev.rd, hdd, e2, e3, ↓reduceIte, Nat.reduceEqDiff, Nat.reduceAdd, wA, wB, wC, wD]
theorem dead_ran (h : DsAt m d cb S) : Ran Tryz.prog tb fn_b6 [.ptr d 0] m (.b S.dead) m := by
  obtain ⟨D, hD, rfl⟩ := h
  have f0 : binS Tryz.prog .neq ty_pdevice_Device (.ptr d 0) nilp = some (.b true) := by kernel_rfl
  refine WpF.go at_b6 ?_
  simp -implicitDefEqProofs only [o_b6, r_b6_0, r_b6_1, f0, hD.dev.rd, ↓reduceIte, Nat.reduceEqDiff, wA, wB, wC, wD]
  rfl
end
end Go.Proofs.YthbfinjddaembaaGreat
