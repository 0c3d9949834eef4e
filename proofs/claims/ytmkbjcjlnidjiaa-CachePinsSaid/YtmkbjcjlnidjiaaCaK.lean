import Derived.Test.YtmkbjcjlnidjiaaCaJ
set_option linter.unusedVariables false
set_option linter.unusedVariables false
/- What holds of the cache between the law's calls. -/
namespace Go.Proofs.Ytmkbjcjlnidjiaa
open Go Go.Am
theorem b_and7 (z : Int) : ∃ k : Nat, k < 8 ∧ binS Try.prog .and ty_int (iv z) (iv 7) = some (iv (k : Int)) := by
  rw [binS_iv]
  have e : intAll .and .i64 z .i64 7 = some (ofI .i64 (IntKind.i64.wrap ((BitVec.ofInt 64 z &&& BitVec.ofInt 64 7).toNat : Int))) := rfl
  have hk : (BitVec.ofInt 64 z &&& BitVec.ofInt 64 7).toNat ≤ 7 := by
    rw [BitVec.toNat_and]
    exact Nat.and_le_right
  generalize (BitVec.ofInt 64 z &&& BitVec.ofInt 64 7).toNat = k at e hk
  refine ⟨k, by omega, ?_⟩
  rw [e, IntWalk.i64_in _ (by omega)]
  rfl
theorem sub_len : ∀ (A B : List Nat), A.Nodup → (∀ a ∈ A, a ∈ B) → A.length ≤ B.length
  | [], B, _, _ => Nat.zero_le _
  | a :: A, B, hn, hs => by
    rw [List.nodup_cons] at hn
    have ha : a ∈ B := hs a (List.mem_cons_self ..)
    have := sub_len A (B.erase a) hn.2 fun x hx => by
      have hxa : x ≠ a := fun e => hn.1 (e ▸ hx)
      exact (List.mem_erase_of_ne hxa).2 (hs x (List.mem_cons_of_mem _ hx))
    rw [List.length_erase_of_mem ha] at this
    have hB : 0 < B.length := List.length_pos_of_mem ha
    show A.length + 1 ≤ _
    omega
theorem rm_len {ls : List Ln} {v : Ln} (h : v ∈ ls) : (rm ls v.b).length < ls.length := by
  unfold rm
  refine List.length_filter_lt_length_iff_exists.2 ⟨v, h, ?_⟩
  simp
theorem fl_app {ls : List Ln} {k : Nat} {n : Ln} (h : fl ls k = none) (hn : n.b = k) : fl (ls ++ [n]) k = some n := by
  have h' : List.find? (fun l : Ln => decide (l.b = k)) ls = none := h
  unfold fl
  rw [List.find?_append, h']
  simp [hn]
theorem Sk_head {ls : List Ln} {l : Ln} (h : fl ls 0 = some l) : (Sk (al ls))[0]? = some 0 := by
  obtain ⟨hlm, hlb⟩ := fl_some h
  have h0 : (0 : Int) ∈ Sk (al ls) := mem_Sk.2 ⟨(l.b, .ptr l.p 0), List.mem_map_of_mem hlm, by rw [hlb]; rfl⟩
  have ho : (Sk (al ls)).Pairwise (· ≤ ·) := isort_ord _
  cases hs : Sk (al ls) with
  | nil => rw [hs] at h0; cases h0
  | cons z t =>
    have hz : z ∈ Sk (al ls) := by rw [hs]; exact List.mem_cons_self ..
    obtain ⟨e, _, he⟩ := mem_Sk.1 hz
    rw [hs] at h0 ho
    rw [List.pairwise_cons] at ho
    have : z = 0 := by
      rcases List.mem_cons.1 h0 with h | h
      · exact h.symm
      · have := ho.1 0 h
        omega
    rw [this]; rfl
structure Ok (m : M) (c d cb cap mb : Nat) (L : List Cw) (ls : List Ln) (y : AV) (zs : List Int) (o : Option Nat) (pn : Nat → Nat) : Prop where
  wf : Wf m
  ca : ∃ pv ps po, CaAt m c d cap mb pv ps po ls
  dev : DevAt m d cb L false false 0 0
  l8 : L.length = 8
  fr : Fresh L
  sep : ∀ b, dOwn d cb L b → b ≠ c ∧ b ≠ mb ∧ ∀ l ∈ ls, l.p ≠ b
  ly : RsAt m y (zs.map iv) o
  sepy : ∀ b, o = some b → b ≠ c ∧ b ≠ mb ∧ ∀ l ∈ ls, l.p ≠ b
  len : ls.length ≤ cap
  cap1 : 1 ≤ cap
  cap2 : cap ≤ 1000
  each : ∀ l ∈ ls, l.b < 8 ∧ l.dl.length = 64 ∧ l.pins = pn l.b ∧ (l.pins = 0 → l.dirty = false)
section
variable {m : M} {c d cb cap mb : Nat} {ls : List Ln} {L : List Cw} {y : AV} {zs : List Int} {o : Option Nat} {pn : Nat → Nat}
theorem Ok.keep0 (h : Ok m c d cb cap mb L ls y zs o pn) {m' : M} (k : Keep m m' fun _ => False) : Ok m' c d cb cap mb L ls y zs o pn := by
  obtain ⟨pv, ps, po, hc⟩ := h.ca
  exact ⟨k.wf, ⟨pv, ps, po, hc.keep0 h.wf k⟩, h.dev.keep h.wf k fun _ _ h => h, h.l8, h.fr, h.sep, h.ly.keep h.wf k (fun _ _ h => h), h.sepy, h.len, h.cap1, h.cap2, h.each⟩
theorem Ok.cell (h : Ok m c d cb cap mb L ls y zs o pn) {k : Nat} (hk : k < 8) : ∃ C, L[k]? = some C ∧ C.wl.length ≤ 1000000 ∧ C.last.2.1 = Z64 := by
  have hl : L[k]? = some (L[k]'(by rw [h.l8]; exact hk)) := List.getElem?_eq_getElem _
  obtain ⟨h1, h2⟩ := h.fr _ (List.mem_of_getElem? hl)
  refine ⟨_, hl, by rw [h2]; simp, ?_⟩
  unfold Cw.last
  rw [h2]
  exact h1
theorem Ok.lb (h : Ok m c d cb cap mb L ls y zs o pn) : ls.length ≤ 1000000 ∧ (∀ l ∈ ls, l.b ≤ 1000000) ∧ (∀ l ∈ ls, l.pins = 0 → l.dirty = false) ∧ ∀ l ∈ ls, l.dl ≠ [] ∧ l.dl.length ≤ 1000000 := by
  refine ⟨by have := h.len; have := h.cap2; omega, fun l hl => by have := (h.each l hl).1; omega, fun l hl => (h.each l hl).2.2.2, fun l hl => ⟨fun e => ?_, by have := (h.each l hl).2.1; omega⟩⟩
  have := (h.each l hl).2.1
  rw [e] at this
  cases this
theorem get_ok (h : Ok m c d cb cap mb L ls y zs o pn) {k : Nat} (hk : k < 8) (hpk : fl ls k = none → pn k = 0) {Q : AV → M → Prop}
    (hQ1 : ∀ m' s t b ls' l, BsAt m' s t b → Ok m' c d cb cap mb L ls' y zs o pn → fl ls' k = some l → l.dl = t → (∀ l0 ∈ ls, 0 < l0.pins → fl ls' l0.b = some l0) → (fl ls k = none ∨ ls' = ls) → Q (.tuple [s, iv 0]) m')
    (hQ2 : fl ls k = none → ls.length = cap → (∀ l ∈ ls, 0 < l.pins) → ∀ m', Ok m' c d cb cap mb L ls y zs o pn → Q (.tuple [nils, iv 8]) m') : WpF Try.prog tb fn_Ca_Get [.ptr c 0, iv k] m Q := by
  obtain ⟨pv, ps, po, hc⟩ := h.ca
  obtain ⟨C, hC, hC1, hC2⟩ := h.cell hk
  obtain ⟨g1, g2, g3, g4⟩ := h.lb
  have hz : Z64.length = 64 := by simp [Z64]
  refine get_spec h.wf hc h.dev (fun b hb => ⟨(h.sep b hb).1, (h.sep b hb).2.1⟩) h.cap1 g1 g2 g3 hC hC1 (by rw [hC2]; intro e; rw [e] at hz; cases hz) (by rw [hC2, hz]; omega) g4 (fun l hf m1 s b hb hk1 => ?_) (fun hf hlt hall m1 hk1 => ?_) (fun hf m1 ls0 n pv' zs' s b hls hnb hnp hnd hndl hnpn hndn h1 hk1 hb => ?_)
  · exact hQ1 m1 s _ b ls l hb (h.keep0 hk1) hf rfl (fun l0 hl0 _ => fl_mem hc.nb hl0) (.inr rfl)
  · exact hQ2 hf (by have := h.len; omega) hall m1 (h.keep0 hk1)
  · have hsub : ∀ l ∈ ls0, l ∈ ls := by
      intro l hl
      rcases hls with ⟨_, rfl⟩ | ⟨_, v, _, _, rfl⟩
      · exact hl
      · exact (rm_mem hl).1
    have hf0 : fl ls0 k = none := by
      rcases hls with ⟨_, rfl⟩ | ⟨_, v, _, _, rfl⟩
      · exact hf
      · exact rm_none hf
    have hmem : ∀ l ∈ ls0 ++ [n], l ∈ ls ∨ l = n := by
      intro l hl
      rcases List.mem_append.1 hl with hl | hl
      · exact .inl (hsub l hl)
      · exact .inr (List.mem_singleton.1 hl)
    refine hQ1 m1 s _ b (ls0 ++ [n]) n hb ⟨hk1.wf, ⟨pv', zs', po, h1⟩, h.dev.keep h.wf hk1 fun b hb e => ?_, h.l8, h.fr, fun b' hb' => ⟨(h.sep b' hb').1, (h.sep b' hb').2.1, fun l hl => ?_⟩, h.ly.keep h.wf hk1 fun b hb e => ?_, fun b' hb' => ⟨(h.sepy b' hb').1, (h.sepy b' hb').2.1, fun l hl => ?_⟩, ?_, h.cap1, h.cap2, fun l hl => ?_⟩ (fl_app hf0 hnb) rfl (fun l0 hl0 hp0 => ?_) (.inl hf)
    · rcases e with e | e
      · exact (h.sep b hb).1 e
      · exact (h.sep b hb).2.1 e
    · rcases hmem l hl with hl | rfl
      · exact (h.sep b' hb').2.2 l hl
      · have := h.dev.lt h.wf hb'
        omega
    · rcases e with e | e
      · exact (h.sepy b hb).1 e
      · exact (h.sepy b hb).2.1 e
    · rcases hmem l hl with hl | rfl
      · exact (h.sepy b' hb').2.2 l hl
      · have := h.ly.lt h.wf hb'
        omega
    · have hl := h.len
      rcases hls with ⟨hlt, rfl⟩ | ⟨hlt, v, hv, _, rfl⟩
      · rw [List.length_append, List.length_singleton]; omega
      · have := rm_len hv
        rw [List.length_append, List.length_singleton]; omega
    · rcases hmem l hl with hl | rfl
      · exact h.each l hl
      · exact ⟨by omega, by rw [hndl, hC2, hz], by rw [hnp, hnb, hpk hf], fun _ => hnd⟩
    · have hin : l0 ∈ ls0 := by
        rcases hls with ⟨_, rfl⟩ | ⟨_, v, hv, hvp, rfl⟩
        · exact hl0
        · unfold rm
          rw [List.mem_filter]
          refine ⟨hl0, ?_⟩
          have : l0.b ≠ v.b := fun e => by
            rw [map_inj hc.nb hl0 hv e] at hp0
            omega
          simp [this]
      exact fl_mem h1.nb (List.mem_append_left _ hin)
theorem Ok.held (h : Ok m c d cb cap mb L ls y zs o pn) {l : Ln} (hf : fl ls 0 = some l) {Q : AV → M → Prop}
    (hQ : ∀ m' B n, Ok m' c d cb cap mb L ls y zs o pn → 0 < n → m'.rd B 0 = some (iv 0) → Q (.slice B 0 n n false) m') : WpF Try.prog tb fn_Ca_Held [.ptr c 0] m Q := by
  obtain ⟨pv, ps, po, hc⟩ := h.ca
  obtain ⟨g1, g2, g3, g4⟩ := h.lb
  have hne : ls ≠ [] := fun e => by rw [e] at hf; cases hf
  refine held_spec h.wf hc hne g1 g2 fun m' B hB hk hn => ?_
  refine hQ m' B ls.length (h.keep0 hk) (List.length_pos_iff.2 hne) ?_
  rw [hB.rd, List.getElem?_map, Sk_head hf]
  rfl
end
end Go.Proofs.Ytmkbjcjlnidjiaa
