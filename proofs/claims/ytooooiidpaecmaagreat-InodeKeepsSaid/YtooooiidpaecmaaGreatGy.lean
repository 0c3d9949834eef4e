import Derived.Test.YtooooiidpaecmaaGreatGr
import Derived.Test.YtooooiidpaecmaaGreatAmMv
import Derived.Test.YtooooiidpaecmaaGreatGu
import Derived.Test.YtooooiidpaecmaaGreatAmSt
set_option linter.unusedVariables false
set_option linter.unusedSimpArgs false
/- Lists that have memory of their own: skerryref01's IntsApart. -/
namespace Go.Proofs.YtooooiidpaecmaaGreat
open Go Go.Am
structure Lz where
  x : AV
  len : Nat
  o : Option Nat
def Lz.S (zs : List Lz) (i : Nat) : Nat := ((zs.take i).map (·.len)).sum
theorem Lz.S_zero (zs : List Lz) : Lz.S zs 0 = 0 := rfl
theorem Lz.S_succ {zs : List Lz} {i : Nat} {z : Lz} (h : zs[i]? = some z) : Lz.S zs (i + 1) = Lz.S zs i + z.len := by
  unfold Lz.S
  rw [List.take_add_one, h, List.map_append, List.sum_append]; simp
theorem Lz.S_le (zs : List Lz) {i : Nat} (h : i ≤ zs.length) : Lz.S zs i ≤ Lz.S zs zs.length := by
  have : ∀ d i, i + d = zs.length → Lz.S zs i ≤ Lz.S zs zs.length := by
    intro d
    induction d with
    | zero => intro i hi; rw [show i = zs.length by omega]; exact Nat.le_refl _
    | succ d ih =>
      intro i hi
      have hz : zs[i]? = some (zs[i]'(by omega)) := List.getElem?_eq_getElem _
      have := Lz.S_succ hz
      have := ih (i + 1) (by omega)
      omega
  exact this (zs.length - i) i (by omega)
def Lz.F (zs : List Lz) (b : Nat) : Prop := ∃ (j : Nat) (z : Lz), zs[j]? = some z ∧ z.o = some b
noncomputable def finI (zs : List Lz) (j len : Nat) : List AV := (List.range len).map fun t => ivn (Lz.S zs j + t)
noncomputable def extI (zs : List Lz) (i k j : Nat) : List AV := if j < i then (List.range 6).map fun u => ivn (Lz.S zs zs.length + 6 * j + u) else if j = i then (List.range k).map fun u => ivn (Lz.S zs zs.length + 6 * j + u) else []
section
variable {m : M}
theorem set_slI {x : AV} {len : Nat} {cells : List AV} {o : Option Nat} (h : SlE m ty_int x len cells o) (hw : Wf m) {k : Nat} (hk : k < len) (v : AV) :
    ∃ b cap m', x = .slice b 0 len cap false ∧ o = some b ∧ m.wr b k [v] = some m' ∧ SlE m' ty_int x len (cells.set k v) o ∧ Keep m m' (fun z => z = b) := by
  rcases h with h | ⟨_, _, rfl, _⟩
  case inr => omega
  cases h with
  | nil => omega
  | @row b len cap cells junk xt h hl hj hc h0 =>
    obtain ⟨m', e, h', k', _⟩ := h.st hw k [v] rfl (by simp; omega)
    refine ⟨b, cap, m', rfl, rfl, e, .inl (.row (xt := xt) (junk := junk) ?_ (by simpa using hl) hj hc h0), k'⟩
    have : splice (cells ++ junk) k [v] = cells.set k v ++ junk := by
      apply List.ext_getElem?
      intro j
      rw [splice_get (by simp; omega)]
      simp only [List.length_cons, List.length_nil]
      by_cases hj : j < cells.length
      · rw [List.getElem?_append_left (show j < (cells.set k v).length by rw [List.length_set]; exact hj), List.getElem?_set, List.getElem?_append_left hj]
        by_cases e : k = j
        · subst e; rw [if_pos (show k ≤ k ∧ k < k + (0 + 1) by omega), if_pos rfl, if_pos hj, Nat.sub_self]; rfl
        · rw [if_neg (show ¬ (k ≤ j ∧ j < k + (0 + 1)) by omega), if_neg e]
      · rw [List.getElem?_append_right (show (cells.set k v).length ≤ j by rw [List.length_set]; omega), if_neg (show ¬ (k ≤ j ∧ j < k + (0 + 1)) by omega), List.getElem?_append_right (by omega), List.length_set]
    rwa [this] at h'
def W1I (m0 : M) (B : Nat) (zs : List Lz) (i k : Nat) (m : M) : Prop :=
  At m B ty_sint true (zs.map (·.x)) ∧ (∀ j z, zs[j]? = some z → ∃ c, SlE m ty_int z.x z.len c z.o ∧ ∀ t, (j < i ∧ t < z.len ∨ j = i ∧ t < k) → c[t]? = some (ivn (Lz.S zs j + t))) ∧ Keep m0 m (Lz.F zs)
structure W2I (m0 : M) (B : Nat) (zs : List Lz) (i k : Nat) (gs : Nat → AV) (own : Nat → List Nat) (gv : AV) (go : Option Nat) (m : M) : Prop where
  out : At m B ty_sint true (zs.map (·.x))
  ea : ∀ j z, zs[j]? = some z → GrAt m ty_int z.x (finI zs j z.len) (gs j) (finI zs j z.len ++ extI zs i k j) (own j)
  dis : ∀ j j' b, j ≠ j' → j < zs.length → j' < zs.length → b ∈ own j → b ∉ own j'
  ob : ∀ j b, j < zs.length → b ∈ own j → b ≠ B ∧ go ≠ some b
  old : ∀ j b, j < zs.length → b ∈ own j → (∃ z, zs[j]? = some z ∧ z.o = some b) ∨ m0.next ≤ b
  gr : SlAt m ty_sint 1 gv i ((List.range i).map gs) go
  gn : ∀ b, go = some b → m0.next ≤ b ∧ b ≠ B
  un : ∀ j z, zs[j]? = some z → i ≤ j → (k = 0 ∨ i < j) → gs j = z.x
  kp : Keep m0 m (Lz.F zs)
theorem fin_getI {zs : List Lz} {j len t : Nat} (h : t < len) : (finI zs j len)[t]? = some (ivn (Lz.S zs j + t)) := by
  unfold finI
  rw [List.getElem?_map, List.getElem?_range h]; rfl
theorem fin_lenI {zs : List Lz} {j len : Nat} : (finI zs j len).length = len := by unfold finI; simp
set_option maxRecDepth 20000 in
set_option maxHeartbeats 4000000 in
theorem ints_apart {B : Nat} {zs : List Lz} (hw : Wf m) (hn : zs ≠ []) (hB : At m B ty_sint true (zs.map (·.x))) (hz : ∀ (j : Nat) (z : Lz), zs[j]? = some z → ∃ c, SlE m ty_int z.x z.len c z.o)
    (hd : ∀ (i j : Nat) (z z' : Lz) (b : Nat), zs[i]? = some z → zs[j]? = some z' → z.o = some b → z'.o = some b → i = j) (hnl : zs.length ≤ 1000) (hS : Lz.S zs zs.length + 6 * zs.length ≤ 1000000000000000) (hr : ∀ (j : Nat) (z : Lz), zs[j]? = some z → (z.len + 6) * 8 ≤ 140737488355328) {Q : AV → M → Prop}
    (hQ : ∀ m', Keep m m' (Lz.F zs) → Q (.b true) m') : WpF Tryz.prog tb fn_e9 [.slice B 0 zs.length zs.length false] m Q := by
  have hko : ∀ {m' : M} {z : Lz} {c : List AV} {b : Nat}, At m' B ty_sint true (zs.map (·.x)) → SlE m' ty_int z.x z.len c z.o → z.o = some b → b ≠ B := fun hB hz hb => by
    rw [hb] at hz
    exact hz.kd.ne hB.kd
  refine WpF.go at_e9 ?_
  simp -implicitDefEqProofs only [o_e9, r_e9_0, r_e9_1, r_e9_2, wA, wB, wC, wD]
  /- the lists are written over -/
  refine GX_loop (fun j fr mk => ∃ i, i ≤ zs.length ∧ j = zs.length - i ∧ (ev (tm 0) fr = .slice B 0 zs.length zs.length false ∧ ev (tm 3) fr = iv ((Lz.S zs i : Nat) : Int) ∧ ev (tm 4) fr = iv i) ∧ W1I m B zs i 0 mk) (k := zs.length) ⟨0, Nat.zero_le _, rfl, by simp -implicitDefEqProofs only [Lz.S_zero, ev_tm, ↓reduceIte, Nat.reduceEqDiff, nc0, and_self], hB, fun j z hj => by
    obtain ⟨c, hc⟩ := hz j z hj
    exact ⟨c, hc, fun t ht => by omega⟩, Keep.refl hw _⟩ ?_
  rintro j fr mk ⟨i, hi, rfl, ⟨e0, e3, e4⟩, hB1, hz1, k1⟩
  have hw1 := k1.wf
  by_cases hlt : i < zs.length
  · have hzi : zs[i]? = some zs[i] := List.getElem?_eq_getElem hlt
    generalize zs[i] = z at hzi
    have hSi := Lz.S_succ hzi
    have hSb := Lz.S_le zs (i := i) (by omega)
    have hSb1 := Lz.S_le zs (i := i + 1) (by omega)
    simp -implicitDefEqProofs only [o_e9, r_e9_3, r_e9_5, e0, e4, show ((i : Int) < (zs.length : Int)) = True from eq_true (by omega), ↓reduceIte, Nat.reduceEqDiff, wA, wB, wC, wD]
    refine GX_loop (fun j fr mk => ∃ k, k ≤ z.len ∧ j = z.len - k ∧ (ev (tm 0) fr = .slice B 0 zs.length zs.length false ∧ ev (tm 3) fr = iv ((Lz.S zs i + k : Nat) : Int) ∧ ev (tm 4) fr = iv i ∧ ev (tm 5) fr = iv k) ∧ W1I m B zs i k mk) (k := z.len) ⟨0, Nat.zero_le _, rfl, by simp -implicitDefEqProofs only [e0, e3, e4, ev_tm, ↓reduceIte, Nat.reduceEqDiff, Nat.add_zero, nc0, and_self], hB1, hz1, k1⟩ ?_
    clear e0 e3 e4 hB1 hz1 k1 hw1
    rintro j fr mk ⟨k, hk, rfl, ⟨e0, e3, e4, e5⟩, hB1, hz1, k1⟩
    have hw1 := k1.wf
    obtain ⟨c, hc, hct⟩ := hz1 i z hzi
    have hri : mk.rd B i = some z.x := by rw [hB1.rd, List.getElem?_map, hzi]; rfl
    by_cases hkl : k < z.len
    · obtain ⟨b, cap, m2, hx, ho, e2, hc2, k2⟩ := set_slI hc hw1 hkl (ivn (Lz.S zs i + k))
      have hri' : mk.rd B i = some (.slice b 0 z.len cap false) := by rw [hri, hx]
      have hC : ((Lz.S zs i + k : Nat) : Int) + 1 = ((Lz.S zs i + (k + 1) : Nat) : Int) := by omega
      simp -implicitDefEqProofs only [o_e9, r_e9_6, r_e9_8, r_e9_9, r_e9_7, e0, e3, e4, e5, v_iaS 1 B 0 zs.length zs.length false hlt, Nat.mul_one, hri', show ((k : Int) < (z.len : Int)) = True from eq_true (by omega), v_iaS 1 b 0 z.len cap false hkl, e2, b_add ty_int (show -9223372036854775808 ≤ ((Lz.S zs i + k : Nat) : Int) + 1 by omega) (show ((Lz.S zs i + k : Nat) : Int) + 1 ≤ 9223372036854775807 by omega), b_add ty_int (show -9223372036854775808 ≤ (k : Int) + 1 by omega) (show (k : Int) + 1 ≤ 9223372036854775807 by omega), ↓reduceIte, Nat.reduceEqDiff, wA, wB, wC, wD]
      refine LK_n (k' := z.len - (k + 1)) (by omega) ⟨k + 1, by omega, rfl, by simp -implicitDefEqProofs only [e0, e4, hC, show (k : Int) + 1 = ((k + 1 : Nat) : Int) from rfl, ev_tm, ↓reduceIte, Nat.reduceEqDiff, and_self], hB1.keep hw1 k2 (fun e => hko hB1 hc ho e.symm), fun j z' hj => ?_, k1.trans k2 fun x hx e => ⟨i, z, hzi, by rw [ho, e]⟩⟩
      by_cases hji : j = i
      · subst hji
        rw [hzi] at hj
        cases hj
        refine ⟨_, hc2, fun t ht => ?_⟩
        have hcl := hc.count
        rw [List.getElem?_set]
        by_cases htk : k = t
        · subst htk; rw [if_pos rfl, if_pos (by omega)]
        · rw [if_neg htk]; exact hct t (by omega)
      · obtain ⟨c', hc', hct'⟩ := hz1 j z' hj
        exact ⟨c', hc'.keep hw1 k2 fun b' hb' e => hji (hd _ _ _ _ b hj hzi (e ▸ hb') ho), fun t ht => hct' t (by omega)⟩
    · have hke : k = z.len := by omega
      subst hke
      simp -implicitDefEqProofs only [o_e9, r_e9_6, r_e9_4, e0, e4, e5, v_iaS 1 B 0 zs.length zs.length false hlt, Nat.mul_one, hri, hc.len, show ((z.len : Int) < (z.len : Int)) = False from eq_false (by omega), b_add ty_int (show -9223372036854775808 ≤ (i : Int) + 1 by omega) (show (i : Int) + 1 ≤ 9223372036854775807 by omega), ↓reduceIte, Nat.reduceEqDiff, wA, wB, wC, wD]
      refine LK_n (k' := zs.length - (i + 1)) (by omega) ⟨i + 1, by omega, rfl, by simp -implicitDefEqProofs only [e0, e3, hSi, show (i : Int) + 1 = ((i + 1 : Nat) : Int) from rfl, ev_tm, ↓reduceIte, Nat.reduceEqDiff, and_self], hB1, fun j z' hj => ?_, k1⟩
      obtain ⟨c', hc', hct'⟩ := hz1 j z' hj
      refine ⟨c', hc', fun t ht => hct' t ?_⟩
      by_cases hji : j = i
      · subst hji
        rw [hzi] at hj; cases hj
        omega
      · omega
  have hin : i = zs.length := by omega
  subst hin
  simp -implicitDefEqProofs only [o_e9, r_e9_3, r_e9_10, r_e9_11, r_e9_12, e0, e3, e4, ↓reduceIte, Nat.reduceEqDiff, wA, wB, wC, wD]
  generalize hN : Lz.S zs zs.length = N at *
  /- the lists grow -/
  have h2 : W2I m B zs 0 0 (fun j => (zs[j]?.map (·.x)).getD nils) (fun j => ((zs[j]?.bind (·.o)).toList)) nils none mk := by
    refine ⟨hB1, fun j z hj => ?_, fun j j' b hne hj hj' hb hb' => ?_, fun j b hj hb => ?_, fun j b hj hb => ?_, .nil, fun b h => (by cases h), fun j z hj _ _ => by rw [hj]; rfl, k1⟩
    · obtain ⟨c, hc, hct⟩ := hz1 j z hj
      have hjl := (List.getElem?_eq_some_iff.1 hj).1
      have hcf : c = finI zs j z.len := List.ext_getElem? fun t => by
        have hcl := hc.count
        by_cases ht : t < z.len
        · rw [fin_getI ht]; exact hct t (.inl ⟨hjl, ht⟩)
        · rw [List.getElem?_eq_none (by omega), List.getElem?_eq_none (by rw [fin_lenI]; omega)]
      subst hcf
      have := GrAt.begin hc
      rw [hj]
      show GrAt mk ty_int z.x _ z.x (finI zs j z.len ++ extI zs 0 0 j) z.o.toList
      rw [show extI zs 0 0 j = [] by unfold extI; split <;> (try split) <;> first | omega | rfl, List.append_nil]
      exact this
    · have hzj : zs[j]? = some zs[j] := List.getElem?_eq_getElem hj
      have hzj' : zs[j']? = some zs[j'] := List.getElem?_eq_getElem hj'
      rw [hzj] at hb
      rw [hzj'] at hb'
      exact hne (hd _ _ _ _ b hzj hzj' (by simpa using hb) (by simpa using hb'))
    · have hzj : zs[j]? = some zs[j] := List.getElem?_eq_getElem hj
      rw [hzj] at hb
      obtain ⟨c, hc, _⟩ := hz1 j _ hzj
      exact ⟨hko hB1 hc (by simpa using hb), by simp⟩
    · have hzj : zs[j]? = some zs[j] := List.getElem?_eq_getElem hj
      rw [hzj] at hb
      exact .inl ⟨_, hzj, by simpa using hb⟩
  clear hB1 hz1 k1 hw1
  refine GX_loop (fun j fr mk => ∃ i gs own gv go, i ≤ zs.length ∧ j = zs.length - i ∧ (ev (tm 0) fr = .slice B 0 zs.length zs.length false ∧ ev (tm 6) fr = gv ∧ ev (tm 7) fr = iv ((N + 6 * i : Nat) : Int) ∧ ev (tm 8) fr = iv i) ∧ W2I m B zs i 0 gs own gv go mk) (k := zs.length) ⟨0, _, _, nils, none, Nat.zero_le _, rfl, by simp -implicitDefEqProofs only [e0, ev_tm, ↓reduceIte, Nat.reduceEqDiff, Nat.reduceMul, Nat.add_zero, nc0, and_self], h2⟩ ?_
  clear h2 e0 e3 e4
  rintro j fr mk ⟨i, gs, own, gv, go, hi, rfl, ⟨e0, e6, e7, e8⟩, h2⟩
  by_cases hlt : i < zs.length
  · have hzi : zs[i]? = some zs[i] := List.getElem?_eq_getElem hlt
    generalize zs[i] = z at hzi
    have hri : mk.rd B i = some z.x := by rw [h2.out.rd, List.getElem?_map, hzi]; rfl
    have hg0 := h2.un i z hzi (Nat.le_refl _) (.inl rfl)
    simp -implicitDefEqProofs only [o_e9, r_e9_13, r_e9_15, r_e9_16, e0, e8, show ((i : Int) < (zs.length : Int)) = True from eq_true (by omega), v_iaS 1 B 0 zs.length zs.length false hlt, Nat.mul_one, hri, ↓reduceIte, Nat.reduceEqDiff, wA, wB, wC, wD]
    refine GX_loop (fun j fr mk => ∃ k gs own, k ≤ 6 ∧ j = 6 - k ∧ (ev (tm 0) fr = .slice B 0 zs.length zs.length false ∧ ev (tm 6) fr = gv ∧ ev (tm 7) fr = iv ((N + 6 * i + k : Nat) : Int) ∧ ev (tm 8) fr = iv i ∧ ev (tm 9) fr = gs i ∧ ev (tm 10) fr = iv k) ∧ W2I m B zs i k gs own gv go mk) (k := 6) ⟨0, gs, own, Nat.zero_le _, rfl, by simp -implicitDefEqProofs only [e0, e6, e7, e8, hg0, ev_tm, ↓reduceIte, Nat.reduceEqDiff, Nat.add_zero, nc0, and_self], h2⟩ ?_
    clear e0 e6 e7 e8 h2 hri hg0
    rintro j fr mk ⟨k, gs, own, hk, rfl, ⟨e0, e6, e7, e8, e9, e10⟩, h2⟩
    have hw2 := h2.kp.wf
    have hga := h2.ea i z hzi
    by_cases hk6 : k < 6
    · have hgl : (finI zs i z.len ++ extI zs i k i).length = z.len + k := by
        rw [List.length_append, fin_lenI]; unfold extI; rw [if_neg (by omega), if_pos rfl]; simp
      have hzl : z.len ≤ N := by rw [← hN]; have := Lz.S_succ hzi; have := Lz.S_le zs (i := i + 1) (by omega); omega
      obtain ⟨m3, e3', ha3, k3, n3⟩ := addL_at hw2 ty_int 1 [ivn (N + 6 * i + k)]
      have hw3 := k3.wf
      have hga3 := hga.keep hw2 k3 fun _ _ h => h
      have hy : Rds m3 (.slice mk.next 0 1 1 false) 1 1 [ivn (N + 6 * i + k)] := (SlAt.row (xt := true) (junk := []) (cells := [ivn (N + 6 * i + k)]) (len := 1) (cap := 1) ha3 rfl rfl (Nat.le_refl _) (by omega)).src
      obtain ⟨g', m4, own', e4', hga4, k4, ho4⟩ := hga3.app (bytes := 8) (z := [iv 0]) hw3 hy (room_le (by rw [hgl]; have := hr i z hzi; omega) (by omega) (by omega))
      have k34 : Keep mk m4 fun b => b ∈ own i := k3.ft k4
      have hltm : ∀ j z b, zs[j]? = some z → b ∈ own j → b < mk.next := fun j z b hj hb => (h2.ea j z hj).lt hw2 hb
      have hn3' := k3.next
      have hwB := h2.out.lt hw2
      have hC : ((N + 6 * i + k : Nat) : Int) + 1 = ((N + 6 * i + (k + 1) : Nat) : Int) := by omega
      simp -implicitDefEqProofs only [o_e9, r_e9_17, r_e9_19, r_e9_20, r_e9_18, e7, e9, e10, show ((k : Int) < 6) = True from eq_true (by omega), e3', e4', b_add ty_int (show -9223372036854775808 ≤ ((N + 6 * i + k : Nat) : Int) + 1 by omega) (show ((N + 6 * i + k : Nat) : Int) + 1 ≤ 9223372036854775807 by omega), b_add ty_int (show -9223372036854775808 ≤ (k : Int) + 1 by omega) (show (k : Int) + 1 ≤ 9223372036854775807 by omega), ↓reduceIte, Nat.reduceEqDiff, Nat.reduceLeDiff, wA, wB, wC, wD]
      refine LK_n (k' := 6 - (k + 1)) (by omega) ⟨k + 1, fun j => if j = i then g' else gs j, fun j => if j = i then own' else own j, by omega, rfl, by simp -implicitDefEqProofs only [e0, e6, e8, hC, show (k : Int) + 1 = ((k + 1 : Nat) : Int) from rfl, ev_tm, ↓reduceIte, Nat.reduceEqDiff, and_self], ⟨h2.out.keep hw2 k34 fun hb => (h2.ob i B hlt hb).1 rfl, fun j z' hj => ?_, fun j j' b hne hj hj' hb hb' => ?_, fun j b hj hb => ?_, fun j b hj hb => ?_, ?_, h2.gn, fun j z' hj hij hor => ?_, ?_⟩⟩
      · by_cases hji : j = i
        · subst hji
          rw [hzi] at hj; cases hj
          rw [if_pos rfl, if_pos rfl]
          have : extI zs j (k + 1) j = extI zs j k j ++ [ivn (N + 6 * j + k)] := by
            unfold extI
            rw [if_neg (by omega), if_pos rfl, if_neg (by omega), if_pos rfl, List.range_succ, List.map_append, hN]; rfl
          rw [this, ← List.append_assoc]
          exact hga4
        · rw [if_neg hji, if_neg hji]
          have : extI zs i (k + 1) j = extI zs i k j := by unfold extI; rw [if_neg hji, if_neg hji]
          rw [this]
          exact (h2.ea j z' hj).keep hw2 k34 fun b hb hb' => h2.dis j i b hji (List.getElem?_eq_some_iff.1 hj).1 hlt hb hb'
      · have key : ∀ j b, j < zs.length → b ∈ (if j = i then own' else own j) → (b ∈ own j) ∨ (j = i ∧ mk.next ≤ b) := fun j b hj hb => by
          by_cases hji : j = i
          · rw [if_pos hji] at hb
            rcases ho4 b hb with h | h
            · exact .inl (hji ▸ h)
            · exact .inr ⟨hji, by omega⟩
          · rw [if_neg hji] at hb; exact .inl hb
        have hzj : zs[j]? = some zs[j] := List.getElem?_eq_getElem hj
        have hzj' : zs[j']? = some zs[j'] := List.getElem?_eq_getElem hj'
        rcases key j b hj hb with h | ⟨h, h3⟩ <;> rcases key j' b hj' hb' with h4 | ⟨h4, h5⟩
        · exact h2.dis j j' b hne hj hj' h h4
        · have := hltm _ _ _ hzj h; omega
        · have := hltm _ _ _ hzj' h4; omega
        · exact hne (h.trans h4.symm)
      · by_cases hji : j = i
        · rw [if_pos hji] at hb
          rcases ho4 b hb with h | h
          · exact h2.ob i b hlt h
          · refine ⟨by omega, fun e => ?_⟩
            have := h2.gr.blk_lt hw2 e
            omega
        · rw [if_neg hji] at hb; exact h2.ob j b hj hb
      · by_cases hji : j = i
        · rw [if_pos hji] at hb
          rcases ho4 b hb with h | h
          · subst hji; exact h2.old j b hj h
          · have := h2.kp.next
            exact .inr (by omega)
        · rw [if_neg hji] at hb; exact h2.old j b hj hb
      · have hm : (List.range i).map (fun j => if j = i then g' else gs j) = (List.range i).map gs := List.map_congr_left fun j hj => by
          have := List.mem_range.1 hj
          rw [if_neg (by omega)]
        rw [hm]
        exact h2.gr.keep hw2 k34 fun b hb hb' => (h2.ob i b hlt hb').2 hb
      · rw [if_neg (by omega)]
        exact h2.un j z' hj hij (.inr (by omega))
      · refine h2.kp.trans k34 fun b hb hb' => ?_
        rcases h2.old i b hlt hb' with ⟨z', h, h'⟩ | h
        · exact ⟨i, z', h, h'⟩
        · omega
    · have hke : k = 6 := by omega
      subst hke
      obtain ⟨m3, e3', ha3, k3, n3⟩ := addL_at hw2 ty_sint 1 [gs i]
      have hw3 := k3.wf
      have hy : Rds m3 (.slice mk.next 0 1 1 false) 1 1 [gs i] := (SlAt.row (xt := true) (junk := []) (cells := [gs i]) (len := 1) (cap := 1) ha3 rfl rfl (Nat.le_refl _) (by omega)).src
      obtain ⟨x4, m4, o4, e4', hs4, k4, ho4⟩ := (h2.gr.keep hw2 k3 fun _ _ h => h).append (bytes := 24) (z := [nils]) hw3 hy (room_of (by omega) (by omega))
      have k34 : Keep mk m4 fun b => go = some b := k3.ft k4
      have hwB := h2.out.lt hw2
      have hn3' := k3.next
      have hC : ((N + 6 * i + 6 : Nat) : Int) = ((N + 6 * (i + 1) : Nat) : Int) := by omega
      simp -implicitDefEqProofs only [o_e9, r_e9_17, r_e9_21, r_e9_14, e6, e8, e9, e10, show (((6 : Nat) : Int) < 6) = False from eq_false (by omega), hga.gcells1, e3', e4', b_add ty_int (show -9223372036854775808 ≤ (i : Int) + 1 by omega) (show (i : Int) + 1 ≤ 9223372036854775807 by omega), ↓reduceIte, Nat.reduceEqDiff, Nat.reduceSub, Nat.reduceLeDiff, wA, wB, wC, wD]
      refine LK_n (k' := zs.length - (i + 1)) (by omega) ⟨i + 1, gs, own, x4, o4, by omega, rfl, by simp -implicitDefEqProofs only [e0, e7, hC, show (i : Int) + 1 = ((i + 1 : Nat) : Int) from rfl, ev_tm, ↓reduceIte, Nat.reduceEqDiff, and_self], ⟨h2.out.keep hw2 k34 fun hb => (h2.gn B hb).2 rfl, fun j z' hj => ?_, h2.dis, fun j b hj hb => ⟨(h2.ob j b hj hb).1, fun e => ?_⟩, h2.old, ?_, fun b hb => ?_, fun j z' hj hij _ => h2.un j z' hj (by omega) (.inr (by omega)), ?_⟩⟩
      · have : extI zs (i + 1) 0 j = extI zs i 6 j := by
          unfold extI
          by_cases h1 : j < i
          · rw [if_pos (by omega), if_pos h1]
          · by_cases h3 : j = i
            · rw [if_pos (by omega), if_neg h1, if_pos h3]
            · rw [if_neg (by omega), if_neg h1, if_neg h3]; split <;> rfl
        rw [this]
        exact (h2.ea j z' hj).keep hw2 k34 fun b hb hb' => (h2.ob j b (List.getElem?_eq_some_iff.1 hj).1 hb).2 hb'
      · rcases ho4 with h | ⟨b', h, h5, _⟩
        · rw [h] at e; exact (h2.ob j b hj hb).2 e
        · rw [h] at e; cases e
          have := (h2.ea j _ (List.getElem?_eq_getElem hj)).lt hw2 hb
          omega
      · rw [List.range_succ, List.map_append]; exact hs4
      · rcases ho4 with h | ⟨b', h, h5, _⟩
        · rw [h] at hb; exact h2.gn b hb
        · rw [h] at hb; cases hb
          have := h2.kp.next
          exact ⟨by omega, by omega⟩
      · refine h2.kp.trans k34 fun b hb hb' => ?_
        have := (h2.gn b hb').1
        omega
  have hin : i = zs.length := by omega
  subst hin
  simp -implicitDefEqProofs only [o_e9, r_e9_13, r_e9_22, r_e9_23, e0, e8, ↓reduceIte, Nat.reduceEqDiff, wA, wB, wC, wD]
  have hw2 := h2.kp.wf
  have hfl : ∀ j z, zs[j]? = some z → (finI zs j z.len ++ extI zs zs.length 0 j).length = z.len + 6 ∧ z.len ≤ N := fun j z hj => by
    have hjl := (List.getElem?_eq_some_iff.1 hj).1
    refine ⟨?_, ?_⟩
    · rw [List.length_append, fin_lenI]; unfold extI; rw [if_pos hjl]; simp
    · rw [← hN]; have := Lz.S_succ hj; have := Lz.S_le zs (i := j + 1) (by omega); omega
  /- they are as they were written -/
  refine GX_loop (fun j fr mm => ∃ i, i ≤ zs.length ∧ j = zs.length - i ∧ (ev (tm 0) fr = .slice B 0 zs.length zs.length false ∧ ev (tm 3) fr = iv ((Lz.S zs i : Nat) : Int) ∧ ev (tm 6) fr = gv ∧ ev (tm 11) fr = iv i) ∧ mm = mk) (k := zs.length) ⟨0, Nat.zero_le _, rfl, by simp -implicitDefEqProofs only [e0, e6, Lz.S_zero, ev_tm, ↓reduceIte, Nat.reduceEqDiff, nc0, and_self], rfl⟩ ?_
  clear e0 e6 e7 e8
  rintro j fr mm ⟨i, hi, rfl, ⟨e0, e3, e6, e11⟩, rfl⟩
  by_cases hlt : i < zs.length
  · have hzi : zs[i]? = some zs[i] := List.getElem?_eq_getElem hlt
    generalize zs[i] = z at hzi
    have hri : mm.rd B i = some z.x := by rw [h2.out.rd, List.getElem?_map, hzi]; rfl
    have hga := h2.ea i z hzi
    obtain ⟨hl1, hl2⟩ := hfl i z hzi
    have hSi := Lz.S_succ hzi
    have hSb := Lz.S_le zs (i := i + 1) (by omega)
    have hlx := hga.lenx
    rw [fin_lenI] at hlx
    simp -implicitDefEqProofs only [o_e9, r_e9_24, r_e9_26, e0, e11, show ((i : Int) < (zs.length : Int)) = True from eq_true (by omega), ↓reduceIte, Nat.reduceEqDiff, wA, wB, wC, wD]
    refine GX_loop (fun j fr m5 => ∃ k, k ≤ z.len ∧ j = z.len - k ∧ (ev (tm 0) fr = .slice B 0 zs.length zs.length false ∧ ev (tm 3) fr = iv ((Lz.S zs i + k : Nat) : Int) ∧ ev (tm 6) fr = gv ∧ ev (tm 11) fr = iv i ∧ ev (tm 12) fr = iv k) ∧ m5 = mm) (k := z.len) ⟨0, Nat.zero_le _, rfl, by simp -implicitDefEqProofs only [e0, e3, e6, e11, ev_tm, ↓reduceIte, Nat.reduceEqDiff, Nat.add_zero, nc0, and_self], rfl⟩ ?_
    clear e0 e3 e6 e11
    rintro j fr m5 ⟨k, hk, rfl, ⟨e0, e3, e6, e11, e12⟩, rfl⟩
    by_cases hkl : k < z.len
    · obtain ⟨b, cap, hx, _, hr⟩ := hga.rdx (by rw [hl1, fin_lenI]; omega) (fin_getI (zs := zs) (j := i) hkl)
      rw [fin_lenI] at hx
      have hri' : m5.rd B i = some (.slice b 0 z.len cap false) := by rw [hri, hx]
      have hC : ((Lz.S zs i + k : Nat) : Int) + 1 = ((Lz.S zs i + (k + 1) : Nat) : Int) := by omega
      simp -implicitDefEqProofs only [o_e9, r_e9_27, r_e9_29, r_e9_31, r_e9_28, e0, e3, e11, e12, v_iaS 1 B 0 zs.length zs.length false hlt, Nat.mul_one, hri', show ((k : Int) < (z.len : Int)) = True from eq_true (by omega), v_iaS 1 b 0 z.len cap false hkl, hr, b_add ty_int (show -9223372036854775808 ≤ ((Lz.S zs i + k : Nat) : Int) + 1 by omega) (show ((Lz.S zs i + k : Nat) : Int) + 1 ≤ 9223372036854775807 by omega), b_add ty_int (show -9223372036854775808 ≤ (k : Int) + 1 by omega) (show (k : Int) + 1 ≤ 9223372036854775807 by omega), ↓reduceIte, Nat.reduceEqDiff, wA, wB, wC, wD]
      exact LK_n (k' := z.len - (k + 1)) (by omega) ⟨k + 1, by omega, rfl, by simp -implicitDefEqProofs only [e0, e6, e11, hC, show (k : Int) + 1 = ((k + 1 : Nat) : Int) from rfl, ev_tm, ↓reduceIte, Nat.reduceEqDiff, and_self], rfl⟩
    · have hke : k = z.len := by omega
      subst hke
      simp -implicitDefEqProofs only [o_e9, r_e9_27, r_e9_25, e0, e11, e12, v_iaS 1 B 0 zs.length zs.length false hlt, Nat.mul_one, hri, hlx, show ((z.len : Int) < (z.len : Int)) = False from eq_false (by omega), b_add ty_int (show -9223372036854775808 ≤ (i : Int) + 1 by omega) (show (i : Int) + 1 ≤ 9223372036854775807 by omega), ↓reduceIte, Nat.reduceEqDiff, wA, wB, wC, wD]
      exact LK_n (k' := zs.length - (i + 1)) (by omega) ⟨i + 1, by omega, rfl, by simp -implicitDefEqProofs only [e0, e3, e6, hSi, show (i : Int) + 1 = ((i + 1 : Nat) : Int) from rfl, ev_tm, ↓reduceIte, Nat.reduceEqDiff, and_self], rfl⟩
  have hin : i = zs.length := by omega
  subst hin
  have hgl := h2.gr.len
  simp -implicitDefEqProofs only [o_e9, r_e9_24, r_e9_32, e0, e11, ↓reduceIte, Nat.reduceEqDiff, wA, wB, wC, wD]
  /- and so is what grew -/
  rw [hN] at e3
  refine GX_loop (fun j fr m5 => ∃ i, i ≤ zs.length ∧ j = zs.length - i ∧ (ev (tm 0) fr = .slice B 0 zs.length zs.length false ∧ ev (tm 3) fr = iv ((N + 6 * i : Nat) : Int) ∧ ev (tm 6) fr = gv ∧ ev (tm 13) fr = iv i) ∧ m5 = mm) (k := zs.length) ⟨0, Nat.zero_le _, rfl, by simp -implicitDefEqProofs only [e0, e3, e6, ev_tm, ↓reduceIte, Nat.reduceEqDiff, Nat.reduceMul, Nat.add_zero, nc0, and_self], rfl⟩ ?_
  clear e0 e3 e6 e11
  rintro j fr m5 ⟨i, hi, rfl, ⟨e0, e3, e6, e13⟩, rfl⟩
  by_cases hlt : i < zs.length
  · have hzi : zs[i]? = some zs[i] := List.getElem?_eq_getElem hlt
    generalize zs[i] = z at hzi
    have hri : m5.rd B i = some z.x := by rw [h2.out.rd, List.getElem?_map, hzi]; rfl
    have hga := h2.ea i z hzi
    obtain ⟨hl1, hl2⟩ := hfl i z hzi
    have hlx := hga.lenx
    rw [fin_lenI] at hlx
    obtain ⟨gb, gcap, hgv, _, hgr⟩ := elem1 h2.gr hlt
    have hgr' : m5.rd gb i = some (gs i) := by rw [hgr, List.getElem?_map, List.getElem?_range hlt]; rfl
    have hlg := hga.leng
    rw [hl1] at hlg
    have e6' : ev (tm 6) fr = .slice gb 0 zs.length gcap false := by rw [e6, hgv]
    simp -implicitDefEqProofs only [o_e9, r_e9_33, r_e9_35, e0, e6', e13, show ((i : Int) < (zs.length : Int)) = True from eq_true (by omega), v_iaS 1 B 0 zs.length zs.length false hlt, Nat.mul_one, hri, hlx, ↓reduceIte, Nat.reduceEqDiff, wA, wB, wC, wD]
    refine GX_loop (fun j fr m6 => ∃ k, k ≤ 6 ∧ j = 6 - k ∧ (ev (tm 0) fr = .slice B 0 zs.length zs.length false ∧ ev (tm 3) fr = iv ((N + 6 * i + k : Nat) : Int) ∧ ev (tm 6) fr = .slice gb 0 zs.length gcap false ∧ ev (tm 13) fr = iv i ∧ ev (tm 14) fr = iv ((z.len + k : Nat) : Int)) ∧ m6 = m5) (k := 6) ⟨0, Nat.zero_le _, rfl, by simp -implicitDefEqProofs only [e0, e3, e6', e13, ev_tm, ↓reduceIte, Nat.reduceEqDiff, Nat.add_zero, and_self], rfl⟩ ?_
    clear e0 e3 e13 e6'
    rintro j fr m6 ⟨k, hk, rfl, ⟨e0, e3, e6', e13, e14⟩, rfl⟩
    by_cases hkl : k < 6
    · have hv : (finI zs i z.len ++ extI zs zs.length 0 i)[z.len + k]? = some (ivn (N + 6 * i + k)) := by
        rw [List.getElem?_append_right (by rw [fin_lenI]; omega), fin_lenI]
        unfold extI
        rw [if_pos hlt, show z.len + k - z.len = k by omega, List.getElem?_map, List.getElem?_range (by omega), hN]; rfl
      obtain ⟨b, cap, hx, _, hr⟩ := hga.rdg hv
      rw [hl1] at hx
      have hgr2 : m6.rd gb i = some (.slice b 0 (z.len + 6) cap false) := by rw [hgr', hx]
      have hC : ((N + 6 * i + k : Nat) : Int) + 1 = ((N + 6 * i + (k + 1) : Nat) : Int) := by omega
      have hC2 : ((z.len + k : Nat) : Int) + 1 = ((z.len + (k + 1) : Nat) : Int) := by omega
      simp -implicitDefEqProofs only [o_e9, r_e9_36, r_e9_38, r_e9_40, r_e9_37, e3, e6', e13, e14, v_iaS 1 gb 0 zs.length gcap false hlt, Nat.mul_one, hgr2, show (((z.len + k : Nat) : Int) < ((z.len + 6 : Nat) : Int)) = True from eq_true (by omega), v_iaS 1 b 0 (z.len + 6) cap false (show z.len + k < z.len + 6 by omega), hr, b_add ty_int (show -9223372036854775808 ≤ ((N + 6 * i + k : Nat) : Int) + 1 by omega) (show ((N + 6 * i + k : Nat) : Int) + 1 ≤ 9223372036854775807 by omega), b_add ty_int (show -9223372036854775808 ≤ ((z.len + k : Nat) : Int) + 1 by omega) (show ((z.len + k : Nat) : Int) + 1 ≤ 9223372036854775807 by omega), ↓reduceIte, Nat.reduceEqDiff, wA, wB, wC, wD]
      exact LK_n (k' := 6 - (k + 1)) (by omega) ⟨k + 1, by omega, rfl, by simp -implicitDefEqProofs only [e0, e6', e13, hC, hC2, ev_tm, ↓reduceIte, Nat.reduceEqDiff, and_self], rfl⟩
    · have hke : k = 6 := by omega
      subst hke
      have hC : ((N + 6 * i + 6 : Nat) : Int) = ((N + 6 * (i + 1) : Nat) : Int) := by omega
      simp -implicitDefEqProofs only [o_e9, r_e9_36, r_e9_34, e6', e13, e14, v_iaS 1 gb 0 zs.length gcap false hlt, Nat.mul_one, hgr', hlg, show (((z.len + 6 : Nat) : Int) < ((z.len + 6 : Nat) : Int)) = False from eq_false (by omega), b_add ty_int (show -9223372036854775808 ≤ (i : Int) + 1 by omega) (show (i : Int) + 1 ≤ 9223372036854775807 by omega), ↓reduceIte, Nat.reduceEqDiff, Nat.reduceSub, wA, wB, wC, wD]
      exact LK_n (k' := zs.length - (i + 1)) (by omega) ⟨i + 1, by omega, rfl, by simp -implicitDefEqProofs only [e0, e3, e6', hgv, hC, show (i : Int) + 1 = ((i + 1 : Nat) : Int) from rfl, ev_tm, ↓reduceIte, Nat.reduceEqDiff, and_self], rfl⟩
  have hin : i = zs.length := by omega
  subst hin
  simp -implicitDefEqProofs only [o_e9, r_e9_33, r_e9_41, e6, e13, hgl, ↓reduceIte, Nat.reduceEqDiff, wA, wB, wC, wD]
  exact hQ m5 h2.kp
end
structure Vn (m : M) (x : AV) (l : List Nat) : Prop where
  len : lenK false x = some l.length
  el : ∀ (k z : Nat), l[k]? = some z → ∃ b cap, x = .slice b 0 l.length cap false ∧ m.rd b k = some (ivn z)
theorem vn_sle {m : M} {x : AV} {l : List Nat} {o : Option Nat} (h : SlE m ty_int x l.length (l.map ivn) o) : Vn m x l := by
  refine ⟨h.len, fun k z hz => ?_⟩
  rcases h with h | ⟨b, _, h0, _⟩
  · obtain ⟨b, cap, h1, _, h2⟩ := elem1 h (List.getElem?_eq_some_iff.1 hz).1
    exact ⟨b, cap, h1, by rw [h2, List.getElem?_map, hz]; rfl⟩
  · rw [List.length_eq_zero_iff.1 h0] at hz; cases hz
theorem same_ints {m : M} {x y : AV} {zs : List Nat} (hx : Vn m x zs) (hy : Vn m y zs) (hl : zs.length ≤ 1000000000000000) : Ran Tryz.prog tb fn_f0 [x, y] m (.b true) m := by
  refine WpF.go at_f0 ?_
  simp -implicitDefEqProofs only [o_f0, r_f0_0, r_f0_1, r_f0_3, hx.len, hy.len, ↓reduceIte, Nat.reduceEqDiff, Nat.reduceAdd, wA, wB, wC, wD]
  refine GX_loop (fun j fr mk => ∃ k, k ≤ zs.length ∧ j = zs.length - k ∧ (ev (tm 0) fr = x ∧ ev (tm 1) fr = y ∧ ev (tm 5) fr = iv (k : Nat)) ∧ mk = m) (k := zs.length) ⟨0, Nat.zero_le _, rfl, by simp -implicitDefEqProofs only [ev_tm, ↓reduceIte, Nat.reduceEqDiff, nc0, and_self], rfl⟩ ?_
  rintro j fr mk ⟨k, hk, rfl, ⟨e0, e1, e5⟩, rfl⟩
  by_cases hlt : k < zs.length
  · have hz : zs[k]? = some zs[k] := List.getElem?_eq_getElem hlt
    generalize zs[k] = z at hz
    obtain ⟨b, cap, hxx, hr⟩ := hx.el k z hz
    obtain ⟨b', cap', hyy, hr'⟩ := hy.el k z hz
    have q1 := v_iaS (m := mk) 1 b 0 zs.length cap false hlt
    have q2 := v_iaS (m := mk) 1 b' 0 zs.length cap' false hlt
    rw [Nat.zero_add, Nat.mul_one] at q1 q2
    simp -implicitDefEqProofs only [o_f0, r_f0_4, r_f0_6, r_f0_5, e0, e1, e5, hxx, hyy, show ((k : Int) < (zs.length : Int)) = True from eq_true (by omega), q1, q2, hr, hr', b_add ty_int (show -9223372036854775808 ≤ (k : Int) + 1 by omega) (show (k : Int) + 1 ≤ 9223372036854775807 by omega), ↓reduceIte, Nat.reduceEqDiff, List.getElem?_cons_succ, List.getElem?_cons_zero, exists_eq_left', wA, wB, wC, wD]
    exact LK_n (k' := zs.length - (k + 1)) (by omega) ⟨k + 1, by omega, rfl, by simp -implicitDefEqProofs only [e0, e1, hxx, hyy, show (k : Int) + 1 = ((k + 1 : Nat) : Int) from rfl, ev_tm, ↓reduceIte, Nat.reduceEqDiff, and_self], rfl⟩
  · have hke : k = zs.length := by omega
    subst hke
    simp -implicitDefEqProofs only [o_f0, r_f0_4, r_f0_8, e0, e5, hx.len, show ((zs.length : Int) < (zs.length : Int)) = False from eq_false (by omega), ↓reduceIte, Nat.reduceEqDiff, wA, wB, wC, wD]
theorem app_ints {m : M} {b : Nat} {x : AV} {zs : List Nat} {o : Option Nat} (hw : Wf m) (ha : At m b ty_int true []) (h : SlAt m ty_int 1 x zs.length (zs.map ivn) o) (hl : zs.length * 8 ≤ 140737488355328) :
    ∃ m' y o', rApp ty_int 1 8 [iv 0] (.cst (.slice b 0 0 0 false)) (.cst x) .leaf m = some (y, m') ∧ SlE m' ty_int y zs.length (zs.map ivn) (some o') ∧ Keep m m' (fun _ => False) ∧ (o' = b ∨ m.next ≤ o') := by
  by_cases h0 : zs = []
  · subst h0
    have hr : rApp ty_int 1 8 [iv 0] (.cst (.slice b 0 0 0 false)) (.cst x) .leaf m = some (.slice b 0 0 0 false, m) := by
      obtain ⟨g1, g2, _⟩ := h.src
      show (ob (Am.lenA x) fun k => ob (firstA _ 1 k x) fun new => aappend ty_int 1 8 [iv 0] _ (.slice b 0 0 0 false) k new) = _
      rw [g1, v_ob]
      show (ob (firstA m 1 0 x) fun new => aappend ty_int 1 8 [iv 0] _ (.slice b 0 0 0 false) 0 new) = _
      rw [show firstA m 1 0 x = some ([].map ivn) from g2, v_ob]
      rfl
    exact ⟨m, _, b, hr, .inr ⟨b, rfl, rfl, rfl, rfl, ha⟩, Keep.refl hw _, .inl rfl⟩
  · have hpos : 0 < zs.length := List.length_pos_iff.2 h0
    obtain ⟨m2, hr, hs2, k2, n2⟩ := run_clone0 (e := ty_int) (bytes := 8) (z := [iv 0]) ha hw h.src hpos (room_le hl (by omega) (by omega))
    exact ⟨m2, _, m.next, hr, .inl hs2, k2, .inr (Nat.le_refl _)⟩
theorem _root_.Go.Am.RsAt.kp {m m' : M} {x : AV} {l : List AV} {o : Option Nat} {S : List Nat} (h : RsAt m x l o) (hw : Wf m) (k : KeepK m m' [] S) : RsAt m' x l o := by
  refine h.keep hw k fun b hb => ?_
  rintro (⟨j, h1, _⟩ | ⟨_, h2⟩)
  · cases h1
  · cases h with
    | nil => cases hb
    | empty => cases hb
    | row h =>
      cases hb
      obtain ⟨c, e, _⟩ := h.row
      unfold kd at h2
      rw [e] at h2
      dsimp only at h2
      cases hr : c.ro with
      | true => rw [hr] at h2; exact absurd h2 (show ¬ 0 = roK by decide)
      | false => rw [hr] at h2; exact absurd h2 (Nat.succ_ne_zero _).symm
theorem data_len (S : PS) (x : Ino) : (dataL S x).length ≤ 1064 := by
  unfold dataL
  rw [List.length_map, List.length_range]
  have := lst_lt (Nf S x) 1064
  omega
theorem deepL_len (S : PS) (x : Ino) : (deepL S x).length ≤ 34 := by
  unfold deepL
  rw [List.length_append, List.length_append]
  have h1 := one_len S x (.r 8)
  have h2 := one_len S x (.r 9)
  have h3 := deep_len S x 32
  omega
section
variable {m : M} {A : Ad} {S : PS} {own : Nat → Prop} {tt aa : Nat}
theorem Make_out (hw : Wf m) (h : GAt m A S own) (ht : TAt m tt aa A.g) {i k : Int} (hk : k < 0 ∨ 1063 < k) : ∃ m', Keep m m' (fun _ => False) ∧ Ran Tryz.prog tb fn_d2 [.ptr tt 0, .ptr A.o 0, iv i, iv k] m (.tuple [iv 0, .b false, iv 2]) m' := by
  obtain ⟨m1, k1, r1⟩ := Steps_out hw hk
  have hp : m.rdN tt 1 12 = some planL := ht.t.rdN (by show 1 + 12 ≤ 14; omega)
  refine ⟨m1, k1, ?_⟩
  refine WpF.go at_d2 ?_
  simp -implicitDefEqProofs only [o_d2, r_d2_0, r_d2_1, r_d2_3, r_d2_4, r_d2_5, b_np26, hp, r1.eq, show ((2 : Int) = 0) = False from eq_false (by omega), ↓reduceIte, Nat.reduceEqDiff, Nat.reduceAdd, List.getElem?_cons_succ, List.getElem?_cons_zero, wA, wB, wC, wD]
end
structure Ks (m : M) (x : AV) (zs : List Int) (o : Option Nat) (A : Ad) (S : PS) (own : Nat → Prop) (X : Nat → Ino) (tt aa : Nat) : Prop where
  wf : Wf m
  g : GAt m A S own
  t : TAt m tt aa A.g
  i : Inv S I2 X
  x : RsAt m x (zs.map iv) o
section
variable {m m' : M} {x : AV} {zs : List Int} {o : Option Nat} {A : Ad} {S : PS} {own : Nat → Prop} {X : Nat → Ino} {tt aa : Nat}
theorem Ks.keep (h : Ks m x zs o A S own X tt aa) (k : Keep m m' fun _ => False) : Ks m' x zs o A S own X tt aa := ⟨k.wf, h.g.k0 h.wf k, h.t.k0 h.wf k, h.i, h.x.keep h.wf k fun _ _ => id⟩
theorem Ks.step (h : Ks m x zs o A S own X tt aa) {T : PS} {own' : Nat → Prop} {Y : Nat → Ino} (st : Step m m' A T own own') (hY : Inv T I2 Y) : Ks m' x zs o A T own' Y tt aa := ⟨st.kp.wf, st.at', h.t.kp h.wf st.kp, hY, h.x.kp h.wf st.kp⟩
theorem Ks.make (h : Ks m x zs o A S own X tt aa) {i : Nat} (hi : i ∈ I2) (k : Int) {Q : AV → M → Prop} (hQ : ∀ m' T own' Y (a e : Nat) (f : Bool), Ks m' x zs o A T own' Y tt aa → Q (.tuple [iv a, .b f, iv e]) m') :
    WpF Tryz.prog tb fn_d2 [.ptr tt 0, .ptr A.o 0, iv i, iv k] m Q := by
  by_cases hk : k < 0 ∨ 1063 < k
  · obtain ⟨m', k1, r⟩ := Make_out (i := (i : Int)) h.wf h.g h.t hk
    refine WpF.mono r fun v m2 hv => ?_
    obtain ⟨rfl, rfl⟩ := hv
    exact hQ m2 S own X 0 2 false (h.keep k1)
  · obtain ⟨n, rfl⟩ : ∃ n : Nat, k = n := ⟨k.toNat, by omega⟩
    exact Make_ran h.wf h.g h.t h.i hi (by omega) (fun m' own' T Y b hM _ _ st => hQ m' T own' Y b 0 _ (h.step st hM.inv)) (fun m' own' T Y hM _ _ st => hQ m' T own' Y 0 10 _ (h.step st hM.inv))
end
theorem hd_of {zs : List Lz} (h : zs.Pairwise fun z z' => ∀ b, z.o = some b → z'.o ≠ some b) : ∀ (i j : Nat) (z z' : Lz) (b : Nat), zs[i]? = some z → zs[j]? = some z' → z.o = some b → z'.o = some b → i = j := by
  intro i j z z' b h1 h2 h3 h4
  obtain ⟨hi, e1⟩ := List.getElem?_eq_some_iff.1 h1
  obtain ⟨hj, e2⟩ := List.getElem?_eq_some_iff.1 h2
  rw [List.pairwise_iff_getElem] at h
  rcases Nat.lt_trichotomy i j with hlt | he | hlt
  · exact absurd h4 (e2 ▸ h i j hi hj hlt b (e1 ▸ h3))
  · exact he
  · exact absurd h3 (e1 ▸ h j i hj hi hlt b (e2 ▸ h4))
set_option maxRecDepth 20000 in
theorem keeps_rest {m : M} {x : AV} {zs : List Int} {o : Option Nat} {A : Ad} {S : PS} {own : Nat → Prop} {X : Nat → Ino} {tt aa : Nat} (hK : Ks m x zs o A S own X tt aa) {fr : Go.Am.Fr} (e5 : ev (tm 5) fr = .ptr tt 0) (e6 : ev (tm 6) fr = .ptr A.o 0) :
    GX Tryz.prog tb k_f1_18 (FK Tryz.prog [ResultVar.tmp 2] fun v _ => v = .b true) fr m := by
  have h2 : 2 ∈ I2 := by decide
  obtain ⟨m1, d1, od1, p1, op1, D1, P1, f1, g1, k1, r1⟩ := Blocks_ran hK.wf hK.g hK.t hK.i h2
  have K1 := hK.keep k1
  obtain ⟨m2, d2, od2, p2, op2, D2, P2, f2, g2, k2, r2⟩ := Blocks_ran K1.wf K1.g K1.t K1.i h2
  have K2 := K1.keep k2
  have c2 : ((2 : Nat) : Int) = 2 := rfl
  rw [c2] at r1 r2
  have hdl := data_len S (X 2)
  have hpl := deepL_len S (X 2)
  generalize hdd : dataL S (X 2) = dl at *
  generalize hpp : deepL S (X 2) = pl at *
  obtain ⟨m3, e3, a3, k3, n3⟩ := addL_at K2.wf ty_int 0 []
  have k23 := k2.tf k3
  obtain ⟨m4, y, oy, e4, Y4, k4, ny⟩ := app_ints k3.wf a3 ((D1.keep k1.wf k23 fun _ _ => id)) (by omega)
  have k24 := k3.tf k4
  have k14 := k2.tf k24
  have K4 := K2.keep k24
  have D1' := D1.keep k1.wf k14 fun _ _ => id
  have P1' := P1.keep k1.wf k14 fun _ _ => id
  have D2' := D2.keep k2.wf k24 fun _ _ => id
  have P2' := P2.keep k2.wf k24 fun _ _ => id
  have s1 := same_ints (vn_sle (.inl D1')) (vn_sle (.inl D2')) (by omega)
  have s2 := same_ints (vn_sle (.inl P1')) (vn_sle (.inl P2')) (by omega)
  obtain ⟨m5, e5', a5, k5, n5⟩ := addL_at K4.wf ty_sint 4 [d1, p1, d2, p2]
  have K5 := K4.keep k5
  have hz0 : repl 0 [iv 0] = [] := rfl
  have hz4 : repl 4 [nils] = [nils, nils, nils, nils] := rfl
  have hn1 := k1.next
  have hn2 := k2.next
  have hn3 := k3.next
  have hn4 := k4.next
  simp -implicitDefEqProofs only [o_f1, r_f1_9, r_f1_10, r_f1_11, r_f1_12, e5, e6, r1.eq, r2.eq, hz0, hz4, e3, e4, s1.eq, s2.eq, D1.cells1, D2.cells1, P1.cells1, P2.cells1, e5', ↓reduceIte, Nat.reduceEqDiff, Nat.reduceAdd, Nat.reduceLeDiff, List.getElem?_cons_succ, List.getElem?_cons_zero, wA, wB, wC, wD]
  have hmem : ∀ {P : Lz → Prop} {zs : List Lz}, (∀ z ∈ zs, P z) → ∀ (j : Nat) (z : Lz), zs[j]? = some z → P z := fun h j z hj => h z (List.mem_of_getElem? hj)
  have hd1 : ∀ b, od1 = some b → b < m1.next := fun b e => by subst e; exact D1.kd.lt k1.wf
  have hp1 : ∀ b, op1 = some b → b < m1.next := fun b e => by subst e; exact P1.kd.lt k1.wf
  have hd2 : ∀ b, od2 = some b → m1.next ≤ b ∧ b < m2.next := fun b e => ⟨f2 b e, by subst e; exact D2.kd.lt k2.wf⟩
  have hp2 : ∀ b, op2 = some b → m1.next ≤ b ∧ b < m2.next := fun b e => ⟨(g2 b e).1, by subst e; exact P2.kd.lt k2.wf⟩
  have hF : ∀ b, Lz.F [⟨d1, dl.length, od1⟩, ⟨p1, pl.length, op1⟩, ⟨d2, dl.length, od2⟩, ⟨p2, pl.length, op2⟩] b → kd m5 b (ty_int + 1) ∧ b < m2.next := fun b ⟨j, z, h1, h2⟩ => by
    have hz := List.mem_of_getElem? h1
    simp only [List.mem_cons, List.not_mem_nil, or_false] at hz
    rcases hz with rfl | rfl | rfl | rfl
    · have h2 : od1 = some b := h2
      have := hd1 b h2
      subst h2
      exact ⟨(D1'.keep K4.wf k5 fun _ _ => id).kd, by omega⟩
    · have h2 : op1 = some b := h2
      have := hp1 b h2
      subst h2
      exact ⟨(P1'.keep K4.wf k5 fun _ _ => id).kd, by omega⟩
    · have h2 : od2 = some b := h2
      have := hd2 b h2
      subst h2
      exact ⟨(D2'.keep K4.wf k5 fun _ _ => id).kd, by omega⟩
    · have h2 : op2 = some b := h2
      have := hp2 b h2
      subst h2
      exact ⟨(P2'.keep K4.wf k5 fun _ _ => id).kd, by omega⟩
  refine ints_apart (zs := [⟨d1, dl.length, od1⟩, ⟨p1, pl.length, op1⟩, ⟨d2, dl.length, od2⟩, ⟨p2, pl.length, op2⟩]) K5.wf (by simp) a5 (hmem fun z hz => ?_) (hd_of ?_) (by simp) (by simp [Lz.S]; omega) (hmem fun z hz => ?_) fun m6 k6 => ?_
  · simp only [List.mem_cons, List.not_mem_nil, or_false] at hz
    rcases hz with rfl | rfl | rfl | rfl
    · exact ⟨_, .inl (D1'.keep K4.wf k5 fun _ _ => id)⟩
    · exact ⟨_, .inl (P1'.keep K4.wf k5 fun _ _ => id)⟩
    · exact ⟨_, .inl (D2'.keep K4.wf k5 fun _ _ => id)⟩
    · exact ⟨_, .inl (P2'.keep K4.wf k5 fun _ _ => id)⟩
  · simp only [List.pairwise_cons, List.mem_cons, List.not_mem_nil, or_false, forall_eq_or_imp, forall_eq, List.Pairwise.nil, and_true, false_implies, implies_true]
    refine ⟨⟨fun b h e => (g1 b e).2 h, fun b h e => ?_, fun b h e => ?_⟩, ⟨fun b h e => ?_, fun b h e => ?_⟩, fun b h e => (g2 b e).2 h⟩
    · have := hd1 b h; have := (hd2 b e).1; omega
    · have := hd1 b h; have := (hp2 b e).1; omega
    · have := hp1 b h; have := (hd2 b e).1; omega
    · have := hp1 b h; have := (hp2 b e).1; omega
  · simp only [List.mem_cons, List.not_mem_nil, or_false] at hz
    rcases hz with rfl | rfl | rfl | rfl <;> (dsimp only; omega)
  have hni : ∀ {b k : Nat}, kd m5 b k → k ≠ ty_int + 1 → ¬ Lz.F [⟨d1, dl.length, od1⟩, ⟨p1, pl.length, op1⟩, ⟨d2, dl.length, od2⟩, ⟨p2, pl.length, op2⟩] b := fun hk hne h => hne (hk.inj (hF _ h).1)
  have G6 := K5.g.keep K5.wf k6 (hni K5.g.g.kd (by decide)) (hni K5.g.o.kd (by decide)) (hni K5.g.l.kd (by decide)) (fun b hb => hni (K5.g.kdm b hb) (by decide)) (fun b hb => hni (K5.g.ow b hb) (by decide))
  have T6 := K5.t.keep K5.wf k6 (fun b hb => by rcases hb with hb | hb <;> exact hni hb (by decide))
  obtain ⟨m7, d3, od3, p3, op3, D3, P3, f3, g3, k7, r3⟩ := Blocks_ran k6.wf G6 T6 K5.i h2
  rw [hdd] at D3
  rw [c2] at r3
  have Y7 := ((Y4.keep K4.wf k5 fun _ _ => id).keep K5.wf k6 fun b hb h => by
    cases hb
    have := (hF _ h).2
    omega).keep k6.wf k7 fun _ _ => id
  have s3 := same_ints (vn_sle (.inl D3)) (vn_sle Y7) (by omega)
  simp -implicitDefEqProofs only [o_f1, r_f1_14, r_f1_15, e5, e6, r3.eq, s3.eq, ↓reduceIte, Nat.reduceEqDiff, List.getElem?_cons_succ, List.getElem?_cons_zero, wA, wB, wC, wD]
theorem wakes_ran {m : M} : Ran Tryz.prog tb 8 [] m (.b true) m := known_ran Tryz.func8 rfl
theorem small_ran {m : M} : Ran Tryz.prog tb 10 [] m smallV m := known_ran Tryz.func10 rfl
set_option maxRecDepth 20000 in
theorem keeps_spec {q : Option Blk} {x : AV} {zs : List Int} {o : Option Nat} (hx : RsAt (mS q) x (zs.map iv) o) : WpF Tryz.prog tb fn_f1 [x] (mS q) fun v _ => v = .b true := by
  obtain ⟨m1, hF, h0, r1⟩ := fresh_ran q
  have hlt := hF.g.lt hF.wf
  have k1 : Keep (mS q) m1 fun _ => False := ⟨by show 1 ≤ m1.next; omega, hF.wf, fun b hb _ => by
    have hb : b < 1 := hb
    obtain rfl : b = 0 := by omega
    rw [h0, get_mS, if_pos rfl]⟩
  have hx1 := hx.keep (wf_mS q) k1 fun _ _ => id
  obtain ⟨m2, ob, ol, od, of, hG, k2, n2, r2⟩ := begin_ran hF.wf hF.g0
  have r2 : Ran Tryz.prog tb fn_b2 [.ptr 176 0] m1 (.tuple [.ptr ob 0, iv 0]) m2 := r2
  have hT : TAt m2 180 178 176 := TAt.keep (A := A0 1) hF.t hF.wf k2 fun b hb e => by
    subst e
    rcases hb with hb | hb <;> exact absurd (hF.g.kd.inj hb) (by decide)
  have hx2 := hx1.keep hF.wf k2 fun b hb e => by
    have := hx.lt (wf_mS q) hb
    have : b < 1 := this
    have e : b = 176 := e
    omega
  have hK : Ks m2 x zs o _ (S0 1) (own0 1) (X0 1) 180 178 := ⟨k2.wf, hG, hT, inv0 (.inl rfl), hx2⟩
  refine WpF.go at_f1 ?_
  simp -implicitDefEqProofs only [o_f1, r_f1_0, r_f1_1, r_f1_3, r_f1_4, r_f1_5, wakes_ran.eq, small_ran.eq, r1.eq, r2.eq, ↓reduceIte, Nat.reduceEqDiff, List.getElem?_cons_succ, List.getElem?_cons_zero, wA, wB, wC, wD]
  generalize hR : SK Tryz.prog tb k_f1_18 (FK Tryz.prog [ResultVar.tmp 2] fun v _ => v = AV.b true) = RR
  refine GX_loop (fun j fr mk => ∃ n S own X, n ≤ zs.length ∧ j = zs.length - n ∧ (ev (tm 0) fr = x ∧ ev (tm 5) fr = .ptr 180 0 ∧ ev (tm 6) fr = .ptr ob 0 ∧ ev (tm 8) fr = iv (n : Nat)) ∧ Ks mk x zs o ⟨176, ob, 128, 3, 172, 419, 175, ol, od, of, 127⟩ S own X 180 178) (k := zs.length)
    ⟨0, _, _, _, Nat.zero_le _, rfl, by simp -implicitDefEqProofs only [nc0, ev_tm, ↓reduceIte, Nat.reduceEqDiff, nc0, and_self], hK⟩ ?_
  clear hK hx2 hT r2 n2 k2 hG hx1 k1 hlt r1 h0 hF
  rintro j fr mk ⟨n, S, own, X, hn, rfl, ⟨e0, e5, e6, e8⟩, hK⟩
  have hl : lenK false x = some zs.length := by rw [hK.x.len, List.length_map]
  by_cases hlt : n < zs.length
  · by_cases h6 : n < 6
    · have hz : (zs.map iv)[n]? = some (iv zs[n]) := by rw [List.getElem?_map, List.getElem?_eq_getElem hlt]; rfl
      generalize zs[n] = z at hz
      obtain ⟨b, cap, lim, hxx, _, hr⟩ := hK.x.elem hz
      rw [List.length_map] at hxx
      have q1 := v_iaS (m := mk) 1 b 0 zs.length cap lim hlt
      rw [Nat.zero_add, Nat.mul_one] at q1
      rw [hxx] at e0
      simp -implicitDefEqProofs only [o_f1, r_f1_6, r_f1_8, e0, e5, e6, e8, show ((n : Int) < (zs.length : Int)) = True from eq_true (by omega), show ((n : Int) < 6) = True from eq_true (by omega), q1, hr, ↓reduceIte, Nat.reduceEqDiff, wA, wB, wC, wD]
      refine hK.make (i := 2) (by decide) z fun m' T own' Y a e f hK' => ?_
      simp -implicitDefEqProofs only [o_f1, r_f1_7, hxx, e8, b_add ty_int (show -9223372036854775808 ≤ (n : Int) + 1 by omega) (show (n : Int) + 1 ≤ 9223372036854775807 by omega), ↓reduceIte, Nat.reduceEqDiff, List.getElem?_cons_succ, List.getElem?_cons_zero, wA, wB, wC, wD]
      refine LK_n (k' := zs.length - (n + 1)) (by omega) ⟨n + 1, T, own', Y, by omega, rfl, by simp -implicitDefEqProofs only [e0, e5, e6, show (n : Int) + 1 = ((n + 1 : Nat) : Int) from rfl, ev_tm, ↓reduceIte, Nat.reduceEqDiff, and_self], ?_⟩
      rw [← hxx]
      exact hK'
    · simp -implicitDefEqProofs only [o_f1, r_f1_6, e0, e8, hl, show ((n : Int) < (zs.length : Int)) = True from eq_true (by omega), show ((n : Int) < 6) = False from eq_false (by omega), ↓reduceIte, Nat.reduceEqDiff, wA, wB, wC, wD]
      rw [← hR]
      refine keeps_rest hK ?_ ?_ <;> simp -implicitDefEqProofs only [e5, e6, ev_tm, ↓reduceIte, Nat.reduceEqDiff]
  · simp -implicitDefEqProofs only [o_f1, r_f1_6, e0, e8, hl, show ((n : Int) < (zs.length : Int)) = False from eq_false (by omega), ↓reduceIte, Nat.reduceEqDiff, wA, wB, wC, wD]
    rw [← hR]
    refine keeps_rest hK ?_ ?_ <;> simp -implicitDefEqProofs only [e5, e6, ev_tm, ↓reduceIte, Nat.reduceEqDiff]
end Go.Proofs.YtooooiidpaecmaaGreat
