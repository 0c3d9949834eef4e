import Derived.Test.YtooooiidpaecmaaGreatGr
import Derived.Test.YtooooiidpaecmaaGreatAmMv
import Derived.Test.YtooooiidpaecmaaGreatGu
import Derived.Test.YtooooiidpaecmaaGreatAmSt
set_option linter.unusedVariables false
set_option linter.unusedSimpArgs false
/- Lists that have memory of their own: skerryref01's IntsApart. -/
namespace Go.Proofs.YtooooiidpaecmaaGreat
open Go Go.Am
structure Lz where
 x : AV
 len : Nat
 o : Option Nat
def Lz.S (zs : List Lz) (i : Nat) : Nat := ((zs.take i).map (·.len)).sum
theorem Lz.S_zero (zs : List Lz) : Lz.S zs 0 = 0 := rfl
theorem Lz.S_succ {zs : List Lz} {i : Nat} {z : Lz} (h : zs[i]? = some z) : Lz.S zs (i + 1) = Lz.S zs i + z.len := by
 unfold Lz.S
 rw [List.take_add_one, h, List.map_append, List.sum_append]; simp
theorem Lz.S_le (zs : List Lz) {i : Nat} (h : i ≤ zs.length) : Lz.S zs i ≤ Lz.S zs zs.length := by
 have : ∀ d i, i + d = zs.length → Lz.S zs i ≤ Lz.S zs zs.length := by
  intro d
  induction d with
  | zero => intro i hi; rw [show i = zs.length by omega]; exact Nat.le_refl _
  | succ d ih =>
   intro i hi
   have hz : zs[i]? = some (zs[i]'(by omega)) := List.getElem?_eq_getElem _
   have := Lz.S_succ hz
   have := ih (i + 1) (by omega)
   omega
 exact this (zs.length - i) i (by omega)
def Lz.F (zs : List Lz) (b : Nat) : Prop := ∃ (j : Nat) (z : Lz), zs[j]? = some z ∧ z.o = some b
noncomputable def finI (zs : List Lz) (j len : Nat) : List AV := (List.range len).map fun t => ivn (Lz.S zs j + t)
noncomputable def extI (zs : List Lz) (i k j : Nat) : List AV := if j < i then (List.range 6).map fun u => ivn (Lz.S zs zs.length + 6 * j + u) else if j = i then (List.range k).map fun u => ivn (Lz.S zs zs.length + 6 * j + u) else []
section
variable {m : M}
theorem set_slI {x : AV} {len : Nat} {cells : List AV} {o : Option Nat} (h : SlE m ty_int x len cells o) (hw : Wf m) {k : Nat} (hk : k < len) (v : AV) :
  ∃ b cap m', x = .slice b 0 len cap false ∧ o = some b ∧ m.wr b k [v] = some m' ∧ SlE m' ty_int x len (cells.set k v) o ∧ Keep m m' (fun z => z = b) := by
 rcases h with h | ⟨_, _, rfl, _⟩
 case inr => omega
 cases h with
 | nil => omega
 | @row b len cap cells junk xt h hl hj hc h0 =>
  obtain ⟨m', e, h', k', _⟩ := h.st hw k [v] rfl (by simp; omega)
  refine ⟨b, cap, m', rfl, rfl, e, .inl (.row (xt := xt) (junk := junk) ?_ (by simpa using hl) hj hc h0), k'⟩
  have : splice (cells ++ junk) k [v] = cells.set k v ++ junk := by
   apply List.ext_getElem?
   intro j
   rw [splice_get (by simp; omega)]
   simp only [List.length_cons, List.length_nil]
   by_cases hj : j < cells.length
   ·rw [List.getElem?_append_left (show j < (cells.set k v).length by rw [List.length_set]; exact hj), List.getElem?_set, List.getElem?_append_left hj]
    by_cases e : k = j
    ·subst e; rw [if_pos (show k ≤ k ∧ k < k + (0 + 1) by omega), if_pos rfl, if_pos hj, Nat.sub_self]; rfl
    ·rw [if_neg (show ¬ (k ≤ j ∧ j < k + (0 + 1)) by omega), if_neg e]
   ·rw [List.getElem?_append_right (show (cells.set k v).length ≤ j by rw [List.length_set]; omega), if_neg (show ¬ (k ≤ j ∧ j < k + (0 + 1)) by omega), List.getElem?_append_right (by omega), List.length_set]
  rwa [this] at h'
def W1I (m0 : M) (B : Nat) (zs : List Lz) (i k : Nat) (m : M) : Prop :=
 At m B ty_sint true (zs.map (·.x)) ∧ (∀ j z, zs[j]? = some z → ∃ c, SlE m ty_int z.x z.len c z.o ∧ ∀ t, (j < i ∧ t < z.len ∨ j = i ∧ t < k) → c[t]? = some (ivn (Lz.S zs j + t))) ∧ Keep m0 m (Lz.F zs)
structure W2I (m0 : M) (B : Nat) (zs : List Lz) (i k : Nat) (gs : Nat → AV) (own : Nat → List Nat) (gv : AV) (go : Option Nat) (m : M) : Prop where
 out : At m B ty_sint true (zs.map (·.x))
 ea : ∀ j z, zs[j]? = some z → GrAt m ty_int z.x (finI zs j z.len) (gs j) (finI zs j z.len ++ extI zs i k j) (own j)
 dis : ∀ j j' b, j ≠ j' → j < zs.length → j' < zs.length → b ∈ own j → b ∉ own j'
 ob : ∀ j b, j < zs.length → b ∈ own j → b ≠ B ∧ go ≠ some b
 old : ∀ j b, j < zs.length → b ∈ own j → (∃ z, zs[j]? = some z ∧ z.o = some b) ∨ m0.next ≤ b
 gr : SlAt m ty_sint 1 gv i ((List.range i).map gs) go
 gn : ∀ b, go = some b → m0.next ≤ b ∧ b ≠ B
 un : ∀ j z, zs[j]? = some z → i ≤ j → (k = 0 ∨ i < j) → gs j = z.x
 kp : Keep m0 m (Lz.F zs)
theorem fin_getI {zs : List Lz} {j len t : Nat} (h : t < len) : (finI zs j len)[t]? = some (ivn (Lz.S zs j + t)) := by
 unfold finI
 rw [List.getElem?_map, List.getElem?_range h]; rfl
theorem fin_lenI {zs : List Lz} {j len : Nat} : (finI zs j len).length = len := by unfold finI; simp
set_option maxRecDepth 20000 in
set_option maxHeartbeats 4000000 in
theorem ints_apart {B : Nat} {zs : List Lz} (hw : Wf m) (hn : zs ≠ []) (hB : At m B ty_sint true (zs.map (·.x))) (hz : ∀ (j : Nat) (z : Lz), zs[j]? = some z → ∃ c, SlE m ty_int z.x z.len c z.o)
  (hd : ∀ (i j : Nat) (z z' : Lz) (b : Nat), zs[i]? = some z → zs[j]? = some z' → z.o = some b → z'.o = some b → i = j) (hnl : zs.length ≤ 1000) (hS : Lz.S zs zs.length + 6 * zs.length ≤ 1000000000000000) (hr : ∀ (j : Nat) (z : Lz), zs[j]? = some z → (z.len + 6) * 8 ≤ 140737488355328) {Q : AV → M → Prop}
  (hQ : ∀ m', Keep m m' (Lz.F zs) → Q (.b true) m') : WpF Tryz.prog tb fn_g4 [.slice B 0 zs.length zs.length false] m Q := by
 have hko : ∀ {m' : M} {z : Lz} {c : List AV} {b : Nat}, At m' B ty_sint true (zs.map (·.x)) → SlE m' ty_int z.x z.len c z.o → z.o = some b → b ≠ B := fun hB hz hb => by
  rw [hb] at hz
  exact hz.kd.ne hB.kd
 refine WpF.go at_g4 ?_
 simp -implicitDefEqProofs only [o_g4, r_g4_0, r_g4_1, r_g4_2, r_g4_0, r_g4_1, r_g4_2, wA, wB, wC, wD]
 /- the lists are written over -/
 refine GX_loop (fun j fr mk => ∃ i, i ≤ zs.length ∧ j = zs.length - i ∧ (ev (tm 0) fr = .slice B 0 zs.length zs.length false ∧ ev (tm 3) fr = iv ((Lz.S zs i : Nat) : Int) ∧ ev (tm 4) fr = iv i) ∧ W1I m B zs i 0 mk) (k := zs.length) ⟨0, Nat.zero_le _, rfl, by simp -implicitDefEqProofs only [Lz.S_zero, ev_tm, ↓reduceIte, Nat.reduceEqDiff, nc0, and_self], hB, fun j z hj => by
  obtain ⟨c, hc⟩ := hz j z hj
  exact ⟨c, hc, fun t ht => by omega⟩, Keep.refl hw _⟩ ?_
 rintro j fr mk ⟨i, hi, rfl, ⟨e0, e3, e4⟩, hB1, hz1, k1⟩
 have hw1 := k1.wf
 by_cases hlt : i < zs.length
 ·have hzi : zs[i]? = some zs[i] := List.getElem?_eq_getElem hlt
  generalize zs[i] = z at hzi
  have hSi := Lz.S_succ hzi
  have hSb := Lz.S_le zs (i := i) (by omega)
  have hSb1 := Lz.S_le zs (i := i + 1) (by omega)
  simp -implicitDefEqProofs only [o_g4, r_g4_3, r_g4_5, r_g4_3, r_g4_5, e0, e4, show ((i : Int) < (zs.length : Int)) = True from eq_true (by omega), ↓reduceIte, Nat.reduceEqDiff, wA, wB, wC, wD]
  refine GX_loop (fun j fr mk => ∃ k, k ≤ z.len ∧ j = z.len - k ∧ (ev (tm 0) fr = .slice B 0 zs.length zs.length false ∧ ev (tm 3) fr = iv ((Lz.S zs i + k : Nat) : Int) ∧ ev (tm 4) fr = iv i ∧ ev (tm 5) fr = iv k) ∧ W1I m B zs i k mk) (k := z.len) ⟨0, Nat.zero_le _, rfl, by simp -implicitDefEqProofs only [e0, e3, e4, ev_tm, ↓reduceIte, Nat.reduceEqDiff, Nat.add_zero, nc0, and_self], hB1, hz1, k1⟩ ?_
  clear e0 e3 e4 hB1 hz1 k1 hw1
  rintro j fr mk ⟨k, hk, rfl, ⟨e0, e3, e4, e5⟩, hB1, hz1, k1⟩
  have hw1 := k1.wf
  obtain ⟨c, hc, hct⟩ := hz1 i z hzi
  have hri : mk.rd B i = some z.x := by rw [hB1.rd, List.getElem?_map, hzi]; rfl
  by_cases hkl : k < z.len
  ·obtain ⟨b, cap, m2, hx, ho, e2, hc2, k2⟩ := set_slI hc hw1 hkl (ivn (Lz.S zs i + k))
   have hri' : mk.rd B i = some (.slice b 0 z.len cap false) := by rw [hri, hx]
   have hC : ((Lz.S zs i + k : Nat) : Int) + 1 = ((Lz.S zs i + (k + 1) : Nat) : Int) := by omega
   simp -implicitDefEqProofs only [o_g4, r_g4_6, r_g4_8, r_g4_9, r_g4_7, r_g4_6, r_g4_8, r_g4_9, r_g4_7, e0, e3, e4, e5, v_iaS 1 B 0 zs.length zs.length false hlt, Nat.mul_one, hri', show ((k : Int) < (z.len : Int)) = True from eq_true (by omega), v_iaS 1 b 0 z.len cap false hkl, e2, aD ((Lz.S zs i + k : Nat) : Int) 1, aD (k : Int) 1, ↓reduceIte, Nat.reduceEqDiff, wA, wB, wC, wD]
   refine LK_n (k' := z.len - (k + 1)) (by omega) ⟨k + 1, by omega, rfl, by simp -implicitDefEqProofs only [e0, e4, hC, show (k : Int) + 1 = ((k + 1 : Nat) : Int) from rfl, ev_tm, ↓reduceIte, Nat.reduceEqDiff, and_self], hB1.keep hw1 k2 (fun e => hko hB1 hc ho e.symm), fun j z' hj => ?_, k1.trans k2 fun x hx e => ⟨i, z, hzi, by rw [ho, e]⟩⟩
   by_cases hji : j = i
   ·subst hji
    rw [hzi] at hj
    cases hj
    refine ⟨_, hc2, fun t ht => ?_⟩
    have hcl := hc.count
    rw [List.getElem?_set]
    by_cases htk : k = t
    ·subst htk; rw [if_pos rfl, if_pos (by omega)]
    ·rw [if_neg htk]; exact hct t (by omega)
   ·obtain ⟨c', hc', hct'⟩ := hz1 j z' hj
    exact ⟨c', hc'.keep hw1 k2 fun b' hb' e => hji (hd _ _ _ _ b hj hzi (e ▸ hb') ho), fun t ht => hct' t (by omega)⟩
  ·have hke : k = z.len := by omega
   subst hke
   simp -implicitDefEqProofs only [o_g4, r_g4_6, r_g4_4, r_g4_6, r_g4_4, e0, e4, e5, v_iaS 1 B 0 zs.length zs.length false hlt, Nat.mul_one, hri, hc.len, show ((z.len : Int) < (z.len : Int)) = False from eq_false (by omega), aD (i : Int) 1, ↓reduceIte, Nat.reduceEqDiff, wA, wB, wC, wD]
   refine LK_n (k' := zs.length - (i + 1)) (by omega) ⟨i + 1, by omega, rfl, by simp -implicitDefEqProofs only [e0, e3, hSi, show (i : Int) + 1 = ((i + 1 : Nat) : Int) from rfl, ev_tm, ↓reduceIte, Nat.reduceEqDiff, and_self], hB1, fun j z' hj => ?_, k1⟩
   obtain ⟨c', hc', hct'⟩ := hz1 j z' hj
   refine ⟨c', hc', fun t ht => hct' t ?_⟩
   by_cases hji : j = i
   ·subst hji
    rw [hzi] at hj; cases hj
    omega
   ·omega
 have hin : i = zs.length := by omega
 subst hin
 simp -implicitDefEqProofs only [o_g4, r_g4_3, r_g4_10, r_g4_11, r_g4_12, r_g4_3, r_g4_10, r_g4_11, r_g4_12, e0, e3, e4, ↓reduceIte, Nat.reduceEqDiff, wA, wB, wC, wD]
 generalize hN : Lz.S zs zs.length = N at *
 /- the lists grow -/
 have h2 : W2I m B zs 0 0 (fun j => (zs[j]?.map (·.x)).getD nils) (fun j => ((zs[j]?.bind (·.o)).toList)) nils none mk := by
  refine ⟨hB1, fun j z hj => ?_, fun j j' b hne hj hj' hb hb' => ?_, fun j b hj hb => ?_, fun j b hj hb => ?_, .nil, fun b h => (by cases h), fun j z hj _ _ => by rw [hj]; rfl, k1⟩
  ·obtain ⟨c, hc, hct⟩ := hz1 j z hj
   have hjl := (List.getElem?_eq_some_iff.1 hj).1
   have hcf : c = finI zs j z.len := List.ext_getElem? fun t => by
    have hcl := hc.count
    by_cases ht : t < z.len
    ·rw [fin_getI ht]; exact hct t (.inl ⟨hjl, ht⟩)
    ·rw [List.getElem?_eq_none (by omega), List.getElem?_eq_none (by rw [fin_lenI]; omega)]
   subst hcf
   have := GrAt.begin hc
   rw [hj]
   show GrAt mk ty_int z.x _ z.x (finI zs j z.len ++ extI zs 0 0 j) z.o.toList
   rw [show extI zs 0 0 j = [] by unfold extI; split <;> (try split) <;> first | omega | rfl, List.append_nil]
   exact this
  ·have hzj : zs[j]? = some zs[j] := List.getElem?_eq_getElem hj
   have hzj' : zs[j']? = some zs[j'] := List.getElem?_eq_getElem hj'
   rw [hzj] at hb
   rw [hzj'] at hb'
   exact hne (hd _ _ _ _ b hzj hzj' (by simpa using hb) (by simpa using hb'))
  ·have hzj : zs[j]? = some zs[j] := List.getElem?_eq_getElem hj
   rw [hzj] at hb
   obtain ⟨c, hc, _⟩ := hz1 j _ hzj
   exact ⟨hko hB1 hc (by simpa using hb), by simp⟩
  ·have hzj : zs[j]? = some zs[j] := List.getElem?_eq_getElem hj
   rw [hzj] at hb
   exact .inl ⟨_, hzj, by simpa using hb⟩
 clear hB1 hz1 k1 hw1
 refine GX_loop (fun j fr mk => ∃ i gs own gv go, i ≤ zs.length ∧ j = zs.length - i ∧ (ev (tm 0) fr = .slice B 0 zs.length zs.length false ∧ ev (tm 6) fr = gv ∧ ev (tm 7) fr = iv ((N + 6 * i : Nat) : Int) ∧ ev (tm 8) fr = iv i) ∧ W2I m B zs i 0 gs own gv go mk) (k := zs.length) ⟨0, _, _, nils, none, Nat.zero_le _, rfl, by simp -implicitDefEqProofs only [e0, ev_tm, ↓reduceIte, Nat.reduceEqDiff, Nat.reduceMul, Nat.add_zero, nc0, and_self], h2⟩ ?_
 clear h2 e0 e3 e4
 rintro j fr mk ⟨i, gs, own, gv, go, hi, rfl, ⟨e0, e6, e7, e8⟩, h2⟩
 by_cases hlt : i < zs.length
 ·have hzi : zs[i]? = some zs[i] := List.getElem?_eq_getElem hlt
  generalize zs[i] = z at hzi
  have hri : mk.rd B i = some z.x := by rw [h2.out.rd, List.getElem?_map, hzi]; rfl
  have hg0 := h2.un i z hzi (Nat.le_refl _) (.inl rfl)
  simp -implicitDefEqProofs only [o_g4, r_g4_13, r_g4_15, r_g4_16, r_g4_13, r_g4_15, r_g4_16, e0, e8, show ((i : Int) < (zs.length : Int)) = True from eq_true (by omega), v_iaS 1 B 0 zs.length zs.length false hlt, Nat.mul_one, hri, ↓reduceIte, Nat.reduceEqDiff, wA, wB, wC, wD]
  refine GX_loop (fun j fr mk => ∃ k gs own, k ≤ 6 ∧ j = 6 - k ∧ (ev (tm 0) fr = .slice B 0 zs.length zs.length false ∧ ev (tm 6) fr = gv ∧ ev (tm 7) fr = iv ((N + 6 * i + k : Nat) : Int) ∧ ev (tm 8) fr = iv i ∧ ev (tm 9) fr = gs i ∧ ev (tm 10) fr = iv k) ∧ W2I m B zs i k gs own gv go mk) (k := 6) ⟨0, gs, own, Nat.zero_le _, rfl, by simp -implicitDefEqProofs only [e0, e6, e7, e8, hg0, ev_tm, ↓reduceIte, Nat.reduceEqDiff, Nat.add_zero, nc0, and_self], h2⟩ ?_
  clear e0 e6 e7 e8 h2 hri hg0
  rintro j fr mk ⟨k, gs, own, hk, rfl, ⟨e0, e6, e7, e8, e9, e10⟩, h2⟩
  have hw2 := h2.kp.wf
  have hga := h2.ea i z hzi
  by_cases hk6 : k < 6
  ·have hgl : (finI zs i z.len ++ extI zs i k i).length = z.len + k := by
    rw [List.length_append, fin_lenI]; unfold extI; rw [if_neg (by omega), if_pos rfl]; simp
   have hzl : z.len ≤ N := by rw [← hN]; have := Lz.S_succ hzi; have := Lz.S_le zs (i := i + 1) (by omega); omega
   obtain ⟨m3, e3', ha3, k3, n3⟩ := addL_at hw2 ty_int 1 [ivn (N + 6 * i + k)]
   have hw3 := k3.wf
   have hga3 := hga.keep hw2 k3 fun _ _ h => h
   have hy : Rds m3 (.slice mk.next 0 1 1 false) 1 1 [ivn (N + 6 * i + k)] := (SlAt.row (xt := true) (junk := []) (cells := [ivn (N + 6 * i + k)]) (len := 1) (cap := 1) ha3 rfl rfl (Nat.le_refl _) (by omega)).src
   obtain ⟨g', m4, own', e4', hga4, k4, ho4⟩ := hga3.app (bytes := 8) (z := [iv 0]) hw3 hy (room_le (by rw [hgl]; have := hr i z hzi; omega) (by omega) (by omega))
   have k34 : Keep mk m4 fun b => b ∈ own i := k3.ft k4
   have hltm : ∀ j z b, zs[j]? = some z → b ∈ own j → b < mk.next := fun j z b hj hb => (h2.ea j z hj).lt hw2 hb
   have hn3' := k3.next
   have hwB := h2.out.lt hw2
   have hC : ((N + 6 * i + k : Nat) : Int) + 1 = ((N + 6 * i + (k + 1) : Nat) : Int) := by omega
   simp -implicitDefEqProofs only [o_g4, r_g4_17, r_g4_19, r_g4_20, r_g4_18, r_g4_17, r_g4_19, r_g4_20, r_g4_18, e7, e9, e10, show ((k : Int) < 6) = True from eq_true (by omega), e3', e4', aD ((N + 6 * i + k : Nat) : Int) 1, aD (k : Int) 1, ↓reduceIte, Nat.reduceEqDiff, Nat.reduceLeDiff, wA, wB, wC, wD]
   refine LK_n (k' := 6 - (k + 1)) (by omega) ⟨k + 1, fun j => if j = i then g' else gs j, fun j => if j = i then own' else own j, by omega, rfl, by simp -implicitDefEqProofs only [e0, e6, e8, hC, show (k : Int) + 1 = ((k + 1 : Nat) : Int) from rfl, ev_tm, ↓reduceIte, Nat.reduceEqDiff, and_self], ⟨h2.out.keep hw2 k34 fun hb => (h2.ob i B hlt hb).1 rfl, fun j z' hj => ?_, fun j j' b hne hj hj' hb hb' => ?_, fun j b hj hb => ?_, fun j b hj hb => ?_, ?_, h2.gn, fun j z' hj hij hor => ?_, ?_⟩⟩
   ·by_cases hji : j = i
    ·subst hji
     rw [hzi] at hj; cases hj
     rw [if_pos rfl, if_pos rfl]
     have : extI zs j (k + 1) j = extI zs j k j ++ [ivn (N + 6 * j + k)] := by
      unfold extI
      rw [if_neg (by omega), if_pos rfl, if_neg (by omega), if_pos rfl, List.range_succ, List.map_append, hN]; rfl
     rw [this, ← List.append_assoc]
     exact hga4
    ·rw [if_neg hji, if_neg hji]
     have : extI zs i (k + 1) j = extI zs i k j := by unfold extI; rw [if_neg hji, if_neg hji]
     rw [this]
     exact (h2.ea j z' hj).keep hw2 k34 fun b hb hb' => h2.dis j i b hji (List.getElem?_eq_some_iff.1 hj).1 hlt hb hb'
   ·have key : ∀ j b, j < zs.length → b ∈ (if j = i then own' else own j) → (b ∈ own j) ∨ (j = i ∧ mk.next ≤ b) := fun j b hj hb => by
     by_cases hji : j = i
     ·rw [if_pos hji] at hb
      rcases ho4 b hb with h | h
      ·exact .inl (hji ▸ h)
      ·exact .inr ⟨hji, by omega⟩
     ·rw [if_neg hji] at hb; exact .inl hb
    have hzj : zs[j]? = some zs[j] := List.getElem?_eq_getElem hj
    have hzj' : zs[j']? = some zs[j'] := List.getElem?_eq_getElem hj'
    rcases key j b hj hb with h | ⟨h, h3⟩ <;> rcases key j' b hj' hb' with h4 | ⟨h4, h5⟩
    ·exact h2.dis j j' b hne hj hj' h h4
    ·have := hltm _ _ _ hzj h; omega
    ·have := hltm _ _ _ hzj' h4; omega
    ·exact hne (h.trans h4.symm)
   ·by_cases hji : j = i
    ·rw [if_pos hji] at hb
     rcases ho4 b hb with h | h
     ·exact h2.ob i b hlt h
     ·refine ⟨by omega, fun e => ?_⟩
      have := h2.gr.blk_lt hw2 e
      omega
    ·rw [if_neg hji] at hb; exact h2.ob j b hj hb
   ·by_cases hji : j = i
    ·rw [if_pos hji] at hb
     rcases ho4 b hb with h | h
     ·subst hji; exact h2.old j b hj h
     ·have := h2.kp.next
      exact .inr (by omega)
    ·rw [if_neg hji] at hb; exact h2.old j b hj hb
   ·have hm : (List.range i).map (fun j => if j = i then g' else gs j) = (List.range i).map gs := List.map_congr_left fun j hj => by
     have := List.mem_range.1 hj
     rw [if_neg (by omega)]
    rw [hm]
    exact h2.gr.keep hw2 k34 fun b hb hb' => (h2.ob i b hlt hb').2 hb
   ·rw [if_neg (by omega)]
    exact h2.un j z' hj hij (.inr (by omega))
   ·refine h2.kp.trans k34 fun b hb hb' => ?_
    rcases h2.old i b hlt hb' with ⟨z', h, h'⟩ | h
    ·exact ⟨i, z', h, h'⟩
    ·omega
  ·have hke : k = 6 := by omega
   subst hke
   obtain ⟨m3, e3', ha3, k3, n3⟩ := addL_at hw2 ty_sint 1 [gs i]
   have hw3 := k3.wf
   have hy : Rds m3 (.slice mk.next 0 1 1 false) 1 1 [gs i] := (SlAt.row (xt := true) (junk := []) (cells := [gs i]) (len := 1) (cap := 1) ha3 rfl rfl (Nat.le_refl _) (by omega)).src
   obtain ⟨x4, m4, o4, e4', hs4, k4, ho4⟩ := (h2.gr.keep hw2 k3 fun _ _ h => h).append (bytes := 24) (z := [nils]) hw3 hy (room_of (by omega) (by omega))
   have k34 : Keep mk m4 fun b => go = some b := k3.ft k4
   have hwB := h2.out.lt hw2
   have hn3' := k3.next
   have hC : ((N + 6 * i + 6 : Nat) : Int) = ((N + 6 * (i + 1) : Nat) : Int) := by omega
   simp -implicitDefEqProofs only [o_g4, r_g4_17, r_g4_21, r_g4_14, r_g4_17, r_g4_21, r_g4_14, e6, e8, e9, e10, show (((6 : Nat) : Int) < 6) = False from eq_false (by omega), hga.gcells1, e3', e4', aD (i : Int) 1, ↓reduceIte, Nat.reduceEqDiff, Nat.reduceSub, Nat.reduceLeDiff, wA, wB, wC, wD]
   refine LK_n (k' := zs.length - (i + 1)) (by omega) ⟨i + 1, gs, own, x4, o4, by omega, rfl, by simp -implicitDefEqProofs only [e0, e7, hC, show (i : Int) + 1 = ((i + 1 : Nat) : Int) from rfl, ev_tm, ↓reduceIte, Nat.reduceEqDiff, and_self], ⟨h2.out.keep hw2 k34 fun hb => (h2.gn B hb).2 rfl, fun j z' hj => ?_, h2.dis, fun j b hj hb => ⟨(h2.ob j b hj hb).1, fun e => ?_⟩, h2.old, ?_, fun b hb => ?_, fun j z' hj hij _ => h2.un j z' hj (by omega) (.inr (by omega)), ?_⟩⟩
   ·have : extI zs (i + 1) 0 j = extI zs i 6 j := by
     unfold extI
     by_cases h1 : j < i
     ·rw [if_pos (by omega), if_pos h1]
     ·by_cases h3 : j = i
      ·rw [if_pos (by omega), if_neg h1, if_pos h3]
      ·rw [if_neg (by omega), if_neg h1, if_neg h3]; split <;> rfl
    rw [this]
    exact (h2.ea j z' hj).keep hw2 k34 fun b hb hb' => (h2.ob j b (List.getElem?_eq_some_iff.1 hj).1 hb).2 hb'
   ·rcases ho4 with h | ⟨b', h, h5, _⟩
    ·rw [h] at e; exact (h2.ob j b hj hb).2 e
    ·rw [h] at e; cases e
     have := (h2.ea j _ (List.getElem?_eq_getElem hj)).lt hw2 hb
     omega
   ·rw [List.range_succ, List.map_append]; exact hs4
   ·rcases ho4 with h | ⟨b', h, h5, _⟩
    ·rw [h] at hb; exact h2.gn b hb
    ·rw [h] at hb; cases hb
     have := h2.kp.next
     exact ⟨by omega, by omega⟩
   ·refine h2.kp.trans k34 fun b hb hb' => ?_
    have := (h2.gn b hb').1
    omega
 have hin : i = zs.length := by omega
 subst hin
 simp -implicitDefEqProofs only [o_g4, r_g4_13, r_g4_22, r_g4_23, r_g4_13, r_g4_22, r_g4_23, e0, e8, ↓reduceIte, Nat.reduceEqDiff, wA, wB, wC, wD]
 have hw2 := h2.kp.wf
 have hfl : ∀ j z, zs[j]? = some z → (finI zs j z.len ++ extI zs zs.length 0 j).length = z.len + 6 ∧ z.len ≤ N := fun j z hj => by
  have hjl := (List.getElem?_eq_some_iff.1 hj).1
  refine ⟨?_, ?_⟩
  ·rw [List.length_append, fin_lenI]; unfold extI; rw [if_pos hjl]; simp
  ·rw [← hN]; have := Lz.S_succ hj; have := Lz.S_le zs (i := j + 1) (by omega); omega
 /- they are as they were written -/
 refine GX_loop (fun j fr mm => ∃ i, i ≤ zs.length ∧ j = zs.length - i ∧ (ev (tm 0) fr = .slice B 0 zs.length zs.length false ∧ ev (tm 3) fr = iv ((Lz.S zs i : Nat) : Int) ∧ ev (tm 6) fr = gv ∧ ev (tm 11) fr = iv i) ∧ mm = mk) (k := zs.length) ⟨0, Nat.zero_le _, rfl, by simp -implicitDefEqProofs only [e0, e6, Lz.S_zero, ev_tm, ↓reduceIte, Nat.reduceEqDiff, nc0, and_self], rfl⟩ ?_
 clear e0 e6 e7 e8
 rintro j fr mm ⟨i, hi, rfl, ⟨e0, e3, e6, e11⟩, rfl⟩
 by_cases hlt : i < zs.length
 ·have hzi : zs[i]? = some zs[i] := List.getElem?_eq_getElem hlt
  generalize zs[i] = z at hzi
  have hri : mm.rd B i = some z.x := by rw [h2.out.rd, List.getElem?_map, hzi]; rfl
  have hga := h2.ea i z hzi
  obtain ⟨hl1, hl2⟩ := hfl i z hzi
  have hSi := Lz.S_succ hzi
  have hSb := Lz.S_le zs (i := i + 1) (by omega)
  have hlx := hga.lenx
  rw [fin_lenI] at hlx
  simp -implicitDefEqProofs only [o_g4, r_g4_24, r_g4_26, r_g4_24, r_g4_26, e0, e11, show ((i : Int) < (zs.length : Int)) = True from eq_true (by omega), ↓reduceIte, Nat.reduceEqDiff, wA, wB, wC, wD]
  refine GX_loop (fun j fr m5 => ∃ k, k ≤ z.len ∧ j = z.len - k ∧ (ev (tm 0) fr = .slice B 0 zs.length zs.length false ∧ ev (tm 3) fr = iv ((Lz.S zs i + k : Nat) : Int) ∧ ev (tm 6) fr = gv ∧ ev (tm 11) fr = iv i ∧ ev (tm 12) fr = iv k) ∧ m5 = mm) (k := z.len) ⟨0, Nat.zero_le _, rfl, by simp -implicitDefEqProofs only [e0, e3, e6, e11, ev_tm, ↓reduceIte, Nat.reduceEqDiff, Nat.add_zero, nc0, and_self], rfl⟩ ?_
  clear e0 e3 e6 e11
  rintro j fr m5 ⟨k, hk, rfl, ⟨e0, e3, e6, e11, e12⟩, rfl⟩
  by_cases hkl : k < z.len
  ·obtain ⟨b, cap, hx, _, hr⟩ := hga.rdx (by rw [hl1, fin_lenI]; omega) (fin_getI (zs := zs) (j := i) hkl)
   rw [fin_lenI] at hx
   have hri' : m5.rd B i = some (.slice b 0 z.len cap false) := by rw [hri, hx]
   have hC : ((Lz.S zs i + k : Nat) : Int) + 1 = ((Lz.S zs i + (k + 1) : Nat) : Int) := by omega
   simp -implicitDefEqProofs only [o_g4, r_g4_27, r_g4_29, r_g4_31, r_g4_28, r_g4_27, r_g4_29, r_g4_31, r_g4_28, e0, e3, e11, e12, v_iaS 1 B 0 zs.length zs.length false hlt, Nat.mul_one, hri', show ((k : Int) < (z.len : Int)) = True from eq_true (by omega), v_iaS 1 b 0 z.len cap false hkl, hr, aD ((Lz.S zs i + k : Nat) : Int) 1, aD (k : Int) 1, ↓reduceIte, Nat.reduceEqDiff, wA, wB, wC, wD]
   exact LK_n (k' := z.len - (k + 1)) (by omega) ⟨k + 1, by omega, rfl, by simp -implicitDefEqProofs only [e0, e6, e11, hC, show (k : Int) + 1 = ((k + 1 : Nat) : Int) from rfl, ev_tm, ↓reduceIte, Nat.reduceEqDiff, and_self], rfl⟩
  ·have hke : k = z.len := by omega
   subst hke
   simp -implicitDefEqProofs only [o_g4, r_g4_27, r_g4_25, r_g4_27, r_g4_25, e0, e11, e12, v_iaS 1 B 0 zs.length zs.length false hlt, Nat.mul_one, hri, hlx, show ((z.len : Int) < (z.len : Int)) = False from eq_false (by omega), aD (i : Int) 1, ↓reduceIte, Nat.reduceEqDiff, wA, wB, wC, wD]
   exact LK_n (k' := zs.length - (i + 1)) (by omega) ⟨i + 1, by omega, rfl, by simp -implicitDefEqProofs only [e0, e3, e6, hSi, show (i : Int) + 1 = ((i + 1 : Nat) : Int) from rfl, ev_tm, ↓reduceIte, Nat.reduceEqDiff, and_self], rfl⟩
 have hin : i = zs.length := by omega
 subst hin
 have hgl := h2.gr.len
 simp -implicitDefEqProofs only [o_g4, r_g4_24, r_g4_32, r_g4_24, r_g4_32, e0, e11, ↓reduceIte, Nat.reduceEqDiff, wA, wB, wC, wD]
 /- and so is what grew -/
 rw [hN] at e3
 refine GX_loop (fun j fr m5 => ∃ i, i ≤ zs.length ∧ j = zs.length - i ∧ (ev (tm 0) fr = .slice B 0 zs.length zs.length false ∧ ev (tm 3) fr = iv ((N + 6 * i : Nat) : Int) ∧ ev (tm 6) fr = gv ∧ ev (tm 13) fr = iv i) ∧ m5 = mm) (k := zs.length) ⟨0, Nat.zero_le _, rfl, by simp -implicitDefEqProofs only [e0, e3, e6, ev_tm, ↓reduceIte, Nat.reduceEqDiff, Nat.reduceMul, Nat.add_zero, nc0, and_self], rfl⟩ ?_
 clear e0 e3 e6 e11
 rintro j fr m5 ⟨i, hi, rfl, ⟨e0, e3, e6, e13⟩, rfl⟩
 by_cases hlt : i < zs.length
 ·have hzi : zs[i]? = some zs[i] := List.getElem?_eq_getElem hlt
  generalize zs[i] = z at hzi
  have hri : m5.rd B i = some z.x := by rw [h2.out.rd, List.getElem?_map, hzi]; rfl
  have hga := h2.ea i z hzi
  obtain ⟨hl1, hl2⟩ := hfl i z hzi
  have hlx := hga.lenx
  rw [fin_lenI] at hlx
  obtain ⟨gb, gcap, hgv, _, hgr⟩ := elem1 h2.gr hlt
  have hgr' : m5.rd gb i = some (gs i) := by rw [hgr, List.getElem?_map, List.getElem?_range hlt]; rfl
  have hlg := hga.leng
  rw [hl1] at hlg
  have e6' : ev (tm 6) fr = .slice gb 0 zs.length gcap false := by rw [e6, hgv]
  simp -implicitDefEqProofs only [o_g4, r_g4_33, r_g4_35, r_g4_33, r_g4_35, e0, e6', e13, show ((i : Int) < (zs.length : Int)) = True from eq_true (by omega), v_iaS 1 B 0 zs.length zs.length false hlt, Nat.mul_one, hri, hlx, ↓reduceIte, Nat.reduceEqDiff, wA, wB, wC, wD]
  refine GX_loop (fun j fr m6 => ∃ k, k ≤ 6 ∧ j = 6 - k ∧ (ev (tm 0) fr = .slice B 0 zs.length zs.length false ∧ ev (tm 3) fr = iv ((N + 6 * i + k : Nat) : Int) ∧ ev (tm 6) fr = .slice gb 0 zs.length gcap false ∧ ev (tm 13) fr = iv i ∧ ev (tm 14) fr = iv ((z.len + k : Nat) : Int)) ∧ m6 = m5) (k := 6) ⟨0, Nat.zero_le _, rfl, by simp -implicitDefEqProofs only [e0, e3, e6', e13, ev_tm, ↓reduceIte, Nat.reduceEqDiff, Nat.add_zero, and_self], rfl⟩ ?_
  clear e0 e3 e13 e6'
  rintro j fr m6 ⟨k, hk, rfl, ⟨e0, e3, e6', e13, e14⟩, rfl⟩
  by_cases hkl : k < 6
  ·have hv : (finI zs i z.len ++ extI zs zs.length 0 i)[z.len + k]? = some (ivn (N + 6 * i + k)) := by
    rw [List.getElem?_append_right (by rw [fin_lenI]; omega), fin_lenI]
    unfold extI
    rw [if_pos hlt, show z.len + k - z.len = k by omega, List.getElem?_map, List.getElem?_range (by omega), hN]; rfl
   obtain ⟨b, cap, hx, _, hr⟩ := hga.rdg hv
   rw [hl1] at hx
   have hgr2 : m6.rd gb i = some (.slice b 0 (z.len + 6) cap false) := by rw [hgr', hx]
   have hC : ((N + 6 * i + k : Nat) : Int) + 1 = ((N + 6 * i + (k + 1) : Nat) : Int) := by omega
   have hC2 : ((z.len + k : Nat) : Int) + 1 = ((z.len + (k + 1) : Nat) : Int) := by omega
   simp -implicitDefEqProofs only [o_g4, r_g4_36, r_g4_38, r_g4_40, r_g4_37, r_g4_36, r_g4_38, r_g4_40, r_g4_37, e3, e6', e13, e14, v_iaS 1 gb 0 zs.length gcap false hlt, Nat.mul_one, hgr2, show (((z.len + k : Nat) : Int) < ((z.len + 6 : Nat) : Int)) = True from eq_true (by omega), v_iaS 1 b 0 (z.len + 6) cap false (show z.len + k < z.len + 6 by omega), hr, aD ((N + 6 * i + k : Nat) : Int) 1, aD ((z.len + k : Nat) : Int) 1, ↓reduceIte, Nat.reduceEqDiff, wA, wB, wC, wD]
   exact LK_n (k' := 6 - (k + 1)) (by omega) ⟨k + 1, by omega, rfl, by simp -implicitDefEqProofs only [e0, e6', e13, hC, hC2, ev_tm, ↓reduceIte, Nat.reduceEqDiff, and_self], rfl⟩
  ·have hke : k = 6 := by omega
   subst hke
   have hC : ((N + 6 * i + 6 : Nat) : Int) = ((N + 6 * (i + 1) : Nat) : Int) := by omega
   simp -implicitDefEqProofs only [o_g4, r_g4_36, r_g4_34, r_g4_36, r_g4_34, e6', e13, e14, v_iaS 1 gb 0 zs.length gcap false hlt, Nat.mul_one, hgr', hlg, show (((z.len + 6 : Nat) : Int) < ((z.len + 6 : Nat) : Int)) = False from eq_false (by omega), aD (i : Int) 1, ↓reduceIte, Nat.reduceEqDiff, Nat.reduceSub, wA, wB, wC, wD]
   exact LK_n (k' := zs.length - (i + 1)) (by omega) ⟨i + 1, by omega, rfl, by simp -implicitDefEqProofs only [e0, e3, e6', hgv, hC, show (i : Int) + 1 = ((i + 1 : Nat) : Int) from rfl, ev_tm, ↓reduceIte, Nat.reduceEqDiff, and_self], rfl⟩
 have hin : i = zs.length := by omega
 subst hin
 simp -implicitDefEqProofs only [o_g4, r_g4_33, r_g4_41, r_g4_33, r_g4_41, e6, e13, hgl, ↓reduceIte, Nat.reduceEqDiff, wA, wB, wC, wD]
 exact hQ m5 h2.kp
end
noncomputable def mkv (n : Nat) : AV := ofI .u8 (IntKind.u8.wrap (((n * 7 + n / 36 + 3 : Nat)) : Int))
theorem o_convI (k : IntKind) (x : RO) (fr : Go.Am.Fr) (m : M) : run (.convI k x) fr m = rConvI k (.cst (ev x fr)) .leaf m := rfl
theorem v_convI (k : IntKind) (i : Int) (m : M) : rConvI k (.cst (iv i)) .leaf m = some (ofI k (k.wrap i), m) := by
 show (ob (toI (iv i)) fun q => some (ofI k (k.wrap q.2), m)) = _
 rw [toI_iv]; rfl
theorem b_mulI (t : TypeId) {a b : Int} (h1 : -9223372036854775808 ≤ a * b) (h2 : a * b ≤ 9223372036854775807) : binS Tryz.prog .mul t (iv a) (iv b) = some (iv (a * b)) := by
 rw [binS_iv]
 show some (iv (IntKind.i64.wrap (a * b))) = _
 rw [IntWalk.i64_in _ ⟨h1, h2⟩]
theorem wrap_u8 (i : Int) : ∃ k : Nat, k < 256 ∧ ofI .u8 (IntKind.u8.wrap i) = .y k := by
 have h : 0 ≤ IntKind.u8.wrap i ∧ IntKind.u8.wrap i < 256 := by
  have h1 := Int.emod_nonneg i (show (256 : Int) ≠ 0 by decide)
  have h2 := Int.emod_lt_of_pos i (show (0 : Int) < 256 by decide)
  have e : IntKind.u8.wrap i = i % 256 := by
   unfold IntKind.wrap
   simp [IntKind.signed, IntKind.bits]
  rw [e]; exact ⟨h1, h2⟩
 refine ⟨(IntKind.u8.wrap i).toNat, by omega, ?_⟩
 generalize IntKind.u8.wrap i = j at h
 obtain ⟨k, rfl⟩ : ∃ k : Nat, j = k := ⟨j.toNat, by omega⟩
 rfl
theorem mkv_y (n : Nat) : ∃ k : Nat, mkv n = .y k := by
 obtain ⟨k, _, h⟩ := wrap_u8 (((n * 7 + n / 36 + 3 : Nat)) : Int)
 exact ⟨k, h⟩
theorem cells_mk (n : Nat) : cellsO (mkv n) = some [mkv n] := by obtain ⟨k, h⟩ := mkv_y n; rw [h]; rfl
theorem aq_mk (n : Nat) : aveq 40 (mkv n) (mkv n) = true := by obtain ⟨k, h⟩ := mkv_y n; rw [h]; simp [aveq, Nat.beq_refl]
theorem mk_ne (n : Nat) : binS Tryz.prog .neq ty_uint8 (mkv n) (mkv n) = some (.b false) := by
 obtain ⟨k, h⟩ := mkv_y n
 rw [h]
 show intAll .neq .u8 (k : Int) .u8 (k : Int) = _
 show some (AV.b ((k : Int) != (k : Int))) = _
 simp
theorem mark_ran {m : M} {n : Nat} (hn : n ≤ 1000000) : Ran Tryz.prog tb fn_g9 [iv n] m (mkv n) m := by
 have hC : (n : Int) * 7 + ((n / 36 : Nat) : Int) + 3 = ((n * 7 + n / 36 + 3 : Nat) : Int) := by omega
 have hq : binS Tryz.prog .quo ty_int (iv n) (iv 36) = some (iv ((n / 36 : Nat) : Int)) := b_quo (P := Tryz.prog) (b := 36) ty_int (by omega) (by omega)
 refine WpF.go at_g9 ?_
 simp -implicitDefEqProofs only [o_g9, r_g9_0, r_g9_1, r_g9_0, r_g9_1, b_mulI ty_int (show -9223372036854775808 ≤ (n : Int) * 7 by omega) (show (n : Int) * 7 ≤ 9223372036854775807 by omega), hq, aD ((n : Int) * 7) ((n / 36 : Nat) : Int), aD ((n : Int) * 7 + ((n / 36 : Nat) : Int)) 3, hC, o_convI, v_convI, mkv, ↓reduceIte, Nat.reduceEqDiff, wA, wB, wC, wD]
noncomputable def finY (zs : List Lz) (j len : Nat) : List AV := (List.range len).map fun t => mkv (Lz.S zs j + t)
noncomputable def extY (zs : List Lz) (i k j : Nat) : List AV := if j < i then (List.range 6).map fun u => mkv (Lz.S zs zs.length + 6 * j + u) else if j = i then (List.range k).map fun u => mkv (Lz.S zs zs.length + 6 * j + u) else []
section
variable {m : M}
theorem set_slY {x : AV} {len : Nat} {cells : List AV} {o : Option Nat} (h : SlE m ty_uint8 x len cells o) (hw : Wf m) {k : Nat} (hk : k < len) (v : AV) :
  ∃ b cap m', x = .slice b 0 len cap false ∧ o = some b ∧ m.wr b k [v] = some m' ∧ SlE m' ty_uint8 x len (cells.set k v) o ∧ Keep m m' (fun z => z = b) := by
 rcases h with h | ⟨_, _, rfl, _⟩
 case inr => omega
 cases h with
 | nil => omega
 | @row b len cap cells junk xt h hl hj hc h0 =>
  obtain ⟨m', e, h', k', _⟩ := h.st hw k [v] rfl (by simp; omega)
  refine ⟨b, cap, m', rfl, rfl, e, .inl (.row (xt := xt) (junk := junk) ?_ (by simpa using hl) hj hc h0), k'⟩
  have : splice (cells ++ junk) k [v] = cells.set k v ++ junk := by
   apply List.ext_getElem?
   intro j
   rw [splice_get (by simp; omega)]
   simp only [List.length_cons, List.length_nil]
   by_cases hj : j < cells.length
   ·rw [List.getElem?_append_left (show j < (cells.set k v).length by rw [List.length_set]; exact hj), List.getElem?_set, List.getElem?_append_left hj]
    by_cases e : k = j
    ·subst e; rw [if_pos (show k ≤ k ∧ k < k + (0 + 1) by omega), if_pos rfl, if_pos hj, Nat.sub_self]; rfl
    ·rw [if_neg (show ¬ (k ≤ j ∧ j < k + (0 + 1)) by omega), if_neg e]
   ·rw [List.getElem?_append_right (show (cells.set k v).length ≤ j by rw [List.length_set]; omega), if_neg (show ¬ (k ≤ j ∧ j < k + (0 + 1)) by omega), List.getElem?_append_right (by omega), List.length_set]
  rwa [this] at h'
def W1Y (m0 : M) (B : Nat) (zs : List Lz) (i k : Nat) (m : M) : Prop :=
 At m B ty_suint8 true (zs.map (·.x)) ∧ (∀ j z, zs[j]? = some z → ∃ c, SlE m ty_uint8 z.x z.len c z.o ∧ ∀ t, (j < i ∧ t < z.len ∨ j = i ∧ t < k) → c[t]? = some (mkv (Lz.S zs j + t))) ∧ Keep m0 m (Lz.F zs)
structure W2Y (m0 : M) (B : Nat) (zs : List Lz) (i k : Nat) (gs : Nat → AV) (own : Nat → List Nat) (gv : AV) (go : Option Nat) (m : M) : Prop where
 out : At m B ty_suint8 true (zs.map (·.x))
 ea : ∀ j z, zs[j]? = some z → GrAt m ty_uint8 z.x (finY zs j z.len) (gs j) (finY zs j z.len ++ extY zs i k j) (own j)
 dis : ∀ j j' b, j ≠ j' → j < zs.length → j' < zs.length → b ∈ own j → b ∉ own j'
 ob : ∀ j b, j < zs.length → b ∈ own j → b ≠ B ∧ go ≠ some b
 old : ∀ j b, j < zs.length → b ∈ own j → (∃ z, zs[j]? = some z ∧ z.o = some b) ∨ m0.next ≤ b
 gr : SlAt m ty_suint8 1 gv i ((List.range i).map gs) go
 gn : ∀ b, go = some b → m0.next ≤ b ∧ b ≠ B
 un : ∀ j z, zs[j]? = some z → i ≤ j → (k = 0 ∨ i < j) → gs j = z.x
 kp : Keep m0 m (Lz.F zs)
theorem fin_getY {zs : List Lz} {j len t : Nat} (h : t < len) : (finY zs j len)[t]? = some (mkv (Lz.S zs j + t)) := by
 unfold finY
 rw [List.getElem?_map, List.getElem?_range h]; rfl
theorem fin_lenY {zs : List Lz} {j len : Nat} : (finY zs j len).length = len := by unfold finY; simp
set_option maxRecDepth 20000 in
set_option maxHeartbeats 4000000 in
theorem bytes_apart {B : Nat} {zs : List Lz} (hw : Wf m) (hn : zs ≠ []) (hB : At m B ty_suint8 true (zs.map (·.x))) (hz : ∀ (j : Nat) (z : Lz), zs[j]? = some z → ∃ c, SlE m ty_uint8 z.x z.len c z.o)
  (hd : ∀ (i j : Nat) (z z' : Lz) (b : Nat), zs[i]? = some z → zs[j]? = some z' → z.o = some b → z'.o = some b → i = j) (hnl : zs.length ≤ 1000) (hS : Lz.S zs zs.length + 6 * zs.length ≤ 900000) (hr : ∀ (j : Nat) (z : Lz), zs[j]? = some z → (z.len + 6) * 1 ≤ 140737488355328) {Q : AV → M → Prop}
  (hQ : ∀ m', Keep m m' (Lz.F zs) → Q (.b true) m') : WpF Tryz.prog tb fn_g3 [.slice B 0 zs.length zs.length false] m Q := by
 have hko : ∀ {m' : M} {z : Lz} {c : List AV} {b : Nat}, At m' B ty_suint8 true (zs.map (·.x)) → SlE m' ty_uint8 z.x z.len c z.o → z.o = some b → b ≠ B := fun hB hz hb => by
  rw [hb] at hz
  exact hz.kd.ne hB.kd
 refine WpF.go at_g3 ?_
 simp -implicitDefEqProofs only [o_g3, r_g3_0, r_g3_1, r_g3_2, r_g3_0, r_g3_1, r_g3_2, wA, wB, wC, wD]
 /- the lists are written over -/
 refine GX_loop (fun j fr mk => ∃ i, i ≤ zs.length ∧ j = zs.length - i ∧ (ev (tm 0) fr = .slice B 0 zs.length zs.length false ∧ ev (tm 3) fr = iv ((Lz.S zs i : Nat) : Int) ∧ ev (tm 4) fr = iv i) ∧ W1Y m B zs i 0 mk) (k := zs.length) ⟨0, Nat.zero_le _, rfl, by simp -implicitDefEqProofs only [Lz.S_zero, ev_tm, ↓reduceIte, Nat.reduceEqDiff, nc0, and_self], hB, fun j z hj => by
  obtain ⟨c, hc⟩ := hz j z hj
  exact ⟨c, hc, fun t ht => by omega⟩, Keep.refl hw _⟩ ?_
 rintro j fr mk ⟨i, hi, rfl, ⟨e0, e3, e4⟩, hB1, hz1, k1⟩
 have hw1 := k1.wf
 by_cases hlt : i < zs.length
 ·have hzi : zs[i]? = some zs[i] := List.getElem?_eq_getElem hlt
  generalize zs[i] = z at hzi
  have hSi := Lz.S_succ hzi
  have hSb := Lz.S_le zs (i := i) (by omega)
  have hSb1 := Lz.S_le zs (i := i + 1) (by omega)
  simp -implicitDefEqProofs only [o_g3, r_g3_3, r_g3_5, r_g3_3, r_g3_5, e0, e4, show ((i : Int) < (zs.length : Int)) = True from eq_true (by omega), ↓reduceIte, Nat.reduceEqDiff, wA, wB, wC, wD]
  refine GX_loop (fun j fr mk => ∃ k, k ≤ z.len ∧ j = z.len - k ∧ (ev (tm 0) fr = .slice B 0 zs.length zs.length false ∧ ev (tm 3) fr = iv ((Lz.S zs i + k : Nat) : Int) ∧ ev (tm 4) fr = iv i ∧ ev (tm 5) fr = iv k) ∧ W1Y m B zs i k mk) (k := z.len) ⟨0, Nat.zero_le _, rfl, by simp -implicitDefEqProofs only [e0, e3, e4, ev_tm, ↓reduceIte, Nat.reduceEqDiff, Nat.add_zero, nc0, and_self], hB1, hz1, k1⟩ ?_
  clear e0 e3 e4 hB1 hz1 k1 hw1
  rintro j fr mk ⟨k, hk, rfl, ⟨e0, e3, e4, e5⟩, hB1, hz1, k1⟩
  have hw1 := k1.wf
  obtain ⟨c, hc, hct⟩ := hz1 i z hzi
  have hri : mk.rd B i = some z.x := by rw [hB1.rd, List.getElem?_map, hzi]; rfl
  by_cases hkl : k < z.len
  ·obtain ⟨b, cap, m2, hx, ho, e2, hc2, k2⟩ := set_slY hc hw1 hkl (mkv (Lz.S zs i + k))
   have hri' : mk.rd B i = some (.slice b 0 z.len cap false) := by rw [hri, hx]
   have hC : ((Lz.S zs i + k : Nat) : Int) + 1 = ((Lz.S zs i + (k + 1) : Nat) : Int) := by omega
   simp -implicitDefEqProofs only [o_g3, r_g3_6, r_g3_8, r_g3_9, r_g3_7, r_g3_6, r_g3_8, r_g3_9, r_g3_7, e0, e3, e4, e5, v_iaS 1 B 0 zs.length zs.length false hlt, Nat.mul_one, hri', show ((k : Int) < (z.len : Int)) = True from eq_true (by omega), v_iaS 1 b 0 z.len cap false hkl, e2, (mark_ran (n := Lz.S zs i + k) (by omega)).eq, cells_mk, aD ((Lz.S zs i + k : Nat) : Int) 1, aD (k : Int) 1, ↓reduceIte, Nat.reduceEqDiff, List.getElem?_cons_succ, List.getElem?_cons_zero, exists_eq_left', wA, wB, wC, wD]
   refine LK_n (k' := z.len - (k + 1)) (by omega) ⟨k + 1, by omega, rfl, by simp -implicitDefEqProofs only [e0, e4, hC, show (k : Int) + 1 = ((k + 1 : Nat) : Int) from rfl, ev_tm, ↓reduceIte, Nat.reduceEqDiff, and_self], hB1.keep hw1 k2 (fun e => hko hB1 hc ho e.symm), fun j z' hj => ?_, k1.trans k2 fun x hx e => ⟨i, z, hzi, by rw [ho, e]⟩⟩
   by_cases hji : j = i
   ·subst hji
    rw [hzi] at hj
    cases hj
    refine ⟨_, hc2, fun t ht => ?_⟩
    have hcl := hc.count
    rw [List.getElem?_set]
    by_cases htk : k = t
    ·subst htk; rw [if_pos rfl, if_pos (by omega)]
    ·rw [if_neg htk]; exact hct t (by omega)
   ·obtain ⟨c', hc', hct'⟩ := hz1 j z' hj
    exact ⟨c', hc'.keep hw1 k2 fun b' hb' e => hji (hd _ _ _ _ b hj hzi (e ▸ hb') ho), fun t ht => hct' t (by omega)⟩
  ·have hke : k = z.len := by omega
   subst hke
   simp -implicitDefEqProofs only [o_g3, r_g3_6, r_g3_4, r_g3_6, r_g3_4, e0, e4, e5, v_iaS 1 B 0 zs.length zs.length false hlt, Nat.mul_one, hri, hc.len, show ((z.len : Int) < (z.len : Int)) = False from eq_false (by omega), aD (i : Int) 1, ↓reduceIte, Nat.reduceEqDiff, wA, wB, wC, wD]
   refine LK_n (k' := zs.length - (i + 1)) (by omega) ⟨i + 1, by omega, rfl, by simp -implicitDefEqProofs only [e0, e3, hSi, show (i : Int) + 1 = ((i + 1 : Nat) : Int) from rfl, ev_tm, ↓reduceIte, Nat.reduceEqDiff, and_self], hB1, fun j z' hj => ?_, k1⟩
   obtain ⟨c', hc', hct'⟩ := hz1 j z' hj
   refine ⟨c', hc', fun t ht => hct' t ?_⟩
   by_cases hji : j = i
   ·subst hji
    rw [hzi] at hj; cases hj
    omega
   ·omega
 have hin : i = zs.length := by omega
 subst hin
 simp -implicitDefEqProofs only [o_g3, r_g3_3, r_g3_10, r_g3_11, r_g3_12, r_g3_3, r_g3_10, r_g3_11, r_g3_12, e0, e3, e4, ↓reduceIte, Nat.reduceEqDiff, wA, wB, wC, wD]
 generalize hN : Lz.S zs zs.length = N at *
 /- the lists grow -/
 have h2 : W2Y m B zs 0 0 (fun j => (zs[j]?.map (·.x)).getD nils) (fun j => ((zs[j]?.bind (·.o)).toList)) nils none mk := by
  refine ⟨hB1, fun j z hj => ?_, fun j j' b hne hj hj' hb hb' => ?_, fun j b hj hb => ?_, fun j b hj hb => ?_, .nil, fun b h => (by cases h), fun j z hj _ _ => by rw [hj]; rfl, k1⟩
  ·obtain ⟨c, hc, hct⟩ := hz1 j z hj
   have hjl := (List.getElem?_eq_some_iff.1 hj).1
   have hcf : c = finY zs j z.len := List.ext_getElem? fun t => by
    have hcl := hc.count
    by_cases ht : t < z.len
    ·rw [fin_getY ht]; exact hct t (.inl ⟨hjl, ht⟩)
    ·rw [List.getElem?_eq_none (by omega), List.getElem?_eq_none (by rw [fin_lenY]; omega)]
   subst hcf
   have := GrAt.begin hc
   rw [hj]
   show GrAt mk ty_uint8 z.x _ z.x (finY zs j z.len ++ extY zs 0 0 j) z.o.toList
   rw [show extY zs 0 0 j = [] by unfold extY; split <;> (try split) <;> first | omega | rfl, List.append_nil]
   exact this
  ·have hzj : zs[j]? = some zs[j] := List.getElem?_eq_getElem hj
   have hzj' : zs[j']? = some zs[j'] := List.getElem?_eq_getElem hj'
   rw [hzj] at hb
   rw [hzj'] at hb'
   exact hne (hd _ _ _ _ b hzj hzj' (by simpa using hb) (by simpa using hb'))
  ·have hzj : zs[j]? = some zs[j] := List.getElem?_eq_getElem hj
   rw [hzj] at hb
   obtain ⟨c, hc, _⟩ := hz1 j _ hzj
   exact ⟨hko hB1 hc (by simpa using hb), by simp⟩
  ·have hzj : zs[j]? = some zs[j] := List.getElem?_eq_getElem hj
   rw [hzj] at hb
   exact .inl ⟨_, hzj, by simpa using hb⟩
 clear hB1 hz1 k1 hw1
 refine GX_loop (fun j fr mk => ∃ i gs own gv go, i ≤ zs.length ∧ j = zs.length - i ∧ (ev (tm 0) fr = .slice B 0 zs.length zs.length false ∧ ev (tm 6) fr = gv ∧ ev (tm 7) fr = iv ((N + 6 * i : Nat) : Int) ∧ ev (tm 8) fr = iv i) ∧ W2Y m B zs i 0 gs own gv go mk) (k := zs.length) ⟨0, _, _, nils, none, Nat.zero_le _, rfl, by simp -implicitDefEqProofs only [e0, ev_tm, ↓reduceIte, Nat.reduceEqDiff, Nat.reduceMul, Nat.add_zero, nc0, and_self], h2⟩ ?_
 clear h2 e0 e3 e4
 rintro j fr mk ⟨i, gs, own, gv, go, hi, rfl, ⟨e0, e6, e7, e8⟩, h2⟩
 by_cases hlt : i < zs.length
 ·have hzi : zs[i]? = some zs[i] := List.getElem?_eq_getElem hlt
  generalize zs[i] = z at hzi
  have hri : mk.rd B i = some z.x := by rw [h2.out.rd, List.getElem?_map, hzi]; rfl
  have hg0 := h2.un i z hzi (Nat.le_refl _) (.inl rfl)
  simp -implicitDefEqProofs only [o_g3, r_g3_13, r_g3_15, r_g3_16, r_g3_13, r_g3_15, r_g3_16, e0, e8, show ((i : Int) < (zs.length : Int)) = True from eq_true (by omega), v_iaS 1 B 0 zs.length zs.length false hlt, Nat.mul_one, hri, ↓reduceIte, Nat.reduceEqDiff, wA, wB, wC, wD]
  refine GX_loop (fun j fr mk => ∃ k gs own, k ≤ 6 ∧ j = 6 - k ∧ (ev (tm 0) fr = .slice B 0 zs.length zs.length false ∧ ev (tm 6) fr = gv ∧ ev (tm 7) fr = iv ((N + 6 * i + k : Nat) : Int) ∧ ev (tm 8) fr = iv i ∧ ev (tm 9) fr = gs i ∧ ev (tm 10) fr = iv k) ∧ W2Y m B zs i k gs own gv go mk) (k := 6) ⟨0, gs, own, Nat.zero_le _, rfl, by simp -implicitDefEqProofs only [e0, e6, e7, e8, hg0, ev_tm, ↓reduceIte, Nat.reduceEqDiff, Nat.add_zero, nc0, and_self], h2⟩ ?_
  clear e0 e6 e7 e8 h2 hri hg0
  rintro j fr mk ⟨k, gs, own, hk, rfl, ⟨e0, e6, e7, e8, e9, e10⟩, h2⟩
  have hw2 := h2.kp.wf
  have hga := h2.ea i z hzi
  by_cases hk6 : k < 6
  ·have hgl : (finY zs i z.len ++ extY zs i k i).length = z.len + k := by
    rw [List.length_append, fin_lenY]; unfold extY; rw [if_neg (by omega), if_pos rfl]; simp
   have hzl : z.len ≤ N := by rw [← hN]; have := Lz.S_succ hzi; have := Lz.S_le zs (i := i + 1) (by omega); omega
   obtain ⟨m3, e3', ha3, k3, n3⟩ := addL_at hw2 ty_uint8 1 [mkv (N + 6 * i + k)]
   have hw3 := k3.wf
   have hga3 := hga.keep hw2 k3 fun _ _ h => h
   have hy : Rds m3 (.slice mk.next 0 1 1 false) 1 1 [mkv (N + 6 * i + k)] := (SlAt.row (xt := true) (junk := []) (cells := [mkv (N + 6 * i + k)]) (len := 1) (cap := 1) ha3 rfl rfl (Nat.le_refl _) (by omega)).src
   obtain ⟨g', m4, own', e4', hga4, k4, ho4⟩ := hga3.app (bytes := 1) (z := [.y 0]) hw3 hy (room_le (by rw [hgl]; have := hr i z hzi; omega) (by omega) (by omega))
   have k34 : Keep mk m4 fun b => b ∈ own i := k3.ft k4
   have hltm : ∀ j z b, zs[j]? = some z → b ∈ own j → b < mk.next := fun j z b hj hb => (h2.ea j z hj).lt hw2 hb
   have hn3' := k3.next
   have hwB := h2.out.lt hw2
   have hC : ((N + 6 * i + k : Nat) : Int) + 1 = ((N + 6 * i + (k + 1) : Nat) : Int) := by omega
   simp -implicitDefEqProofs only [o_g3, r_g3_17, r_g3_19, r_g3_20, r_g3_18, r_g3_17, r_g3_19, r_g3_20, r_g3_18, e7, e9, e10, show ((k : Int) < 6) = True from eq_true (by omega), (mark_ran (n := N + 6 * i + k) (by omega)).eq, cells_mk, e3', e4', aD ((N + 6 * i + k : Nat) : Int) 1, aD (k : Int) 1, ↓reduceIte, Nat.reduceEqDiff, Nat.reduceLeDiff, wA, wB, wC, wD]
   refine LK_n (k' := 6 - (k + 1)) (by omega) ⟨k + 1, fun j => if j = i then g' else gs j, fun j => if j = i then own' else own j, by omega, rfl, by simp -implicitDefEqProofs only [e0, e6, e8, hC, show (k : Int) + 1 = ((k + 1 : Nat) : Int) from rfl, ev_tm, ↓reduceIte, Nat.reduceEqDiff, and_self], ⟨h2.out.keep hw2 k34 fun hb => (h2.ob i B hlt hb).1 rfl, fun j z' hj => ?_, fun j j' b hne hj hj' hb hb' => ?_, fun j b hj hb => ?_, fun j b hj hb => ?_, ?_, h2.gn, fun j z' hj hij hor => ?_, ?_⟩⟩
   ·by_cases hji : j = i
    ·subst hji
     rw [hzi] at hj; cases hj
     rw [if_pos rfl, if_pos rfl]
     have : extY zs j (k + 1) j = extY zs j k j ++ [mkv (N + 6 * j + k)] := by
      unfold extY
      rw [if_neg (by omega), if_pos rfl, if_neg (by omega), if_pos rfl, List.range_succ, List.map_append, hN]; rfl
     rw [this, ← List.append_assoc]
     exact hga4
    ·rw [if_neg hji, if_neg hji]
     have : extY zs i (k + 1) j = extY zs i k j := by unfold extY; rw [if_neg hji, if_neg hji]
     rw [this]
     exact (h2.ea j z' hj).keep hw2 k34 fun b hb hb' => h2.dis j i b hji (List.getElem?_eq_some_iff.1 hj).1 hlt hb hb'
   ·have key : ∀ j b, j < zs.length → b ∈ (if j = i then own' else own j) → (b ∈ own j) ∨ (j = i ∧ mk.next ≤ b) := fun j b hj hb => by
     by_cases hji : j = i
     ·rw [if_pos hji] at hb
      rcases ho4 b hb with h | h
      ·exact .inl (hji ▸ h)
      ·exact .inr ⟨hji, by omega⟩
     ·rw [if_neg hji] at hb; exact .inl hb
    have hzj : zs[j]? = some zs[j] := List.getElem?_eq_getElem hj
    have hzj' : zs[j']? = some zs[j'] := List.getElem?_eq_getElem hj'
    rcases key j b hj hb with h | ⟨h, h3⟩ <;> rcases key j' b hj' hb' with h4 | ⟨h4, h5⟩
    ·exact h2.dis j j' b hne hj hj' h h4
    ·have := hltm _ _ _ hzj h; omega
    ·have := hltm _ _ _ hzj' h4; omega
    ·exact hne (h.trans h4.symm)
   ·by_cases hji : j = i
    ·rw [if_pos hji] at hb
     rcases ho4 b hb with h | h
     ·exact h2.ob i b hlt h
     ·refine ⟨by omega, fun e => ?_⟩
      have := h2.gr.blk_lt hw2 e
      omega
    ·rw [if_neg hji] at hb; exact h2.ob j b hj hb
   ·by_cases hji : j = i
    ·rw [if_pos hji] at hb
     rcases ho4 b hb with h | h
     ·subst hji; exact h2.old j b hj h
     ·have := h2.kp.next
      exact .inr (by omega)
    ·rw [if_neg hji] at hb; exact h2.old j b hj hb
   ·have hm : (List.range i).map (fun j => if j = i then g' else gs j) = (List.range i).map gs := List.map_congr_left fun j hj => by
     have := List.mem_range.1 hj
     rw [if_neg (by omega)]
    rw [hm]
    exact h2.gr.keep hw2 k34 fun b hb hb' => (h2.ob i b hlt hb').2 hb
   ·rw [if_neg (by omega)]
    exact h2.un j z' hj hij (.inr (by omega))
   ·refine h2.kp.trans k34 fun b hb hb' => ?_
    rcases h2.old i b hlt hb' with ⟨z', h, h'⟩ | h
    ·exact ⟨i, z', h, h'⟩
    ·omega
  ·have hke : k = 6 := by omega
   subst hke
   obtain ⟨m3, e3', ha3, k3, n3⟩ := addL_at hw2 ty_suint8 1 [gs i]
   have hw3 := k3.wf
   have hy : Rds m3 (.slice mk.next 0 1 1 false) 1 1 [gs i] := (SlAt.row (xt := true) (junk := []) (cells := [gs i]) (len := 1) (cap := 1) ha3 rfl rfl (Nat.le_refl _) (by omega)).src
   obtain ⟨x4, m4, o4, e4', hs4, k4, ho4⟩ := (h2.gr.keep hw2 k3 fun _ _ h => h).append (bytes := 24) (z := [nils]) hw3 hy (room_of (by omega) (by omega))
   have k34 : Keep mk m4 fun b => go = some b := k3.ft k4
   have hwB := h2.out.lt hw2
   have hn3' := k3.next
   have hC : ((N + 6 * i + 6 : Nat) : Int) = ((N + 6 * (i + 1) : Nat) : Int) := by omega
   simp -implicitDefEqProofs only [o_g3, r_g3_17, r_g3_21, r_g3_14, r_g3_17, r_g3_21, r_g3_14, e6, e8, e9, e10, show (((6 : Nat) : Int) < 6) = False from eq_false (by omega), hga.gcells1, e3', e4', aD (i : Int) 1, ↓reduceIte, Nat.reduceEqDiff, Nat.reduceSub, Nat.reduceLeDiff, wA, wB, wC, wD]
   refine LK_n (k' := zs.length - (i + 1)) (by omega) ⟨i + 1, gs, own, x4, o4, by omega, rfl, by simp -implicitDefEqProofs only [e0, e7, hC, show (i : Int) + 1 = ((i + 1 : Nat) : Int) from rfl, ev_tm, ↓reduceIte, Nat.reduceEqDiff, and_self], ⟨h2.out.keep hw2 k34 fun hb => (h2.gn B hb).2 rfl, fun j z' hj => ?_, h2.dis, fun j b hj hb => ⟨(h2.ob j b hj hb).1, fun e => ?_⟩, h2.old, ?_, fun b hb => ?_, fun j z' hj hij _ => h2.un j z' hj (by omega) (.inr (by omega)), ?_⟩⟩
   ·have : extY zs (i + 1) 0 j = extY zs i 6 j := by
     unfold extY
     by_cases h1 : j < i
     ·rw [if_pos (by omega), if_pos h1]
     ·by_cases h3 : j = i
      ·rw [if_pos (by omega), if_neg h1, if_pos h3]
      ·rw [if_neg (by omega), if_neg h1, if_neg h3]; split <;> rfl
    rw [this]
    exact (h2.ea j z' hj).keep hw2 k34 fun b hb hb' => (h2.ob j b (List.getElem?_eq_some_iff.1 hj).1 hb).2 hb'
   ·rcases ho4 with h | ⟨b', h, h5, _⟩
    ·rw [h] at e; exact (h2.ob j b hj hb).2 e
    ·rw [h] at e; cases e
     have := (h2.ea j _ (List.getElem?_eq_getElem hj)).lt hw2 hb
     omega
   ·rw [List.range_succ, List.map_append]; exact hs4
   ·rcases ho4 with h | ⟨b', h, h5, _⟩
    ·rw [h] at hb; exact h2.gn b hb
    ·rw [h] at hb; cases hb
     have := h2.kp.next
     exact ⟨by omega, by omega⟩
   ·refine h2.kp.trans k34 fun b hb hb' => ?_
    have := (h2.gn b hb').1
    omega
 have hin : i = zs.length := by omega
 subst hin
 simp -implicitDefEqProofs only [o_g3, r_g3_13, r_g3_22, r_g3_23, r_g3_13, r_g3_22, r_g3_23, e0, e8, ↓reduceIte, Nat.reduceEqDiff, wA, wB, wC, wD]
 have hw2 := h2.kp.wf
 have hfl : ∀ j z, zs[j]? = some z → (finY zs j z.len ++ extY zs zs.length 0 j).length = z.len + 6 ∧ z.len ≤ N := fun j z hj => by
  have hjl := (List.getElem?_eq_some_iff.1 hj).1
  refine ⟨?_, ?_⟩
  ·rw [List.length_append, fin_lenY]; unfold extY; rw [if_pos hjl]; simp
  ·rw [← hN]; have := Lz.S_succ hj; have := Lz.S_le zs (i := j + 1) (by omega); omega
 /- they are as they were written -/
 refine GX_loop (fun j fr mm => ∃ i, i ≤ zs.length ∧ j = zs.length - i ∧ (ev (tm 0) fr = .slice B 0 zs.length zs.length false ∧ ev (tm 3) fr = iv ((Lz.S zs i : Nat) : Int) ∧ ev (tm 6) fr = gv ∧ ev (tm 11) fr = iv i) ∧ mm = mk) (k := zs.length) ⟨0, Nat.zero_le _, rfl, by simp -implicitDefEqProofs only [e0, e6, Lz.S_zero, ev_tm, ↓reduceIte, Nat.reduceEqDiff, nc0, and_self], rfl⟩ ?_
 clear e0 e6 e7 e8
 rintro j fr mm ⟨i, hi, rfl, ⟨e0, e3, e6, e11⟩, rfl⟩
 by_cases hlt : i < zs.length
 ·have hzi : zs[i]? = some zs[i] := List.getElem?_eq_getElem hlt
  generalize zs[i] = z at hzi
  have hri : mm.rd B i = some z.x := by rw [h2.out.rd, List.getElem?_map, hzi]; rfl
  have hga := h2.ea i z hzi
  obtain ⟨hl1, hl2⟩ := hfl i z hzi
  have hSi := Lz.S_succ hzi
  have hSb := Lz.S_le zs (i := i + 1) (by omega)
  have hlx := hga.lenx
  rw [fin_lenY] at hlx
  simp -implicitDefEqProofs only [o_g3, r_g3_24, r_g3_26, r_g3_24, r_g3_26, e0, e11, show ((i : Int) < (zs.length : Int)) = True from eq_true (by omega), ↓reduceIte, Nat.reduceEqDiff, wA, wB, wC, wD]
  refine GX_loop (fun j fr m5 => ∃ k, k ≤ z.len ∧ j = z.len - k ∧ (ev (tm 0) fr = .slice B 0 zs.length zs.length false ∧ ev (tm 3) fr = iv ((Lz.S zs i + k : Nat) : Int) ∧ ev (tm 6) fr = gv ∧ ev (tm 11) fr = iv i ∧ ev (tm 12) fr = iv k) ∧ m5 = mm) (k := z.len) ⟨0, Nat.zero_le _, rfl, by simp -implicitDefEqProofs only [e0, e3, e6, e11, ev_tm, ↓reduceIte, Nat.reduceEqDiff, Nat.add_zero, nc0, and_self], rfl⟩ ?_
  clear e0 e3 e6 e11
  rintro j fr m5 ⟨k, hk, rfl, ⟨e0, e3, e6, e11, e12⟩, rfl⟩
  by_cases hkl : k < z.len
  ·obtain ⟨b, cap, hx, _, hr⟩ := hga.rdx (by rw [hl1, fin_lenY]; omega) (fin_getY (zs := zs) (j := i) hkl)
   rw [fin_lenY] at hx
   have hri' : m5.rd B i = some (.slice b 0 z.len cap false) := by rw [hri, hx]
   have hC : ((Lz.S zs i + k : Nat) : Int) + 1 = ((Lz.S zs i + (k + 1) : Nat) : Int) := by omega
   simp -implicitDefEqProofs only [o_g3, r_g3_27, r_g3_29, r_g3_31, r_g3_28, r_g3_27, r_g3_29, r_g3_31, r_g3_28, e0, e3, e11, e12, v_iaS 1 B 0 zs.length zs.length false hlt, Nat.mul_one, hri', show ((k : Int) < (z.len : Int)) = True from eq_true (by omega), v_iaS 1 b 0 z.len cap false hkl, hr, (mark_ran (n := Lz.S zs i + k) (by omega)).eq, mk_ne, aq_mk, aD ((Lz.S zs i + k : Nat) : Int) 1, aD (k : Int) 1, ↓reduceIte, Nat.reduceEqDiff, List.getElem?_cons_succ, List.getElem?_cons_zero, exists_eq_left', wA, wB, wC, wD]
   exact LK_n (k' := z.len - (k + 1)) (by omega) ⟨k + 1, by omega, rfl, by simp -implicitDefEqProofs only [e0, e6, e11, hC, show (k : Int) + 1 = ((k + 1 : Nat) : Int) from rfl, ev_tm, ↓reduceIte, Nat.reduceEqDiff, and_self], rfl⟩
  ·have hke : k = z.len := by omega
   subst hke
   simp -implicitDefEqProofs only [o_g3, r_g3_27, r_g3_25, r_g3_27, r_g3_25, e0, e11, e12, v_iaS 1 B 0 zs.length zs.length false hlt, Nat.mul_one, hri, hlx, show ((z.len : Int) < (z.len : Int)) = False from eq_false (by omega), aD (i : Int) 1, ↓reduceIte, Nat.reduceEqDiff, wA, wB, wC, wD]
   exact LK_n (k' := zs.length - (i + 1)) (by omega) ⟨i + 1, by omega, rfl, by simp -implicitDefEqProofs only [e0, e3, e6, hSi, show (i : Int) + 1 = ((i + 1 : Nat) : Int) from rfl, ev_tm, ↓reduceIte, Nat.reduceEqDiff, and_self], rfl⟩
 have hin : i = zs.length := by omega
 subst hin
 have hgl := h2.gr.len
 simp -implicitDefEqProofs only [o_g3, r_g3_24, r_g3_32, r_g3_24, r_g3_32, e0, e11, ↓reduceIte, Nat.reduceEqDiff, wA, wB, wC, wD]
 /- and so is what grew -/
 rw [hN] at e3
 refine GX_loop (fun j fr m5 => ∃ i, i ≤ zs.length ∧ j = zs.length - i ∧ (ev (tm 0) fr = .slice B 0 zs.length zs.length false ∧ ev (tm 3) fr = iv ((N + 6 * i : Nat) : Int) ∧ ev (tm 6) fr = gv ∧ ev (tm 13) fr = iv i) ∧ m5 = mm) (k := zs.length) ⟨0, Nat.zero_le _, rfl, by simp -implicitDefEqProofs only [e0, e3, e6, ev_tm, ↓reduceIte, Nat.reduceEqDiff, Nat.reduceMul, Nat.add_zero, nc0, and_self], rfl⟩ ?_
 clear e0 e3 e6 e11
 rintro j fr m5 ⟨i, hi, rfl, ⟨e0, e3, e6, e13⟩, rfl⟩
 by_cases hlt : i < zs.length
 ·have hzi : zs[i]? = some zs[i] := List.getElem?_eq_getElem hlt
  generalize zs[i] = z at hzi
  have hri : m5.rd B i = some z.x := by rw [h2.out.rd, List.getElem?_map, hzi]; rfl
  have hga := h2.ea i z hzi
  obtain ⟨hl1, hl2⟩ := hfl i z hzi
  have hlx := hga.lenx
  rw [fin_lenY] at hlx
  obtain ⟨gb, gcap, hgv, _, hgr⟩ := elem1 h2.gr hlt
  have hgr' : m5.rd gb i = some (gs i) := by rw [hgr, List.getElem?_map, List.getElem?_range hlt]; rfl
  have hlg := hga.leng
  rw [hl1] at hlg
  have e6' : ev (tm 6) fr = .slice gb 0 zs.length gcap false := by rw [e6, hgv]
  simp -implicitDefEqProofs only [o_g3, r_g3_33, r_g3_35, r_g3_33, r_g3_35, e0, e6', e13, show ((i : Int) < (zs.length : Int)) = True from eq_true (by omega), v_iaS 1 B 0 zs.length zs.length false hlt, Nat.mul_one, hri, hlx, ↓reduceIte, Nat.reduceEqDiff, wA, wB, wC, wD]
  refine GX_loop (fun j fr m6 => ∃ k, k ≤ 6 ∧ j = 6 - k ∧ (ev (tm 0) fr = .slice B 0 zs.length zs.length false ∧ ev (tm 3) fr = iv ((N + 6 * i + k : Nat) : Int) ∧ ev (tm 6) fr = .slice gb 0 zs.length gcap false ∧ ev (tm 13) fr = iv i ∧ ev (tm 14) fr = iv ((z.len + k : Nat) : Int)) ∧ m6 = m5) (k := 6) ⟨0, Nat.zero_le _, rfl, by simp -implicitDefEqProofs only [e0, e3, e6', e13, ev_tm, ↓reduceIte, Nat.reduceEqDiff, Nat.add_zero, and_self], rfl⟩ ?_
  clear e0 e3 e13 e6'
  rintro j fr m6 ⟨k, hk, rfl, ⟨e0, e3, e6', e13, e14⟩, rfl⟩
  by_cases hkl : k < 6
  ·have hv : (finY zs i z.len ++ extY zs zs.length 0 i)[z.len + k]? = some (mkv (N + 6 * i + k)) := by
    rw [List.getElem?_append_right (by rw [fin_lenY]; omega), fin_lenY]
    unfold extY
    rw [if_pos hlt, show z.len + k - z.len = k by omega, List.getElem?_map, List.getElem?_range (by omega), hN]; rfl
   obtain ⟨b, cap, hx, _, hr⟩ := hga.rdg hv
   rw [hl1] at hx
   have hgr2 : m6.rd gb i = some (.slice b 0 (z.len + 6) cap false) := by rw [hgr', hx]
   have hC : ((N + 6 * i + k : Nat) : Int) + 1 = ((N + 6 * i + (k + 1) : Nat) : Int) := by omega
   have hC2 : ((z.len + k : Nat) : Int) + 1 = ((z.len + (k + 1) : Nat) : Int) := by omega
   simp -implicitDefEqProofs only [o_g3, r_g3_36, r_g3_38, r_g3_40, r_g3_37, r_g3_36, r_g3_38, r_g3_40, r_g3_37, e3, e6', e13, e14, v_iaS 1 gb 0 zs.length gcap false hlt, Nat.mul_one, hgr2, show (((z.len + k : Nat) : Int) < ((z.len + 6 : Nat) : Int)) = True from eq_true (by omega), v_iaS 1 b 0 (z.len + 6) cap false (show z.len + k < z.len + 6 by omega), hr, (mark_ran (n := N + 6 * i + k) (by omega)).eq, mk_ne, aq_mk, aD ((N + 6 * i + k : Nat) : Int) 1, aD ((z.len + k : Nat) : Int) 1, ↓reduceIte, Nat.reduceEqDiff, List.getElem?_cons_succ, List.getElem?_cons_zero, exists_eq_left', wA, wB, wC, wD]
   exact LK_n (k' := 6 - (k + 1)) (by omega) ⟨k + 1, by omega, rfl, by simp -implicitDefEqProofs only [e0, e6', e13, hC, hC2, ev_tm, ↓reduceIte, Nat.reduceEqDiff, and_self], rfl⟩
  ·have hke : k = 6 := by omega
   subst hke
   have hC : ((N + 6 * i + 6 : Nat) : Int) = ((N + 6 * (i + 1) : Nat) : Int) := by omega
   simp -implicitDefEqProofs only [o_g3, r_g3_36, r_g3_34, r_g3_36, r_g3_34, e6', e13, e14, v_iaS 1 gb 0 zs.length gcap false hlt, Nat.mul_one, hgr', hlg, show (((z.len + 6 : Nat) : Int) < ((z.len + 6 : Nat) : Int)) = False from eq_false (by omega), aD (i : Int) 1, ↓reduceIte, Nat.reduceEqDiff, Nat.reduceSub, wA, wB, wC, wD]
   exact LK_n (k' := zs.length - (i + 1)) (by omega) ⟨i + 1, by omega, rfl, by simp -implicitDefEqProofs only [e0, e3, e6', hgv, hC, show (i : Int) + 1 = ((i + 1 : Nat) : Int) from rfl, ev_tm, ↓reduceIte, Nat.reduceEqDiff, and_self], rfl⟩
 have hin : i = zs.length := by omega
 subst hin
 simp -implicitDefEqProofs only [o_g3, r_g3_33, r_g3_41, r_g3_33, r_g3_41, e6, e13, hgl, ↓reduceIte, Nat.reduceEqDiff, wA, wB, wC, wD]
 exact hQ m5 h2.kp
end
structure Vn (m : M) (x : AV) (l : List Nat) : Prop where
 len : lenK false x = some l.length
 el : ∀ (k z : Nat), l[k]? = some z → ∃ b cap, x = .slice b 0 l.length cap false ∧ m.rd b k = some (ivn z)
theorem _root_.Go.Am.RsAt.kp {m m' : M} {x : AV} {l : List AV} {o : Option Nat} {S : List Nat} (h : RsAt m x l o) (hw : Wf m) (k : KeepK m m' [] S) : RsAt m' x l o := by
 refine h.keep hw k fun b hb => ?_
 rintro (⟨j, h1, _⟩ | ⟨_, h2⟩)
 ·cases h1
 ·cases h with
  | nil => cases hb
  | empty => cases hb
  | row h =>
   cases hb
   obtain ⟨c, e, _⟩ := h.row
   unfold kd at h2
   rw [e] at h2
   dsimp only at h2
   cases hr : c.ro with
   | true => rw [hr] at h2; exact absurd h2 (show ¬ 0 = roK by decide)
   | false => rw [hr] at h2; exact absurd h2 (Nat.succ_ne_zero _).symm
theorem data_len (S : PS) (x : Ino) : (dataL S x).length ≤ 1064 := by
 unfold dataL
 rw [List.length_map, List.length_range]
 have := lst_lt (Nf S x) 1064
 omega
section
variable {m : M} {A : Ad} {S : PS} {own : Nat → Prop} {tt aa : Nat}
end
structure Ks (m : M) (x : AV) (zs : List Int) (o : Option Nat) (A : Ad) (S : PS) (own : Nat → Prop) (X : Nat → Ino) (tt aa : Nat) : Prop where
 wf : Wf m
 g : GAt m A S own
 t : TAt m tt aa A.g
 i : Inv S I2 X
 x : RsAt m x (zs.map iv) o
section
variable {m m' : M} {x : AV} {zs : List Int} {o : Option Nat} {A : Ad} {S : PS} {own : Nat → Prop} {X : Nat → Ino} {tt aa : Nat}
end
theorem hd_of {zs : List Lz} (h : zs.Pairwise fun z z' => ∀ b, z.o = some b → z'.o ≠ some b) : ∀ (i j : Nat) (z z' : Lz) (b : Nat), zs[i]? = some z → zs[j]? = some z' → z.o = some b → z'.o = some b → i = j := by
 intro i j z z' b h1 h2 h3 h4
 obtain ⟨hi, e1⟩ := List.getElem?_eq_some_iff.1 h1
 obtain ⟨hj, e2⟩ := List.getElem?_eq_some_iff.1 h2
 rw [List.pairwise_iff_getElem] at h
 rcases Nat.lt_trichotomy i j with hlt | he | hlt
 ·exact absurd h4 (e2 ▸ h i j hi hj hlt b (e1 ▸ h3))
 ·exact he
 ·exact absurd h3 (e1 ▸ h j i hj hi hlt b (e2 ▸ h4))
end Go.Proofs.YtooooiidpaecmaaGreat
