import Derived.Test.YtooooiidpaecmaaGreatHa
import Derived.Test.YtooooiidpaecmaaGreatJr
set_option linter.unusedVariables false
set_option linter.unusedSimpArgs false
/- A file's blocks: which they are, how many. -/
namespace Go.Proofs.YtooooiidpaecmaaGreat
open Go Go.Am
section
variable {S : PS} {X : Nat → Ino} {i : Nat} {x : Ino}
theorem one_mem {q : Pa} {y : Nat} : y ∈ one S x q ↔ nd S x q = y ∧ y ≠ 0 := by
  unfold one
  by_cases h : nd S x q = 0
  · rw [if_pos h, h]
    constructor
    · intro h; cases h
    · rintro ⟨rfl, h⟩; exact absurd rfl h
  · rw [if_neg h, List.mem_singleton]
    constructor
    · rintro rfl; exact ⟨rfl, h⟩
    · rintro ⟨rfl, _⟩; rfl
theorem deep_mem {y : Nat} : y ∈ deepL S x ↔ ∃ q : Pa, q.ok ∧ q.inn ∧ nd S x q = y ∧ y ≠ 0 := by
  unfold deepL
  rw [List.mem_append, List.mem_append, one_mem, one_mem, List.mem_flatMap]
  constructor
  · rintro (⟨h1, h2⟩ | ⟨h1, h2⟩ | ⟨a, ha, h⟩)
    · exact ⟨.r 8, show 8 < 10 by omega, .inl rfl, h1, h2⟩
    · exact ⟨.r 9, show 9 < 10 by omega, .inr rfl, h1, h2⟩
    · obtain ⟨h1, h2⟩ := one_mem.1 h
      exact ⟨.s 9 a, ⟨.inr rfl, List.mem_range.1 ha⟩, rfl, h1, h2⟩
  · rintro ⟨q, h1, h2, h3, h4⟩
    cases q with
    | r k =>
      rcases h2 with rfl | rfl
      · exact .inl ⟨h3, h4⟩
      · exact .inr (.inl ⟨h3, h4⟩)
    | s k a =>
      have h2 : k = 9 := h2
      subst h2
      exact .inr (.inr ⟨a, List.mem_range.2 h1.2, one_mem.2 ⟨h3, h4⟩⟩)
    | t a b => exact h2.elim
theorem one_nodup (q : Pa) : (one S x q).Nodup := by
  unfold one
  split
  · exact List.nodup_nil
  · exact List.nodup_cons.2 ⟨by simp, List.nodup_nil⟩
theorem deep_nodup (hI : Inv S I2 X) (hi : i ∈ I2) : (deepL S (X i)).Nodup := by
  have key : ∀ p q : Pa, p.ok → q.ok → p ≠ q → ∀ y, y ∈ one S (X i) p → y ∉ one S (X i) q := fun p q hp hq hne y h1 h2 => by
    obtain ⟨g1, g2⟩ := one_mem.1 h1
    obtain ⟨g3, _⟩ := one_mem.1 h2
    exact hne (hI.inj i hi i hi p q hp hq (by omega) (by omega)).2
  have ok9 : ∀ a, a < 32 → (Pa.s 9 a).ok := fun a ha => ⟨.inr rfl, ha⟩
  have o8 : (Pa.r 8).ok := show 8 < 10 by omega
  have o9 : (Pa.r 9).ok := show 9 < 10 by omega
  have fl : ∀ n, n ≤ 32 → ((List.range n).flatMap fun a => one S (X i) (.s 9 a)).Nodup := fun n => by
    induction n with
    | zero => intro _; simp
    | succ n ih =>
      intro hn
      rw [List.range_succ, List.flatMap_append]
      refine List.nodup_append.2 ⟨ih (by omega), by simpa using one_nodup _, fun y h1 z h2 e => ?_⟩
      subst e
      obtain ⟨a, ha, h1⟩ := List.mem_flatMap.1 h1
      have ha := List.mem_range.1 ha
      have h2 : y ∈ one S (X i) (.s 9 n) := by simpa using h2
      exact key _ _ (ok9 a (by omega)) (ok9 n (by omega)) (fun e => by cases e; omega) y h1 h2
  unfold deepL
  refine List.nodup_append.2 ⟨one_nodup _, List.nodup_append.2 ⟨one_nodup _, fl 32 (Nat.le_refl _), fun y h1 z h2 e => ?_⟩, fun y h1 z h2 e => ?_⟩
  · subst e
    obtain ⟨a, ha, h2⟩ := List.mem_flatMap.1 h2
    exact key _ _ o9 (ok9 a (List.mem_range.1 ha)) (by nofun) y h1 h2
  · subst e
    rcases List.mem_append.1 h2 with h2 | h2
    · exact key _ _ o8 o9 (by nofun) y h1 h2
    · obtain ⟨a, ha, h2⟩ := List.mem_flatMap.1 h2
      exact key _ _ o8 (ok9 a (List.mem_range.1 ha)) (by nofun) y h1 h2
theorem deep_rng (hI : Inv S I2 X) (hi : i ∈ I2) {y : Nat} (hy : y ∈ deepL S (X i)) : 37 ≤ y ∧ y < 90 := by
  obtain ⟨q, h1, h2, rfl, h4⟩ := deep_mem.1 hy
  exact hI.rng hi h1 h4
theorem deep_leaf (hI : Inv S I2 X) (hi : i ∈ I2) {y : Nat} (hy : y ∈ deepL S (X i)) : ¬ leafB I2 S X y := by
  rintro ⟨j, hj, n, hn, g1, g2⟩
  obtain ⟨q, h1, h2, h3, h4⟩ := deep_mem.1 hy
  obtain ⟨o1, o2⟩ := leafOf_ok hn
  have := (hI.inj i hi j hj q _ h1 o1 (by omega) (by omega)).2
  exact o2 (this ▸ h2)
theorem deep_apart (hI : Inv S I2 X) {j : Nat} (hi : i ∈ I2) (hj : j ∈ I2) (hne : i ≠ j) {y : Nat} (h1 : y ∈ deepL S (X i)) : y ∉ deepL S (X j) := fun h2 => by
  obtain ⟨q, a1, a2, a3, a4⟩ := deep_mem.1 h1
  obtain ⟨r, b1, b2, b3, b4⟩ := deep_mem.1 h2
  exact hne (hI.inj i hi j hj q r a1 b1 (by omega) (by omega)).1
structure PrOk (S : PS) (x : Ino) (L : List (Nat × Nat)) : Prop where
  nd : (L.map (·.1)).Nodup
  el : ∀ e ∈ L, e.1 ≤ 1063 ∧ Go.Am.nd S x (leafOf e.1) = e.2 ∧ e.2 ≠ 0
  all : ∀ k, k ≤ 1063 → Go.Am.nd S x (leafOf k) ≠ 0 → k ∈ L.map (·.1)
theorem data_get {n : Nat} (h : n < (dataL S x).length) : (dataL S x)[n]? = some (Nf S x n) := by
  unfold dataL at h ⊢
  rw [List.length_map, List.length_range] at h
  rw [List.getElem?_map, List.getElem?_range h]; rfl
def cntN (S : PS) (x : Ino) (n : Nat) : Nat := ((List.range n).filter fun k => decide (Nf S x k ≠ 0)).length
theorem cnt_succ (n : Nat) : cntN S x (n + 1) = cntN S x n + if Nf S x n = 0 then 0 else 1 := by
  unfold cntN
  rw [List.range_succ, List.filter_append, List.length_append]
  by_cases h : Nf S x n = 0 <;> simp [h]
theorem cnt_le (n : Nat) : cntN S x n ≤ n := by
  have := List.length_filter_le (fun k => decide (Nf S x k ≠ 0)) (List.range n)
  rw [List.length_range] at this
  exact this
theorem cnt_data {L : List (Nat × Nat)} (h : PrOk S x L) : cntN S x (dataL S x).length = L.length := by
  have hp : ((List.range (dataL S x).length).filter fun k => decide (Nf S x k ≠ 0)).Perm (L.map (·.1)) := by
    refine (List.perm_ext_iff_of_nodup (List.nodup_range.filter _) h.nd).2 fun k => ?_
    rw [List.mem_filter, List.mem_range, decide_eq_true_eq]
    have hl : (dataL S x).length = (lst (Nf S x) 1064 + 1).toNat := by unfold dataL; rw [List.length_map, List.length_range]
    constructor
    · rintro ⟨h1, h2⟩
      have := data_len S x
      exact h.all k (by omega) h2
    · intro hk
      obtain ⟨e, he, rfl⟩ := List.mem_map.1 hk
      obtain ⟨e1, e2, e3⟩ := h.el e he
      have h0 : Nf S x e.1 ≠ 0 := by show Go.Am.nd S x (leafOf e.1) ≠ 0; omega
      refine ⟨?_, h0⟩
      have := lst_max (N := Nf S x) (n := 1064) (k := e.1) (by omega) h0
      omega
  have := hp.length_eq
  rw [List.length_map] at this
  exact this
end
noncomputable abbrev z12 : List AV := [iv 0, iv 0, iv 0, iv 0, iv 0, iv 0, iv 0, iv 0, iv 0, iv 0, iv 0, iv 0]
noncomputable def mP (o o1 : Option Blk) : Option M := ((mS2 o o1).addZ ty_api_Plan 12 z12).wr 2 0 planL
noncomputable def ckG (r : R) : (Bool × Option Blk × AV) × Option Blk × Bool := match r with
  | some (v, m) => (ckF (some (v, m)) 3 nilp 1, m.get 1, ckRow m 2 30 true planL)
  | none => ((false, none, .undef), none, false)
noncomputable def ckH (o : Option M) : (Bool × Option Blk × AV) × Option Blk × Bool := match o with
  | some m => ckG (arun Tryz.prog tbA 100000 9 [.agg planL] m)
  | none => ((false, none, .undef), none, false)
set_option maxRecDepth 100000 in
theorem fr2 (o o1 : Option Blk) : ckH (mP o o1) = ((true, o, .tuple [.ptr 178 0, .ptr 180 0, .ptr 182 0]), o1, true) := by kernel_rfl
set_option maxRecDepth 20000 in
theorem fresh2_ran {o o1 : Option Blk} {m2 : M} (hm : mP o o1 = some m2) : ∃ m1, Fr m1 3 nilp 1 ∧ Keep (mS2 o o1) m1 (fun _ => False) ∧ At m1 2 ty_api_Plan true planL ∧ Ran Tryz.prog tb fn_l13_fresh [.agg planL] m2 (.tuple [.ptr 178 0, .ptr 180 0, .ptr 182 0]) m1 := by
  have h := fr2 o o1
  rw [hm] at h
  have h : ckG (arun Tryz.prog tbA 100000 9 [.agg planL] m2) = _ := h
  generalize hr : arun Tryz.prog tbA 100000 9 [.agg planL] m2 = r at h
  unfold ckG at h
  split at h
  · rename_i v m
    simp only [Prod.mk.injEq] at h
    obtain ⟨h1, h2, h3⟩ := h
    obtain ⟨m1, e, h4, h5⟩ := ckF_ok (.inl rfl) h1
    cases e
    have hlt := h4.g.lt h4.wf
    refine ⟨m, h4, ⟨by show 2 ≤ m.next; omega, h4.wf, fun b hb _ => ?_⟩, ckRow_ok h3, known_ran Tryz.func9 ?_⟩
    · have hb : b < 2 := hb
      rw [get_mS2]
      by_cases h0 : b = 0
      · rw [if_pos h0, h0, h5]
      · rw [if_neg h0, if_pos (by omega : b = 1), (by omega : b = 1), h2]
    · show known (arun Tryz.prog tbA 100000 9 [.agg planL] m2) = _
      rw [hr]; rfl
  · cases h
structure Ac where
  A : Ad
  tt : Nat
  aa : Nat
  x : AV
  zs : List Int
  o : Option Nat
  y : AV
  ws : List Int
  o' : Option Nat
  pb : Nat
  mb : Nat
  ab : Nat
  ub : Nat
structure Ap (m : M) (K : Ac) (S : PS) (own : Nat → Prop) (X : Nat → Ino) (u : Nat → Nat) (V : Nat → List Nat) (sl : Nat → AV) (so : Nat → Option Nat) : Prop where
  wf : Wf m
  g : GAt m K.A S own
  t : TAt m K.tt K.aa K.A.g
  i : Inv S I2 X
  x : RsAt m K.x (K.zs.map iv) K.o
  y : RsAt m K.y (K.ws.map iv) K.o'
  p : At m K.pb ty_api_Plan true planL
  mb : At m K.mb ty_2_sint true [sl 0, sl 1]
  ab : At m K.ab ty_2_sint true [sl 2, sl 3]
  u : At m K.ub ty_int true ((List.range 90).map fun b => ivn (u b))
  s : ∀ q, q < 4 → SlAt m ty_int 1 (sl q) (V q).length ((V q).map ivn) (so q)
  ds : ∀ q r b, q < 4 → r < 4 → so q = some b → so r = some b → q = r
  n2 : ∀ q b, q < 4 → so q = some b → 2 ≤ b ∧ b ≠ K.ub
  u2 : 2 ≤ K.ub
  m2 : 2 ≤ K.mb ∧ 2 ≤ K.ab
  ne : K.mb ≠ K.ab
  xo : ∀ b, K.o = some b → b < 2
  yo : ∀ b, K.o' = some b → b < 2
def upd {α : Type} (f : Nat → α) (q : Nat) (v : α) : Nat → α := fun r => if r = q then v else f r
section
variable {m m' : M} {K : Ac} {S : PS} {own : Nat → Prop} {X : Nat → Ino} {u : Nat → Nat} {V : Nat → List Nat} {sl : Nat → AV} {so : Nat → Option Nat}
theorem Ap.keep (h : Ap m K S own X u V sl so) (k : Keep m m' fun _ => False) : Ap m' K S own X u V sl so :=
  { h with
    wf := k.wf
    g := h.g.k0 h.wf k
    t := h.t.k0 h.wf k
    x := h.x.keep h.wf k fun _ _ => id
    y := h.y.keep h.wf k fun _ _ => id
    p := h.p.keep h.wf k id
    mb := h.mb.keep h.wf k id
    ab := h.ab.keep h.wf k id
    u := h.u.keep h.wf k id
    s := fun q hq => (h.s q hq).keep h.wf k fun _ _ => id }
theorem Ap.step (h : Ap m K S own X u V sl so) {T : PS} {own' : Nat → Prop} {Y : Nat → Ino} (st : Step m m' K.A T own own') (hY : Inv T I2 Y) : Ap m' K T own' Y u V sl so :=
  { h with
    wf := st.kp.wf
    g := st.at'
    t := h.t.kp h.wf st.kp
    i := hY
    x := h.x.kp h.wf st.kp
    y := h.y.kp h.wf st.kp
    p := h.p.kp h.wf st.kp
    mb := h.mb.kp h.wf st.kp
    ab := h.ab.kp h.wf st.kp
    u := h.u.kp h.wf st.kp
    s := fun q hq => (h.s q hq).kp h.wf st.kp }
theorem Ap.rows (h : Ap m K S own X u V sl so) {F : Nat → Prop} (k : Keep m m' F) (hF : ∀ b, F b → 2 ≤ b ∧ (kd m b (ty_int + 1) ∨ kd m b (ty_2_sint + 1))) :
    Wf m' ∧ GAt m' K.A S own ∧ TAt m' K.tt K.aa K.A.g ∧ RsAt m' K.x (K.zs.map iv) K.o ∧ RsAt m' K.y (K.ws.map iv) K.o' ∧ At m' K.pb ty_api_Plan true planL := by
  have hn : ∀ {b c : Nat}, kd m b c → c ≠ ty_int + 1 → c ≠ ty_2_sint + 1 → ¬ F b := fun hk h1 h2 hf => by
    rcases (hF _ hf).2 with h | h
    · exact h1 (hk.inj h)
    · exact h2 (hk.inj h)
  refine ⟨k.wf, h.g.keep h.wf k (hn h.g.g.kd (by decide) (by decide)) (hn h.g.o.kd (by decide) (by decide)) (hn h.g.l.kd (by decide) (by decide)) (fun b hb => hn (h.g.kdm b hb) (by decide) (by decide)) (fun b hb => hn (h.g.ow b hb) (by decide) (by decide)),
    h.t.keep h.wf k (fun b hb => by rcases hb with hb | hb <;> exact hn hb (by decide) (by decide)), h.x.keep h.wf k (fun b hb hf => ?_), h.y.keep h.wf k (fun b hb hf => ?_), h.p.keep h.wf k (hn h.p.kd (by decide) (by decide))⟩
  · have := h.xo b hb; have := (hF b hf).1; omega
  · have := h.yo b hb; have := (hF b hf).1; omega
theorem Ap.use (h : Ap m K S own X u V sl so) {b : Nat} (hb : b < 90) : ∃ m', m.wr K.ub b [ivn (u b + 1)] = some m' ∧ Ap m' K S own X (upd u b (u b + 1)) V sl so ∧ Keep m m' (fun c => c = K.ub) := by
  have hl : ((List.range 90).map fun b => ivn (u b)).length = 90 := by simp
  obtain ⟨m', e, h1, k, _⟩ := h.u.st h.wf b [ivn (u b + 1)] (l' := (List.range 90).map fun c => ivn (upd u b (u b + 1) c)) (by
    apply List.ext_getElem?
    intro j
    rw [splice_get (by rw [hl]; exact hb), List.getElem?_map, List.getElem?_map]
    simp only [List.length_cons, List.length_nil]
    by_cases hj : j = b
    · subst hj
      rw [if_pos (by omega), List.getElem?_range hb, Nat.sub_self]
      show some _ = some (ivn (upd u j (u j + 1) j))
      rw [upd, if_pos rfl]
    · rw [if_neg (by omega)]
      by_cases h9 : j < 90
      · rw [List.getElem?_range h9]
        show some (ivn (u j)) = some (ivn (upd u b (u b + 1) j))
        rw [upd, if_neg hj]
      · rw [List.getElem?_eq_none (by rw [List.length_range]; omega)]; rfl) (by rw [hl]; exact hb)
  obtain ⟨g1, g2, g3, g4, g5, g6⟩ := h.rows k fun c hc => by subst hc; exact ⟨h.u2, .inl h.u.kd⟩
  exact ⟨m', e, { h with
    wf := g1
    g := g2
    t := g3
    x := g4
    y := g5
    p := g6
    mb := h.mb.keep h.wf k (h.mb.kd.ne h.u.kd)
    ab := h.ab.keep h.wf k (h.ab.kd.ne h.u.kd)
    u := h1
    s := fun q hq => (h.s q hq).keep h.wf k fun c hc => (h.n2 q c hq hc).2 }, k⟩
theorem Ap.push (h : Ap m K S own X u V sl so) {q : Nat} (hq : q < 4) (v : Nat) (hl : (V q).length ≤ 2000) :
    ∃ m3 g m4 m5 sl' so', m.addL ty_int 1 [ivn v] = m3 ∧ rApp ty_int 1 8 [iv 0] (.cst (sl q)) (.cst (.slice m.next 0 1 1 false)) .leaf m3 = some (g, m4) ∧ cellsO g = some [g] ∧ m4.wr (if q < 2 then K.mb else K.ab) (q % 2) [g] = some m5 ∧ Ap m5 K S own X u (upd V q (V q ++ [v])) sl' so' := by
  obtain ⟨m3, e3, a3, k3, n3⟩ := addL_at h.wf ty_int 1 [ivn v]
  have hy : Rds m3 (.slice m.next 0 1 1 false) 1 1 [ivn v] := (SlAt.row (xt := true) (junk := []) (cells := [ivn v]) (len := 1) (cap := 1) a3 rfl rfl (Nat.le_refl _) (by omega)).src
  obtain ⟨g, m4, o4, e4, s4, k4, ho⟩ := ((h.s q hq).keep h.wf k3 fun _ _ => id).append (bytes := 8) (z := [iv 0]) k3.wf hy (room_of (by omega) (by omega))
  have k04 : Keep m m4 fun b => so q = some b := k3.ft k4
  have hs4 : ∀ {b c : Nat}, kd m b c → c ≠ ty_int + 1 → ¬ so q = some b := fun hk hne e => by
    have := h.s q hq
    rw [e] at this
    exact hne (hk.inj this.kd)
  have mb4 := h.mb.keep h.wf k04 (hs4 h.mb.kd (by decide))
  have ab4 := h.ab.keep h.wf k04 (hs4 h.ab.kd (by decide))
  have hu4 : ¬ so q = some K.ub := fun e => (h.n2 q _ hq e).2 rfl
  have u4 := h.u.keep h.wf k04 hu4
  have hgc := s4.cells1
  have hL : (V q ++ [v]).length = (V q).length + 1 := by simp
  have hC : (V q ++ [v]).map ivn = (V q).map ivn ++ [ivn v] := by rw [List.map_append]; rfl
  have ho' : ∀ b, o4 = some b → so q = some b ∨ (m.next ≤ b ∧ b < m4.next) := fun b hb => by
    rcases ho with e | ⟨c, e, h1, h2⟩
    · exact .inl (by rw [← e]; exact hb)
    · rw [e] at hb; cases hb; exact .inr ⟨by omega, h2⟩
  have hn2 := h.mb.lt h.wf
  have hab := h.ab.lt h.wf
  have hub := h.u.lt h.wf
  -- the row that is stored to
  obtain ⟨m5, e5, k5, mb5, ab5⟩ : ∃ m5, m4.wr (if q < 2 then K.mb else K.ab) (q % 2) [g] = some m5 ∧ Keep m4 m5 (fun b => b = if q < 2 then K.mb else K.ab) ∧ At m5 K.mb ty_2_sint true [upd sl q g 0, upd sl q g 1] ∧ At m5 K.ab ty_2_sint true [upd sl q g 2, upd sl q g 3] := by
    have hne := h.ne
    obtain rfl | rfl | rfl | rfl : q = 0 ∨ q = 1 ∨ q = 2 ∨ q = 3 := by omega
    · obtain ⟨m5, e, a, k, _⟩ := mb4.st k04.wf 0 [g] (l' := [g, sl 1])
      exact ⟨m5, e, k, a, ab4.keep k04.wf k (Ne.symm hne)⟩
    · obtain ⟨m5, e, a, k, _⟩ := mb4.st k04.wf 1 [g] (l' := [sl 0, g])
      exact ⟨m5, e, k, a, ab4.keep k04.wf k (Ne.symm hne)⟩
    · obtain ⟨m5, e, a, k, _⟩ := ab4.st k04.wf 0 [g] (l' := [g, sl 3])
      exact ⟨m5, e, k, mb4.keep k04.wf k hne, a⟩
    · obtain ⟨m5, e, a, k, _⟩ := ab4.st k04.wf 1 [g] (l' := [sl 2, g])
      exact ⟨m5, e, k, mb4.keep k04.wf k hne, a⟩
  have hrow : ∀ {c : Nat}, kd m4 (if q < 2 then K.mb else K.ab) c → c = ty_2_sint + 1 := fun hk => by
    by_cases h2 : q < 2
    · rw [if_pos h2] at hk; exact hk.inj mb4.kd
    · rw [if_neg h2] at hk; exact hk.inj ab4.kd
  have k05 : Keep m m5 fun b => so q = some b ∨ b = if q < 2 then K.mb else K.ab := (k04.mono fun _ _ => .inl).trans k5 fun b _ e => .inr e
  obtain ⟨g1, g2, g3, g4, g5, g6⟩ := h.rows k05 fun c hc => by
    rcases hc with hc | rfl
    · have := h.s q hq
      rw [hc] at this
      exact ⟨(h.n2 q c hq hc).1, .inl this.kd⟩
    · by_cases h2 : q < 2
      · rw [if_pos h2]; exact ⟨h.m2.1, .inr h.mb.kd⟩
      · rw [if_neg h2]; exact ⟨h.m2.2, .inr h.ab.kd⟩
  refine ⟨m3, g, m4, m5, upd sl q g, upd so q o4, e3, e4, hgc, e5, { h with
    wf := g1
    g := g2
    t := g3
    x := g4
    y := g5
    p := g6
    mb := mb5
    ab := ab5
    u := u4.keep k04.wf k5 fun e => absurd (hrow (e ▸ u4.kd)) (by decide)
    s := fun r hr => ?_
    ds := fun r r' b hr hr' h1 h2 => ?_
    n2 := fun r b hr h1 => ?_ }⟩
  · by_cases e : r = q
    · subst e
      rw [upd, if_pos rfl, upd, if_pos rfl, upd, if_pos rfl, hL, hC]
      exact s4.keep k04.wf k5 fun b hb e => by
        subst hb
        exact absurd (hrow (e ▸ s4.kd)) (by decide)
    · rw [upd, if_neg e, upd, if_neg e, upd, if_neg e]
      have sr := (h.s r hr).keep h.wf k04 fun b hb e' => e (h.ds r q b hr hq hb e')
      exact sr.keep k04.wf k5 fun b hb e => by
        rw [hb] at sr
        exact absurd (hrow (e ▸ sr.kd)) (by decide)
  · have hlt : ∀ r b, r < 4 → so r = some b → b < m.next := fun r b hr e => by
      have := h.s r hr
      rw [e] at this
      exact this.kd.lt h.wf
    unfold upd at h1 h2
    by_cases e : r = q <;> by_cases e' : r' = q
    · omega
    · rw [if_pos e] at h1; rw [if_neg e'] at h2
      rcases ho' b h1 with h3 | ⟨h3, _⟩
      · exact e.trans (h.ds q r' b hq hr' h3 h2)
      · have := hlt r' b hr' h2; omega
    · rw [if_neg e] at h1; rw [if_pos e'] at h2
      rcases ho' b h2 with h3 | ⟨h3, _⟩
      · exact (h.ds r q b hr hq h1 h3).trans e'.symm
      · have := hlt r b hr h1; omega
    · rw [if_neg e] at h1; rw [if_neg e'] at h2
      exact h.ds r r' b hr hr' h1 h2
  · unfold upd at h1
    by_cases e : r = q
    · rw [if_pos e] at h1
      rcases ho' b h1 with h3 | ⟨h3, _⟩
      · exact h.n2 q b hq h3
      · have := h.u2; omega
    · rw [if_neg e] at h1; exact h.n2 r b hr h1
end
def uOk (S : PS) (X : Nat → Ino) (u : Nat → Nat) : Prop := ∀ b, (leafB I2 S X b → u b = 1) ∧ (¬ leafB I2 S X b → u b = 0)
def Aq (K : Ac) (m : M) : Prop := ∃ S own X u V sl so, ∃ L : Nat → List (Nat × Nat), Ap m K S own X u V sl so ∧ uOk S X u ∧ ∀ w, w < 2 → PrOk S (X (2 + w)) (L w) ∧ V w = (L w).map (·.2) ∧ V (2 + w) = (L w).map (·.1)
abbrev apF : List Nat := [0, 1, 5, 8, 9, 11, 12, 13, 14]
section
variable {m : M} {K : Ac}
theorem b_01 : binS Tryz.prog .add ty_int (iv 0) (iv 1) = some (iv 1) := p1
theorem PrOk.len {S : PS} {x : Ino} {L : List (Nat × Nat)} (h : PrOk S x L) : L.length ≤ 1064 := by
  have h1 := cnt_data h
  have h2 := cnt_le (S := S) (x := x) (dataL S x).length
  have h3 := data_len S x
  omega
theorem PrOk.move {S T : PS} {x y : Ino} {L : List (Nat × Nat)} (h : PrOk S x L) (hn : ∀ k, k ≤ 1063 → Go.Am.nd T y (leafOf k) = Go.Am.nd S x (leafOf k)) : PrOk T y L :=
  ⟨h.nd, fun e he => by
    obtain ⟨h1, h2, h3⟩ := h.el e he
    exact ⟨h1, by rw [hn _ h1]; exact h2, h3⟩, fun k hk h0 => h.all k hk (by rw [← hn k hk]; exact h0)⟩
theorem PrOk.add {S T : PS} {x y : Ino} {L : List (Nat × Nat)} (h : PrOk S x L) {k b : Nat} (hk : k ≤ 1063) (h0 : Go.Am.nd S x (leafOf k) = 0) (h1 : Go.Am.nd T y (leafOf k) = b) (hb : b ≠ 0) (hn : ∀ j, j ≤ 1063 → j ≠ k → Go.Am.nd T y (leafOf j) = Go.Am.nd S x (leafOf j)) :
    PrOk T y (L ++ [(k, b)]) := by
  have hkL : k ∉ L.map (·.1) := fun hm => by
    obtain ⟨e, he, rfl⟩ := List.mem_map.1 hm
    obtain ⟨_, h2, h3⟩ := h.el e he
    omega
  refine ⟨?_, fun e he => ?_, fun j hj hj0 => ?_⟩
  · rw [List.map_append]
    refine List.nodup_append.2 ⟨h.nd, by simp, fun a ha c hc e => ?_⟩
    subst e
    have hc : a = k := by simpa using hc
    exact hkL (hc ▸ ha)
  · rcases List.mem_append.1 he with he | he
    · obtain ⟨e1, e2, e3⟩ := h.el e he
      exact ⟨e1, by rw [hn _ e1 fun e' => hkL (e' ▸ List.mem_map_of_mem he)]; exact e2, e3⟩
    · have he : e = (k, b) := by simpa using he
      subst he
      exact ⟨hk, h1, hb⟩
  · rw [List.map_append]
    by_cases e : j = k
    · subst e; exact List.mem_append_right _ (by simp)
    · rw [hn j hj e] at hj0
      exact List.mem_append_left _ (h.all j hj hj0)
theorem mk_same {S T : PS} {X Y : Nat → Ino} {i k : Nat} (hM : Mk I2 S X T Y i (leafOf k)) {j n : Nat} (hj : j ∈ I2) (hn : n ≤ 1063) (h : ¬ (j = i ∧ n = k)) : nd T (Y j) (leafOf n) = nd S (X j) (leafOf n) :=
  hM.leaf j hj _ (leafOf_ok hn).1 (leafOf_ok hn).2 fun ⟨e1, e2⟩ => h ⟨e1, leafOf_inj e2⟩
theorem i2_2 {w : Nat} (hw : w < 2) : 2 + w ∈ I2 := by
  obtain rfl | rfl : w = 0 ∨ w = 1 := by omega
  · decide
  · decide
theorem aq_same {m : M} {K : Ac} {S T : PS} {own' : Nat → Prop} {X Y : Nat → Ino} {u : Nat → Nat} {V : Nat → List Nat} {sl : Nat → AV} {so : Nat → Option Nat} {L : Nat → List (Nat × Nat)} {i k : Nat} (hi : i ∈ I2) (hk : k ≤ 1063)
    (hA : Ap m K T own' Y u V sl so) (hu : uOk S X u) (hp : ∀ w, w < 2 → PrOk S (X (2 + w)) (L w) ∧ V w = (L w).map (·.2) ∧ V (2 + w) = (L w).map (·.1)) (hM : Mk I2 S X T Y i (leafOf k)) (hs : nd T (Y i) (leafOf k) = nd S (X i) (leafOf k)) : Aq K m := by
  refine ⟨T, own', Y, u, V, sl, so, L, hA, fun b => ?_, fun w hw => ⟨(hp w hw).1.move fun n hn => ?_, (hp w hw).2⟩⟩
  · have e : leafB I2 T Y b ↔ leafB I2 S X b := by
      rw [leaf_make hM hi hk]
      refine ⟨fun h => ?_, .inl⟩
      rcases h with h | ⟨h0, h1, h2⟩
      · exact h
      · omega
    rw [e]
    exact hu b
  · by_cases e : 2 + w = i ∧ n = k
    · rw [e.1, e.2]; exact hs
    · exact mk_same hM (i2_2 hw) hn e
theorem b_bne (c : Bool) : binS Tryz.prog .neq ty_bool (.b c) (.b c) = some (.b false) := by cases c <;> kernel_rfl
theorem apart_round (w : Nat) (hw : w < 2) {z : Int} (h : Aq K m) {fr : Go.Am.Fr} (f5 : ev (tm 5) fr = .ptr K.pb 0) (f8 : ev (tm 8) fr = .ptr K.tt 0) (f9 : ev (tm 9) fr = .ptr K.A.o 0) (f11 : ev (tm 11) fr = .ptr K.mb 0) (f12 : ev (tm 12) fr = .ptr K.ab 0) (f13 : ev (tm 13) fr = .slice K.ub 0 90 90 false)
    (f15 : ev (tm 15) fr = iv (w : Nat)) (f16 : ev (tm 16) fr = iv z) {R : Am.X → Go.Am.Fr → M → Prop} (hR : ∀ e fr' m', (e = .normal ∨ e = .exit 0) → Aq K m' → (∀ t ∈ apF, ev (tm t) fr' = ev (tm t) fr) → R e fr' m') :
    GX Tryz.prog tb k_f2_28 R fr m := by
  obtain ⟨S, own, X, u, V, sl, so, L, hA, hu, hp⟩ := h
  have hi := i2_2 hw
  have h2 : (2 : Int) + (w : Nat) = ((2 + w : Nat) : Int) := by omega
  by_cases hz : z < 0 ∨ 1063 < z
  · obtain ⟨m1, k1, r1⟩ := Find_out (j := ((2 + w : Nat) : Int)) hA.wf hA.g hA.t hz
    have hA1 := hA.keep k1
    obtain ⟨m2, k2, r2⟩ := Make_out (i := ((2 + w : Nat) : Int)) hA1.wf hA1.g hA1.t hz
    have hA2 := hA1.keep k2
    simp -implicitDefEqProofs only [o_l13_InodeApart_28, o_f2, r_f2_18, r_f2_19, r_f2_20, f8, f9, f15, f16, b_add ty_int (show -9223372036854775808 ≤ (2 : Int) + (w : Int) by omega) (show (2 : Int) + (w : Int) ≤ 9223372036854775807 by omega), h2, r1.eq, r2.eq, show ((2 : Int) = 0) = False from eq_false (by omega), ↓reduceIte, Nat.reduceEqDiff, List.getElem?_cons_succ, List.getElem?_cons_zero, wA, wB, wC, wD]
    exact hR _ _ _ (.inr rfl) ⟨S, own, X, u, V, sl, so, L, hA2, hu, hp⟩ (by simp -implicitDefEqProofs only [List.mem_cons, List.not_mem_nil, or_false, forall_eq_or_imp, forall_eq, ev_tm, ↓reduceIte, Nat.reduceEqDiff, and_self])
  · obtain ⟨k, rfl⟩ : ∃ k : Nat, z = k := ⟨z.toNat, by omega⟩
    have hk : k ≤ 1063 := by omega
    obtain ⟨m1, k1, r1⟩ := Find_ran hA.wf hA.g hA.t hA.i hi hk
    have hA1 := hA.keep k1
    simp -implicitDefEqProofs only [o_l13_InodeApart_28, o_f2, r_f2_18, r_f2_19, f8, f9, f15, f16, b_add ty_int (show -9223372036854775808 ≤ (2 : Int) + (w : Int) by omega) (show (2 : Int) + (w : Int) ≤ 9223372036854775807 by omega), h2, r1.eq, ↓reduceIte, Nat.reduceEqDiff, List.getElem?_cons_succ, List.getElem?_cons_zero, wA, wB, wC, wD]
    refine Make_ran hA1.wf hA1.g hA1.t hA1.i hi hk (fun m2 own' T Y b hM hb hb0 st => ?_) (fun m2 own' T Y hM h0 hb st => ?_)
    · have hA2 := hA1.step st hM.inv
      obtain ⟨hpok, _⟩ := leafOf_ok hk
      obtain ⟨b1, b2⟩ := hM.inv.rng hi hpok (by rw [hb]; exact hb0)
      rw [hb] at b1 b2
      by_cases h0 : nd S (X (2 + w)) (leafOf k) = 0
      · rw [h0, decide_eq_true rfl]
        obtain ⟨hpw, hv1, hv2⟩ := hp w hw
        have hlen := hpw.len
        have hnl := leaf_new hM hi hk h0 hb hb0
        have hu0 := (hu b).2 hnl
        obtain ⟨m3, g1, m4, m5, sl1, so1, p1, p2, p3, p4, hA5⟩ := hA2.push (q := w) (by omega) b (by rw [hv1, List.length_map]; omega)
        rw [if_pos hw, Nat.mod_eq_of_lt hw] at p4
        have hVw : upd V w (V w ++ [b]) (2 + w) = V (2 + w) := if_neg (by omega)
        obtain ⟨m6, g2, m7, m8, sl2, so2, p5, p6, p7, p8, hA8⟩ := hA5.push (q := 2 + w) (by omega) k (by rw [hVw, hv2, List.length_map]; omega)
        rw [if_neg (by omega), (by omega : (2 + w) % 2 = w)] at p8
        obtain ⟨m9, p9, hA9, _⟩ := hA8.use b2
        rw [hu0] at p9
        have p9 : m8.wr K.ub b [iv 1] = some m9 := p9
        have p1 : m2.addL ty_int 1 [iv (b : Int)] = m3 := p1
        have p5 : m5.addL ty_int 1 [iv (k : Int)] = m6 := p5
        have q1 := v_iaA (m := m2) 2 1 K.mb 0 hw
        have q1' := v_iaA (m := m4) 2 1 K.mb 0 hw
        have q2 := v_iaA (m := m5) 2 1 K.ab 0 hw
        have q2' := v_iaA (m := m7) 2 1 K.ab 0 hw
        have q3 := v_iaS (m := m8) 1 K.ub 0 90 90 false b2
        rw [Nat.zero_add, Nat.mul_one] at q1 q1' q2 q2' q3
        have d1 : m2.rd K.mb w = some (sl w) := by
          rw [hA2.mb.rd]
          obtain rfl | rfl : w = 0 ∨ w = 1 := by omega
          · rfl
          · rfl
        have d2 : m5.rd K.ab w = some (sl1 (2 + w)) := by
          rw [hA5.ab.rd]
          obtain rfl | rfl : w = 0 ∨ w = 1 := by omega
          · rfl
          · rfl
        have d3 : m8.rd K.ub b = some (iv 0) := by
          rw [hA8.u.rd, List.getElem?_map, List.getElem?_range b2]
          show some (ivn (u b)) = _
          rw [hu0]; rfl
        simp -implicitDefEqProofs only [o_f2, r_f2_20, r_f2_21, r_f2_23, r_f2_24, r_f2_25, r_f2_26, f5, f11, f12, f13, f15, f16, hA2.p.rd, b_bne, b_01, show ((0 : Int) = 10) = False from eq_false (by omega), show ((0 : Int) = 2) = False from eq_false (by omega), show ((b : Int) < 37) = False from eq_false (by omega), show ((b : Int) ≥ 90) = False from eq_false (by omega), o_iaA, q1, q1', q2, q2', q3, d1, d2, d3, p1, p2, p3, p4, p5, p6, p7, p8, p9, ↓reduceIte, Nat.reduceEqDiff, Nat.reduceLeDiff, List.getElem?_cons_succ, List.getElem?_cons_zero, wA, wB, wC, wD]
        have hVV : upd V w (V w ++ [b]) (2 + w) ++ [k] = V (2 + w) ++ [k] := by rw [hVw]
        refine hR _ _ _ (.inl rfl) ⟨T, own', Y, _, _, sl2, so2, upd L w (L w ++ [(k, b)]), hA9, fun c => ?_, fun v hv => ?_⟩ (by simp -implicitDefEqProofs only [List.mem_cons, List.not_mem_nil, or_false, forall_eq_or_imp, forall_eq, ev_tm, ↓reduceIte, Nat.reduceEqDiff, and_self])
        · have e : leafB I2 T Y c ↔ leafB I2 S X c ∨ c = b := by
            rw [leaf_make hM hi hk]
            refine ⟨fun h => ?_, fun h => ?_⟩
            · rcases h with h | ⟨_, h1, _⟩
              · exact .inl h
              · exact .inr (by omega)
            · rcases h with h | rfl
              · exact .inl h
              · exact .inr ⟨h0, hb, hb0⟩
          rw [e]
          by_cases hc : c = b
          · subst hc
            rw [upd, if_pos rfl, hu0]
            exact ⟨fun _ => rfl, fun h => absurd (.inr rfl) h⟩
          · rw [upd, if_neg hc]
            exact ⟨fun h => (hu c).1 (h.resolve_right hc), fun h => (hu c).2 fun h' => h (.inl h')⟩
        · by_cases e : v = w
          · subst e
            refine ⟨?_, ?_, ?_⟩
            · rw [show upd L v (L v ++ [(k, b)]) v = L v ++ [(k, b)] from if_pos rfl]
              exact hpw.add hk h0 hb hb0 fun n hn hne => mk_same hM hi hn fun h => hne h.2
            · rw [show upd L v (L v ++ [(k, b)]) v = L v ++ [(k, b)] from if_pos rfl, upd, if_neg (by omega), upd, if_pos rfl, hv1, List.map_append]; rfl
            · rw [show upd L v (L v ++ [(k, b)]) v = L v ++ [(k, b)] from if_pos rfl, upd, if_pos rfl, hVw, hv2, List.map_append]; rfl
          · obtain ⟨g1, g2, g3⟩ := hp v hv
            have eL : upd L w (L w ++ [(k, b)]) v = L v := if_neg e
            rw [eL]
            refine ⟨g1.move fun n hn => mk_same hM (i2_2 hv) hn fun h => e (by omega), ?_, ?_⟩
            · rw [upd, if_neg (by omega), upd, if_neg e]; exact g2
            · rw [upd, if_neg (by omega), upd, if_neg (by omega)]; exact g3
      · have hbo : nd S (X (2 + w)) (leafOf k) = b := by rw [← hb, hM.old _ hi _ hpok h0]
        rw [hbo, decide_eq_false hb0]
        simp -implicitDefEqProofs only [o_f2, r_f2_20, r_f2_21, r_f2_23, f5, hA2.p.rd, b_bne, show ((0 : Int) = 10) = False from eq_false (by omega), show ((0 : Int) = 2) = False from eq_false (by omega), show ((b : Int) = 0) = False from eq_false (by omega), show ((b : Int) < 37) = False from eq_false (by omega), show ((b : Int) ≥ 90) = False from eq_false (by omega), ↓reduceIte, Nat.reduceEqDiff, List.getElem?_cons_succ, List.getElem?_cons_zero, wA, wB, wC, wD]
        exact hR _ _ _ (.inl rfl) (aq_same hi hk hA2 hu hp hM (by rw [hb, hbo])) (by simp -implicitDefEqProofs only [List.mem_cons, List.not_mem_nil, or_false, forall_eq_or_imp, forall_eq, ev_tm, ↓reduceIte, Nat.reduceEqDiff, and_self])
    · have hA2 := hA1.step st hM.inv
      simp -implicitDefEqProofs only [o_f2, r_f2_20, ↓reduceIte, Nat.reduceEqDiff, List.getElem?_cons_succ, List.getElem?_cons_zero, wA, wB, wC, wD]
      exact hR _ _ _ (.inr rfl) (aq_same hi hk hA2 hu hp hM (by rw [hb, h0])) (by simp -implicitDefEqProofs only [List.mem_cons, List.not_mem_nil, or_false, forall_eq_or_imp, forall_eq, ev_tm, ↓reduceIte, Nat.reduceEqDiff, and_self])
end
end Go.Proofs.YtooooiidpaecmaaGreat
