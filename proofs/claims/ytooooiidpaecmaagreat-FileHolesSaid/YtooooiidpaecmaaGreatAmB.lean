import Derived.Test.YtooooiidpaecmaaGreatAmA
import Derived.Laws.CopyRow
import Derived.Below
/- The abstract machine: trees, the reading of its values in the model's world, memory. -/
namespace Go.Am
open Go
theorem bc_true {β : Type} (t e : β) : bc true t e = t := rfl
theorem bc_false {β : Type} (t e : β) : bc false t e = e := rfl
theorem bc_eq {β : Type} (c : Bool) (t e : β) : bc c t e = if c then t else e := by cases c <;> rfl
theorem fc_eq {β : Type} (n : Nat) (k : Nat → β) : fc n k = k n := by cases n <;> rfl
theorem ob_eq {α β : Type} (x : Option α) (k : α → Option β) : ob x k = x.bind k := by cases x <;> rfl
theorem ob_some {α β : Type} {x : Option α} {k : α → Option β} {r : β} (h : ob x k = some r) : ∃ a, x = some a ∧ k a = some r := by
  cases x with
  | none => simp [ob] at h
  | some a => exact ⟨a, rfl, h⟩
theorem bc_some {β : Type} {c : Bool} {t : Option β} {r : β} (h : bc c t none = some r) : c = true ∧ t = some r := by
  cases c with
  | true => exact ⟨rfl, h⟩
  | false => simp [bc] at h
theorem bc_none {β : Type} {c : Bool} {t : Option β} {r : β} (h : bc c none t = some r) : c = false ∧ t = some r := by
  cases c with
  | false => exact ⟨rfl, h⟩
  | true => simp [bc] at h
theorem nbeq (a b : Nat) : Nat.beq a b = decide (a = b) := by
  cases h : Nat.beq a b
  · simp [Nat.ne_of_beq_eq_false h]
  · simp [Nat.eq_of_beq_eq_true h]
theorem nble (a b : Nat) : Nat.ble a b = decide (a ≤ b) := by
  cases h : Nat.ble a b
  · symm; rw [decide_eq_false_iff_not]; intro h2; rw [Nat.ble_eq_true_of_le h2] at h; cases h
  · simp [Nat.le_of_ble_eq_true h]
section
variable {α : Type}
theorem getP_nil (t : Tr α) : getP [] t = match t with | .leaf => none | .node _ v _ => v := by cases t <;> rfl
theorem getP_cons (b : Bool) (p : List Bool) (t : Tr α) : getP (b :: p) t = match t with | .leaf => none | .node l _ r => if b then getP p l else getP p r := by cases t <;> cases b <;> rfl
theorem setP_nil (x : α) (t : Tr α) : setP x [] t = match t with | .leaf => .node .leaf (some x) .leaf | .node l _ r => .node l (some x) r := by cases t <;> rfl
theorem setP_cons (x : α) (b : Bool) (p : List Bool) (t : Tr α) : setP x (b :: p) t =
    match t with
    | .leaf => if b then .node (setP x p .leaf) none .leaf else .node .leaf none (setP x p .leaf)
    | .node l v r => if b then .node (setP x p l) v r else .node l v (setP x p r) := by cases t <;> cases b <;> rfl
theorem getP_leaf (p : List Bool) : getP p (.leaf : Tr α) = none := by cases p <;> rfl
theorem getP_setP_same (x : α) : ∀ (p : List Bool) (t : Tr α), getP p (setP x p t) = some x
  | [], t => by cases t <;> rfl
  | b :: p, t => by
    rw [setP_cons]
    cases t <;> cases b <;> simp [getP_cons, getP_setP_same x p]
theorem getP_setP_ne (x : α) : ∀ (p q : List Bool) (t : Tr α), p ≠ q → getP q (setP x p t) = getP q t
  | [], [], _, h => absurd rfl h
  | [], c :: q, t, _ => by cases t <;> cases c <;> simp [setP_nil, getP_cons, getP_leaf]
  | b :: p, [], t, _ => by cases t <;> cases b <;> simp [setP_cons, getP_nil]
  | b :: p, c :: q, t, h => by
    rw [setP_cons]
    have hpq : b = c → p ≠ q := fun e e' => h (by rw [e, e'])
    cases t <;> cases b <;> cases c <;> simp [getP_cons, getP_leaf] <;> first
      | (rw [getP_setP_ne x p q _ (hpq rfl)]; try rw [getP_leaf])
      | skip
end
def dec : List Bool → Nat
  | [] => 0
  | true :: l => 2 * dec l + 1
  | false :: l => 2 * dec l + 2
theorem dec_pthF : ∀ (f n : Nat), n ≤ f → dec (pthF f n) = n
  | 0, n, h => by
    have : n = 0 := by omega
    subst this; rfl
  | f + 1, n, h => by
    have e : pthF (f + 1) n = bc (Nat.beq n 0) [] (bc (Nat.beq (n % 2) 1) (true :: pthF f (n / 2)) (false :: pthF f (n / 2 - 1))) := rfl
    rw [e, bc_eq, bc_eq]
    by_cases h0 : n = 0
    · subst h0; rfl
    · have hb : Nat.beq n 0 = false := by rw [nbeq]; simpa using h0
      rw [hb]
      by_cases h1 : n % 2 = 1
      · have hb1 : Nat.beq (n % 2) 1 = true := by rw [nbeq]; simpa using h1
        rw [hb1]
        simp only [Bool.false_eq_true, if_false, if_true, dec]
        rw [dec_pthF f (n / 2) (by omega)]; omega
      · have hb1 : Nat.beq (n % 2) 1 = false := by rw [nbeq]; simpa using h1
        rw [hb1]
        simp only [Bool.false_eq_true, if_false, dec]
        rw [dec_pthF f (n / 2 - 1) (by omega)]; omega
theorem dec_pth (n : Nat) : dec (pth n) = n := dec_pthF n n (Nat.le_refl _)
theorem pth_inj {a b : Nat} (h : pth a = pth b) : a = b := by rw [← dec_pth a, ← dec_pth b, h]
theorem pth_ne {a b : Nat} (h : a ≠ b) : pth a ≠ pth b := fun e => h (pth_inj e)
theorem get_set {α : Type} (t : Tr α) (i j : Nat) (x : α) : getP (pth j) (setP x (pth i) t) = if j = i then some x else getP (pth j) t := by
  by_cases h : j = i
  · subst h; simp [getP_setP_same]
  · rw [if_neg h, getP_setP_ne]; exact pth_ne (Ne.symm h)
theorem fillP_cons {α : Type} (v : α) (l : List α) (i : Nat) (t : Tr α) : fillP (v :: l) i t = fillP l (i + 1) (setP v (pth i) t) := by
  show fc (Nat.succ i) _ = _
  rw [fc_eq]; rfl
theorem get_fill {α : Type} : ∀ (l : List α) (i : Nat) (t : Tr α) (j : Nat), getP (pth j) (fillP l i t) = if i ≤ j ∧ j < i + l.length then l[j - i]? else getP (pth j) t
  | [], i, t, j => by
    have : ¬ (i ≤ j ∧ j < i + ([] : List α).length) := by simp
    rw [if_neg this]; rfl
  | v :: l, i, t, j => by
    rw [fillP_cons, get_fill l (i + 1) _ j, get_set]
    by_cases h : j = i
    · subst h
      have h1 : ¬ (j + 1 ≤ j ∧ j < j + 1 + l.length) := by omega
      simp [h1]
    · by_cases h2 : i + 1 ≤ j ∧ j < i + 1 + l.length
      · have h3 : i ≤ j ∧ j < i + (v :: l).length := by simp; omega
        rw [if_pos h2, if_pos h3]
        obtain ⟨k, hk⟩ : ∃ k, j - i = k + 1 := ⟨j - i - 1, by omega⟩
        rw [hk, List.getElem?_cons_succ]
        congr 1; omega
      · have h3 : ¬ (i ≤ j ∧ j < i + (v :: l).length) := by simp; omega
        rw [if_neg h2, if_neg h3, if_neg h]
structure RB where
  blk : Nat
  sh : Nat
  ext : Nat
structure Ren where
  loc : Nat → Option RB
  sym : Nat → Value
def Ren.le (ρ ρ' : Ren) : Prop := (∀ b r, ρ.loc b = some r → ρ'.loc b = some r) ∧ ρ'.sym = ρ.sym
theorem Ren.le_refl (ρ : Ren) : ρ.le ρ := ⟨fun _ _ h => h, rfl⟩
theorem Ren.le_trans {a b c : Ren} (h : a.le b) (k : b.le c) : a.le c := ⟨fun _x _r e => k.1 _ _ (h.1 _ _ e), k.2.trans h.2⟩
def symOk (i : Nat) (v : Value) : Bool := match i % 4, v with
  | 0, .int .u8 (.ofNat _) => true
  | 1, .int .i64 (.negSucc _) => true
  | 2, .int .i64 (.ofNat k) => decide (i / 4 < k)
  | _, _ => false
def bytesOf : List Value → Option (List UInt8)
  | [] => some []
  | .int .u8 (.ofNat n) :: l => (bytesOf l).map (UInt8.ofNat n :: ·)
  | _ => none
mutual
def conc (ρ : Ren) : AV → Option Value
  | .n a => some (.int .i64 (.ofNat a))
  | .y a => some (.int .u8 (.ofNat a))
  | .b c => some (.bool c)
  | .p v => if v.oneCell' then some v else none
  | .ptr b off => (ρ.loc b).map fun r => .pointer (some ⟨r.blk, r.sh + off, none⟩)
  | .slice b off len cap lim => (ρ.loc b).map fun r => .slice (some ⟨r.blk, r.sh + off, none⟩) len (if lim then cap else cap + r.ext)
  | .sliceE b off adv => (ρ.loc b).map fun r => .slice (some ⟨r.blk, r.sh + off + (if r.ext = 0 then 0 else adv), none⟩) 0 r.ext
  | .map b => (ρ.loc b).map fun r => .map (some r.blk)
  | .func f caps => (concs ρ caps).map fun vs => .func (.func f) #[] vs.toArray
  | .yield l => (ρ.loc l).map fun r => .func (.yield r.blk) #[] #[]
  | .iface t v => (conc ρ v).map fun u => .iface t u
  | .agg cs => (concs ρ cs).bind fun vs => if vs.all Value.oneCell' then some (.agg vs.toArray) else none
  | .tuple vs => (concs ρ vs).map fun us => .tuple us.toArray
  | .sym i => if symOk i (ρ.sym i) then some (ρ.sym i) else none
  | .bnd f first => (concs ρ first).map fun vs => .func (.func f) vs.toArray #[]
  | .txt l => (concs ρ l).bind fun vs => (bytesOf vs).map fun s => .string ⟨s.toArray⟩
def concs (ρ : Ren) : List AV → Option (List Value)
  | [] => some []
  | a :: l => (conc ρ a).bind fun v => (concs ρ l).map fun vs => v :: vs
end
mutual
theorem conc_mono {ρ ρ' : Ren} (h : ρ.le ρ') : ∀ (x : AV) (v : Value), conc ρ x = some v → conc ρ' x = some v
  | .n _, _, e | .y _, _, e | .b _, _, e | .p _, _, e => by simpa [conc] using e
  | .sym i, v, e => by rw [conc, h.2]; simpa [conc] using e
  | .ptr b off, v, e => by
    simp only [conc, Option.map_eq_some_iff] at e ⊢
    obtain ⟨r, hr, e⟩ := e; exact ⟨r, h.1 _ _ hr, e⟩
  | .slice b off len cap lim, v, e => by
    simp only [conc, Option.map_eq_some_iff] at e ⊢
    obtain ⟨r, hr, e⟩ := e; exact ⟨r, h.1 _ _ hr, e⟩
  | .map b, v, e => by
    simp only [conc, Option.map_eq_some_iff] at e ⊢
    obtain ⟨r, hr, e⟩ := e; exact ⟨r, h.1 _ _ hr, e⟩
  | .sliceE b off adv, v, e => by
    simp only [conc, Option.map_eq_some_iff] at e ⊢
    obtain ⟨r, hr, e⟩ := e; exact ⟨r, h.1 _ _ hr, e⟩
  | .yield b, v, e => by
    simp only [conc, Option.map_eq_some_iff] at e ⊢
    obtain ⟨r, hr, e⟩ := e; exact ⟨r, h.1 _ _ hr, e⟩
  | .func f caps, v, e => by
    simp only [conc, Option.map_eq_some_iff] at e ⊢
    obtain ⟨r, hr, e⟩ := e; exact ⟨r, concs_mono h caps r hr, e⟩
  | .iface t x, v, e => by
    simp only [conc, Option.map_eq_some_iff] at e ⊢
    obtain ⟨r, hr, e⟩ := e; exact ⟨r, conc_mono h x r hr, e⟩
  | .bnd f first, v, e => by
    simp only [conc, Option.map_eq_some_iff] at e ⊢
    obtain ⟨r, hr, e⟩ := e; exact ⟨r, concs_mono h first r hr, e⟩
  | .txt l, v, e => by
    simp only [conc, Option.bind_eq_some_iff] at e ⊢
    obtain ⟨r, hr, e⟩ := e; exact ⟨r, concs_mono h l r hr, e⟩
  | .agg cs, v, e => by
    simp only [conc, Option.bind_eq_some_iff] at e ⊢
    obtain ⟨r, hr, e⟩ := e; exact ⟨r, concs_mono h cs r hr, e⟩
  | .tuple vs, v, e => by
    simp only [conc, Option.map_eq_some_iff] at e ⊢
    obtain ⟨r, hr, e⟩ := e; exact ⟨r, concs_mono h vs r hr, e⟩
theorem concs_mono {ρ ρ' : Ren} (h : ρ.le ρ') : ∀ (l : List AV) (vs : List Value), concs ρ l = some vs → concs ρ' l = some vs
  | [], vs, e => by simpa [concs] using e
  | x :: l, vs, e => by
    simp only [concs, Option.bind_eq_some_iff, Option.map_eq_some_iff] at e ⊢
    obtain ⟨v, hv, us, hus, e⟩ := e
    exact ⟨v, conc_mono h x v hv, us, concs_mono h l us hus, e⟩
end
theorem concs_nil (ρ : Ren) : concs ρ [] = some [] := by simp [concs]
theorem concs_cons {ρ : Ren} {x : AV} {l : List AV} {vs : List Value} : concs ρ (x :: l) = some vs ↔ ∃ v us, conc ρ x = some v ∧ concs ρ l = some us ∧ vs = v :: us := by
  simp only [concs, Option.bind_eq_some_iff, Option.map_eq_some_iff]
  constructor
  · rintro ⟨v, hv, us, hus, rfl⟩; exact ⟨v, us, hv, hus, rfl⟩
  · rintro ⟨v, us, hv, hus, rfl⟩; exact ⟨v, hv, us, hus, rfl⟩
theorem concs_length {ρ : Ren} : ∀ {l : List AV} {vs : List Value}, concs ρ l = some vs → vs.length = l.length
  | [], vs, h => by rw [concs_nil] at h; cases h; rfl
  | x :: l, vs, h => by
    obtain ⟨v, us, _, hus, rfl⟩ := concs_cons.1 h
    simp [concs_length hus]
theorem concs_append {ρ : Ren} : ∀ {l m : List AV} {us vs : List Value}, concs ρ l = some us → concs ρ m = some vs → concs ρ (l ++ m) = some (us ++ vs)
  | [], m, us, vs, h, k => by rw [concs_nil] at h; cases h; simpa using k
  | x :: l, m, us, vs, h, k => by
    obtain ⟨v, us, hv, hus, rfl⟩ := concs_cons.1 h
    exact concs_cons.2 ⟨v, us ++ vs, hv, concs_append hus k, rfl⟩
theorem concs_get {ρ : Ren} : ∀ {l : List AV} {vs : List Value}, concs ρ l = some vs → ∀ (i : Nat) (x : AV), l[i]? = some x → ∃ v, vs[i]? = some v ∧ conc ρ x = some v
  | [], vs, h, i, x, e => by simp at e
  | a :: l, vs, h, i, x, e => by
    obtain ⟨v, us, hv, hus, rfl⟩ := concs_cons.1 h
    cases i with
    | zero => simp at e; subst e; exact ⟨v, rfl, hv⟩
    | succ i => simp at e ⊢; exact concs_get hus i x e
theorem concs_of_get {ρ : Ren} : ∀ {l : List AV} {vs : List Value}, l.length = vs.length → (∀ i (h : i < l.length) (h' : i < vs.length), conc ρ l[i] = some vs[i]) → concs ρ l = some vs
  | [], [], _, _ => concs_nil ρ
  | a :: l, v :: vs, hl, h => concs_cons.2 ⟨v, vs, h 0 (by simp) (by simp), concs_of_get (by simpa using hl) (fun i hi hi' => by have := h (i + 1) (by simpa using hi) (by simpa using hi'); simpa using this), rfl⟩
  | [], _ :: _, hl, _ => by simp at hl
  | _ :: _, [], hl, _ => by simp at hl
theorem concs_take {ρ : Ren} : ∀ (n : Nat) {l : List AV} {vs : List Value}, concs ρ l = some vs → concs ρ (l.take n) = some (vs.take n)
  | 0, l, vs, _ => by simp [concs_nil]
  | n + 1, [], vs, h => by rw [concs_nil] at h; cases h; simp [concs_nil]
  | n + 1, a :: l, vs, h => by
    obtain ⟨v, us, hv, hus, rfl⟩ := concs_cons.1 h
    exact concs_cons.2 ⟨v, us.take n, hv, concs_take n hus, rfl⟩
theorem concs_drop {ρ : Ren} : ∀ (n : Nat) {l : List AV} {vs : List Value}, concs ρ l = some vs → concs ρ (l.drop n) = some (vs.drop n)
  | 0, l, vs, h => by simpa using h
  | n + 1, [], vs, h => by rw [concs_nil] at h; cases h; simp [concs_nil]
  | n + 1, a :: l, vs, h => by
    obtain ⟨v, us, hv, hus, rfl⟩ := concs_cons.1 h
    simpa using concs_drop n hus
theorem conc_cv1 (ρ : Ren) (v : Value) (h : v.oneCell' = true) : conc ρ (cv1 v) = some v := by
  unfold cv1
  split <;> simp_all [conc]
theorem concs_cv1 (ρ : Ren) : ∀ (l : List Value), l.all Value.oneCell' = true → concs ρ (l.map cv1) = some l
  | [], _ => concs_nil ρ
  | v :: l, h => by
    simp only [List.all_cons, Bool.and_eq_true] at h
    exact concs_cons.2 ⟨v, l, conc_cv1 ρ v h.1, concs_cv1 ρ l h.2, rfl⟩
theorem conc_cv (ρ : Ren) (v : Value) (h : okV v = true) : conc ρ (cv v) = some v := by
  unfold cv
  split
  · rename_i cs
    simp only [okV] at h
    rw [conc, concs_cv1 ρ _ (by simpa using h)]
    simp only [Option.bind_some]
    rw [if_pos (by simpa using h)]
  · rename_i vs
    simp only [okV] at h
    rw [conc, concs_cv1 ρ _ (by simpa using h)]
    simp
  · rename_i h1 h2
    exact conc_cv1 ρ v (by cases v <;> first | rfl | exact (h1 _ rfl).elim | exact (h2 _ rfl).elim)
theorem conc_ofI (ρ : Ren) (k : IntKind) (i : Int) : conc ρ (ofI k i) = some (.int k i) := conc_cv1 ρ _ rfl
theorem symOk_one {i : Nat} {v : Value} (h : symOk i v = true) : v.oneCell' = true := by
  cases v <;> first
    | rfl
    | exact absurd h (by unfold symOk; split <;> first | simp_all | (rename_i h0; cases h0))
theorem conc_txt {ρ : Ren} {l : List AV} {v : Value} (h : conc ρ (.txt l) = some v) : ∃ vs s, concs ρ l = some vs ∧ bytesOf vs = some s ∧ v = .string ⟨s.toArray⟩ := by
  simp only [conc, Option.bind_eq_some_iff, Option.map_eq_some_iff] at h
  obtain ⟨vs, h1, s, h2, h3⟩ := h
  exact ⟨vs, s, h1, h2, h3.symm⟩
theorem conc_sym {ρ : Ren} {i : Nat} {v : Value} (h : conc ρ (.sym i) = some v) : symOk i v = true ∧ v = ρ.sym i := by
  simp only [conc] at h
  split at h
  · cases h; exact ⟨by assumption, rfl⟩
  · cases h
theorem cellsO_some {ρ : Ren} {x : AV} {v : Value} {cs : List AV} (hx : conc ρ x = some v) (h : cellsO x = some cs) :
    concs ρ cs = some v.cells.toList ∧ v.cells.toList.all Value.oneCell' = true := by
  cases x <;> simp only [cellsO, elAgg, elTup, Option.some.injEq, reduceCtorEq] at h <;> subst h
  case agg l =>
    simp only [conc, Option.bind_eq_some_iff] at hx
    obtain ⟨vs, hvs, e⟩ := hx
    split at e
    · rename_i hall; cases e; exact ⟨by simpa [Value.cells] using hvs, by simpa [Value.cells] using hall⟩
    · cases e
  all_goals
    have key : v.oneCell' = true := by
      first
        | exact symOk_one (conc_sym hx).1
        | (obtain ⟨_, _, _, _, rfl⟩ := conc_txt hx; rfl)
        | (simp only [conc, Option.map_eq_some_iff, Option.some.injEq] at hx
           first
             | (subst hx; rfl)
             | (split at hx <;> simp_all)
             | (obtain ⟨_, _, rfl⟩ := hx; rfl))
    have hc : v.cells = #[v] := by cases v <;> simp_all [Value.cells, Value.oneCell']
    rw [hc]
    exact ⟨concs_cons.2 ⟨v, [], hx, concs_nil ρ, rfl⟩, by simp [key]⟩
end Go.Am
