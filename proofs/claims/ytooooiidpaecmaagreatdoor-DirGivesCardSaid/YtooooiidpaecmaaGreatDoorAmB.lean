import Derived.Test.YtooooiidpaecmaaGreatDoorAmA
import Derived.Laws.CopyRow
import Derived.Below
/- The abstract machine: trees, the reading of its values in the model's world, memory. -/
namespace Go.Am
open Go
theorem l5 {β : Type} (t e : β) : bc true t e = t := rfl
theorem o7 {β : Type} (t e : β) : bc false t e = e := rfl
theorem y7 {β : Type} (c : Bool) (t e : β) : bc c t e = if c then t else e := by cases c <;> rfl
theorem u9 {β : Type} (n : Nat) (k : Nat → β) : fc n k = k n := by cases n <;> rfl
theorem g0b {α β : Type} (x : Option α) (k : α → Option β) : ob x k = x.bind k := by cases x <;> rfl
theorem d8 {α β : Type} {x : Option α} {k : α → Option β} {r : β} (h : ob x k = some r) : ∃ a, x = some a ∧ k a = some r := by
  cases x with
  | none => simp [ob] at h
  | some a => exact ⟨a, rfl, h⟩
theorem j9 {β : Type} {c : Bool} {t : Option β} {r : β} (h : bc c t none = some r) : c = true ∧ t = some r := by
  cases c with
  | true => exact ⟨rfl, h⟩
  | false => simp [bc] at h
theorem a8U {β : Type} {c : Bool} {t : Option β} {r : β} (h : bc c none t = some r) : c = false ∧ t = some r := by
  cases c with
  | false => exact ⟨rfl, h⟩
  | true => simp [bc] at h
theorem x9 (a b : Nat) : Nat.beq a b = decide (a = b) := by
  cases h : Nat.beq a b
  · simp [Nat.ne_of_beq_eq_false h]
  · simp [Nat.eq_of_beq_eq_true h]
theorem v7 (a b : Nat) : Nat.ble a b = decide (a ≤ b) := by
  cases h : Nat.ble a b
  · symm; rw [decide_eq_false_iff_not]; intro h2; rw [Nat.ble_eq_true_of_le h2] at h; cases h
  · simp [Nat.le_of_ble_eq_true h]
section
variable {α : Type}
theorem f3N (t : Tr α) : y8 [] t = match t with | .leaf => none | .node _ v _ => v := by cases t <;> rfl
theorem a79 (b : Bool) (p : List Bool) (t : Tr α) : y8 (b :: p) t = match t with | .leaf => none | .node l _ r => if b then y8 p l else y8 p r := by cases t <;> cases b <;> rfl
theorem f4e (x : α) (t : Tr α) : C0 x [] t = match t with | .leaf => .node .leaf (some x) .leaf | .node l _ r => .node l (some x) r := by cases t <;> rfl
theorem a77 (x : α) (b : Bool) (p : List Bool) (t : Tr α) : C0 x (b :: p) t =
    match t with
    | .leaf => if b then .node (C0 x p .leaf) none .leaf else .node .leaf none (C0 x p .leaf)
    | .node l v r => if b then .node (C0 x p l) v r else .node l v (C0 x p r) := by cases t <;> cases b <;> rfl
theorem T5 (p : List Bool) : y8 p (.leaf : Tr α) = none := by cases p <;> rfl
theorem b5b (x : α) : ∀ (p : List Bool) (t : Tr α), y8 p (C0 x p t) = some x
  | [], t => by cases t <;> rfl
  | b :: p, t => by
    rw [a77]
    cases t <;> cases b <;> simp [a79, b5b x p]
theorem b5S (x : α) : ∀ (p q : List Bool) (t : Tr α), p ≠ q → y8 q (C0 x p t) = y8 q t
  | [], [], _, h => absurd rfl h
  | [], c :: q, t, _ => by cases t <;> cases c <;> simp [f4e, a79, T5]
  | b :: p, [], t, _ => by cases t <;> cases b <;> simp [a77, f3N]
  | b :: p, c :: q, t, h => by
    rw [a77]
    have hpq : b = c → p ≠ q := fun e e' => h (by rw [e, e'])
    cases t <;> cases b <;> cases c <;> simp [a79, T5] <;> first
      | (rw [b5S x p q _ (hpq rfl)]; try rw [T5])
      | skip
end
def dec : List Bool → Nat
  | [] => 0
  | true :: l => 2 * dec l + 1
  | false :: l => 2 * dec l + 2
theorem a8j : ∀ (f n : Nat), n ≤ f → dec (a3j f n) = n
  | 0, n, h => by
    have : n = 0 := by omega
    subst this; rfl
  | f + 1, n, h => by
    have e : a3j (f + 1) n = bc (Nat.beq n 0) [] (bc (Nat.beq (n % 2) 1) (true :: a3j f (n / 2)) (false :: a3j f (n / 2 - 1))) := rfl
    rw [e, y7, y7]
    by_cases h0 : n = 0
    · subst h0; rfl
    · have hb : Nat.beq n 0 = false := by rw [x9]; simpa using h0
      rw [hb]
      by_cases h1 : n % 2 = 1
      · have hb1 : Nat.beq (n % 2) 1 = true := by rw [x9]; simpa using h1
        rw [hb1]
        simp only [Bool.false_eq_true, if_false, if_true, dec]
        rw [a8j f (n / 2) (by omega)]; omega
      · have hb1 : Nat.beq (n % 2) 1 = false := by rw [x9]; simpa using h1
        rw [hb1]
        simp only [Bool.false_eq_true, if_false, dec]
        rw [a8j f (n / 2 - 1) (by omega)]; omega
theorem a9r (n : Nat) : dec (pth n) = n := a8j n n (Nat.le_refl _)
theorem f7d {a b : Nat} (h : pth a = pth b) : a = b := by rw [← a9r a, ← a9r b, h]
theorem d6W {a b : Nat} (h : a ≠ b) : pth a ≠ pth b := fun e => h (f7d e)
theorem Z7 {α : Type} (t : Tr α) (i j : Nat) (x : α) : y8 (pth j) (C0 x (pth i) t) = if j = i then some x else y8 (pth j) t := by
  by_cases h : j = i
  · subst h; simp [b5b]
  · rw [if_neg h, b5S]; exact d6W (Ne.symm h)
theorem b6h {α : Type} (v : α) (l : List α) (i : Nat) (t : Tr α) : s8 (v :: l) i t = s8 l (i + 1) (C0 v (pth i) t) := by
  show fc (Nat.succ i) _ = _
  rw [u9]; rfl
theorem T9 {α : Type} : ∀ (l : List α) (i : Nat) (t : Tr α) (j : Nat), y8 (pth j) (s8 l i t) = if i ≤ j ∧ j < i + l.length then l[j - i]? else y8 (pth j) t
  | [], i, t, j => by
    have : ¬ (i ≤ j ∧ j < i + ([] : List α).length) := by simp
    rw [if_neg this]; rfl
  | v :: l, i, t, j => by
    rw [b6h, T9 l (i + 1) _ j, Z7]
    by_cases h : j = i
    · subst h
      have h1 : ¬ (j + 1 ≤ j ∧ j < j + 1 + l.length) := by omega
      simp [h1]
    · by_cases h2 : i + 1 ≤ j ∧ j < i + 1 + l.length
      · have h3 : i ≤ j ∧ j < i + (v :: l).length := by simp; omega
        rw [if_pos h2, if_pos h3]
        obtain ⟨k, hk⟩ : ∃ k, j - i = k + 1 := ⟨j - i - 1, by omega⟩
        rw [hk, List.getElem?_cons_succ]
        congr 1; omega
      · have h3 : ¬ (i ≤ j ∧ j < i + (v :: l).length) := by simp; omega
        rw [if_neg h2, if_neg h3, if_neg h]
structure RB where
  blk : Nat
  sh : Nat
  ext : Nat
structure Ren where
  loc : Nat → Option RB
  sym : Nat → Value
def Ren.le (ρ ρ' : Ren) : Prop := (∀ b r, ρ.loc b = some r → ρ'.loc b = some r) ∧ ρ'.sym = ρ.sym
theorem Ren.le_refl (ρ : Ren) : ρ.le ρ := ⟨fun _ _ h => h, rfl⟩
theorem Ren.le_trans {a b c : Ren} (h : a.le b) (k : b.le c) : a.le c := ⟨fun _x _r e => k.1 _ _ (h.1 _ _ e), k.2.trans h.2⟩
def a1k (i : Nat) (v : Value) : Bool := match i % 4, v with
  | 0, .int .u8 (.ofNat _) => true
  | 1, .int .i64 (.negSucc _) => true
  | 2, .int .i64 (.ofNat k) => decide (i / 4 < k)
  | _, _ => false
def bytesOf : List Value → Option (List UInt8)
  | [] => some []
  | .int .u8 (.ofNat n) :: l => (bytesOf l).map (UInt8.ofNat n :: ·)
  | _ => none
mutual
def d5 (ρ : Ren) : AV → Option Value
  | .n a => some (.int .i64 (.ofNat a))
  | .y a => some (.int .u8 (.ofNat a))
  | .b c => some (.bool c)
  | .p v => if v.oneCell' then some v else none
  | .ptr b off => (ρ.loc b).map fun r => .pointer (some ⟨r.blk, r.sh + off, none⟩)
  | .slice b off len cap lim => (ρ.loc b).map fun r => .slice (some ⟨r.blk, r.sh + off, none⟩) len (if lim then cap else cap + r.ext)
  | .sliceE b off adv => (ρ.loc b).map fun r => .slice (some ⟨r.blk, r.sh + off + (if r.ext = 0 then 0 else adv), none⟩) 0 r.ext
  | .map b => (ρ.loc b).map fun r => .map (some r.blk)
  | .func f caps => (g7 ρ caps).map fun vs => .func (.func f) #[] vs.toArray
  | .yield l => (ρ.loc l).map fun r => .func (.yield r.blk) #[] #[]
  | .iface t v => (d5 ρ v).map fun u => .iface t u
  | .agg cs => (g7 ρ cs).bind fun vs => if vs.all Value.oneCell' then some (.agg vs.toArray) else none
  | .tuple vs => (g7 ρ vs).map fun us => .tuple us.toArray
  | .sym i => if a1k i (ρ.sym i) then some (ρ.sym i) else none
  | .bnd f first => (g7 ρ first).map fun vs => .func (.func f) vs.toArray #[]
  | .txt l => (g7 ρ l).bind fun vs => (bytesOf vs).map fun s => .string ⟨s.toArray⟩
def g7 (ρ : Ren) : List AV → Option (List Value)
  | [] => some []
  | a :: l => (d5 ρ a).bind fun v => (g7 ρ l).map fun vs => v :: vs
end
mutual
theorem I1 {ρ ρ' : Ren} (h : ρ.le ρ') : ∀ (x : AV) (v : Value), d5 ρ x = some v → d5 ρ' x = some v
  | .n _, _, e | .y _, _, e | .b _, _, e | .p _, _, e => by simpa [d5] using e
  | .sym i, v, e => by rw [d5, h.2]; simpa [d5] using e
  | .ptr b off, v, e => by
    simp only [d5, Option.map_eq_some_iff] at e ⊢
    obtain ⟨r, hr, e⟩ := e; exact ⟨r, h.1 _ _ hr, e⟩
  | .slice b off len cap lim, v, e => by
    simp only [d5, Option.map_eq_some_iff] at e ⊢
    obtain ⟨r, hr, e⟩ := e; exact ⟨r, h.1 _ _ hr, e⟩
  | .map b, v, e => by
    simp only [d5, Option.map_eq_some_iff] at e ⊢
    obtain ⟨r, hr, e⟩ := e; exact ⟨r, h.1 _ _ hr, e⟩
  | .sliceE b off adv, v, e => by
    simp only [d5, Option.map_eq_some_iff] at e ⊢
    obtain ⟨r, hr, e⟩ := e; exact ⟨r, h.1 _ _ hr, e⟩
  | .yield b, v, e => by
    simp only [d5, Option.map_eq_some_iff] at e ⊢
    obtain ⟨r, hr, e⟩ := e; exact ⟨r, h.1 _ _ hr, e⟩
  | .func f caps, v, e => by
    simp only [d5, Option.map_eq_some_iff] at e ⊢
    obtain ⟨r, hr, e⟩ := e; exact ⟨r, M2 h caps r hr, e⟩
  | .iface t x, v, e => by
    simp only [d5, Option.map_eq_some_iff] at e ⊢
    obtain ⟨r, hr, e⟩ := e; exact ⟨r, I1 h x r hr, e⟩
  | .bnd f first, v, e => by
    simp only [d5, Option.map_eq_some_iff] at e ⊢
    obtain ⟨r, hr, e⟩ := e; exact ⟨r, M2 h first r hr, e⟩
  | .txt l, v, e => by
    simp only [d5, Option.bind_eq_some_iff] at e ⊢
    obtain ⟨r, hr, e⟩ := e; exact ⟨r, M2 h l r hr, e⟩
  | .agg cs, v, e => by
    simp only [d5, Option.bind_eq_some_iff] at e ⊢
    obtain ⟨r, hr, e⟩ := e; exact ⟨r, M2 h cs r hr, e⟩
  | .tuple vs, v, e => by
    simp only [d5, Option.map_eq_some_iff] at e ⊢
    obtain ⟨r, hr, e⟩ := e; exact ⟨r, M2 h vs r hr, e⟩
theorem M2 {ρ ρ' : Ren} (h : ρ.le ρ') : ∀ (l : List AV) (vs : List Value), g7 ρ l = some vs → g7 ρ' l = some vs
  | [], vs, e => by simpa [g7] using e
  | x :: l, vs, e => by
    simp only [g7, Option.bind_eq_some_iff, Option.map_eq_some_iff] at e ⊢
    obtain ⟨v, hv, us, hus, e⟩ := e
    exact ⟨v, I1 h x v hv, us, M2 h l us hus, e⟩
end
theorem l4 (ρ : Ren) : g7 ρ [] = some [] := by simp [g7]
theorem l7 {ρ : Ren} {x : AV} {l : List AV} {vs : List Value} : g7 ρ (x :: l) = some vs ↔ ∃ v us, d5 ρ x = some v ∧ g7 ρ l = some us ∧ vs = v :: us := by
  simp only [g7, Option.bind_eq_some_iff, Option.map_eq_some_iff]
  constructor
  · rintro ⟨v, hv, us, hus, rfl⟩; exact ⟨v, us, hv, hus, rfl⟩
  · rintro ⟨v, us, hv, hus, rfl⟩; exact ⟨v, hv, us, hus, rfl⟩
theorem F8 {ρ : Ren} : ∀ {l : List AV} {vs : List Value}, g7 ρ l = some vs → vs.length = l.length
  | [], vs, h => by rw [l4] at h; cases h; rfl
  | x :: l, vs, h => by
    obtain ⟨v, us, _, hus, rfl⟩ := l7.1 h
    simp [F8 hus]
theorem J7 {ρ : Ren} : ∀ {l m : List AV} {us vs : List Value}, g7 ρ l = some us → g7 ρ m = some vs → g7 ρ (l ++ m) = some (us ++ vs)
  | [], m, us, vs, h, k => by rw [l4] at h; cases h; simpa using k
  | x :: l, m, us, vs, h, k => by
    obtain ⟨v, us, hv, hus, rfl⟩ := l7.1 h
    exact l7.2 ⟨v, us ++ vs, hv, J7 hus k, rfl⟩
theorem P0 {ρ : Ren} : ∀ {l : List AV} {vs : List Value}, g7 ρ l = some vs → ∀ (i : Nat) (x : AV), l[i]? = some x → ∃ v, vs[i]? = some v ∧ d5 ρ x = some v
  | [], vs, h, i, x, e => by simp at e
  | a :: l, vs, h, i, x, e => by
    obtain ⟨v, us, hv, hus, rfl⟩ := l7.1 h
    cases i with
    | zero => simp at e; subst e; exact ⟨v, rfl, hv⟩
    | succ i => simp at e ⊢; exact P0 hus i x e
theorem a7t {ρ : Ren} : ∀ {l : List AV} {vs : List Value}, l.length = vs.length → (∀ i (h : i < l.length) (h' : i < vs.length), d5 ρ l[i] = some vs[i]) → g7 ρ l = some vs
  | [], [], _, _ => l4 ρ
  | a :: l, v :: vs, hl, h => l7.2 ⟨v, vs, h 0 (by simp) (by simp), a7t (by simpa using hl) (fun i hi hi' => by have := h (i + 1) (by simpa using hi) (by simpa using hi'); simpa using this), rfl⟩
  | [], _ :: _, hl, _ => by simp at hl
  | _ :: _, [], hl, _ => by simp at hl
theorem a7Y {ρ : Ren} : ∀ (n : Nat) {l : List AV} {vs : List Value}, g7 ρ l = some vs → g7 ρ (l.take n) = some (vs.take n)
  | 0, l, vs, _ => by simp [l4]
  | n + 1, [], vs, h => by rw [l4] at h; cases h; simp [l4]
  | n + 1, a :: l, vs, h => by
    obtain ⟨v, us, hv, hus, rfl⟩ := l7.1 h
    exact l7.2 ⟨v, us.take n, hv, a7Y n hus, rfl⟩
theorem a7R {ρ : Ren} : ∀ (n : Nat) {l : List AV} {vs : List Value}, g7 ρ l = some vs → g7 ρ (l.drop n) = some (vs.drop n)
  | 0, l, vs, h => by simpa using h
  | n + 1, [], vs, h => by rw [l4] at h; cases h; simp [l4]
  | n + 1, a :: l, vs, h => by
    obtain ⟨v, us, hv, hus, rfl⟩ := l7.1 h
    simpa using a7R n hus
theorem J9 (ρ : Ren) (v : Value) (h : v.oneCell' = true) : d5 ρ (cv1 v) = some v := by
  unfold cv1
  split <;> simp_all [d5]
theorem a1N (ρ : Ren) : ∀ (l : List Value), l.all Value.oneCell' = true → g7 ρ (l.map cv1) = some l
  | [], _ => l4 ρ
  | v :: l, h => by
    simp only [List.all_cons, Bool.and_eq_true] at h
    exact l7.2 ⟨v, l, J9 ρ v h.1, a1N ρ l h.2, rfl⟩
theorem a85 (ρ : Ren) (v : Value) (h : okV v = true) : d5 ρ (cv v) = some v := by
  unfold cv
  split
  · rename_i cs
    simp only [okV] at h
    rw [d5, a1N ρ _ (by simpa using h)]
    simp only [Option.bind_some]
    rw [if_pos (by simpa using h)]
  · rename_i vs
    simp only [okV] at h
    rw [d5, a1N ρ _ (by simpa using h)]
    simp
  · rename_i h1 h2
    exact J9 ρ v (by cases v <;> first | rfl | exact (h1 _ rfl).elim | exact (h2 _ rfl).elim)
theorem D8 (ρ : Ren) (k : IntKind) (i : Int) : d5 ρ (ofI k i) = some (.int k i) := J9 ρ _ rfl
theorem f3w {i : Nat} {v : Value} (h : a1k i v = true) : v.oneCell' = true := by
  cases v <;> first
    | rfl
    | exact absurd h (by unfold a1k; split <;> first | simp_all | (rename_i h0; cases h0))
theorem a8w {ρ : Ren} {l : List AV} {v : Value} (h : d5 ρ (.txt l) = some v) : ∃ vs s, g7 ρ l = some vs ∧ bytesOf vs = some s ∧ v = .string ⟨s.toArray⟩ := by
  simp only [d5, Option.bind_eq_some_iff, Option.map_eq_some_iff] at h
  obtain ⟨vs, h1, s, h2, h3⟩ := h
  exact ⟨vs, s, h1, h2, h3.symm⟩
theorem a8r {ρ : Ren} {i : Nat} {v : Value} (h : d5 ρ (.sym i) = some v) : a1k i v = true ∧ v = ρ.sym i := by
  simp only [d5] at h
  split at h
  · cases h; exact ⟨by assumption, rfl⟩
  · cases h
theorem a7L {ρ : Ren} {x : AV} {v : Value} {cs : List AV} (hx : d5 ρ x = some v) (h : A3 x = some cs) :
    g7 ρ cs = some v.cells.toList ∧ v.cells.toList.all Value.oneCell' = true := by
  cases x <;> simp only [A3, elAgg, elTup, Option.some.injEq, reduceCtorEq] at h <;> subst h
  case agg l =>
    simp only [d5, Option.bind_eq_some_iff] at hx
    obtain ⟨vs, hvs, e⟩ := hx
    split at e
    · rename_i hall; cases e; exact ⟨by simpa [Value.cells] using hvs, by simpa [Value.cells] using hall⟩
    · cases e
  all_goals
    have key : v.oneCell' = true := by
      first
        | exact f3w (a8r hx).1
        | (obtain ⟨_, _, _, _, rfl⟩ := a8w hx; rfl)
        | (simp only [d5, Option.map_eq_some_iff, Option.some.injEq] at hx
           first
             | (subst hx; rfl)
             | (split at hx <;> simp_all)
             | (obtain ⟨_, _, rfl⟩ := hx; rfl))
    have hc : v.cells = #[v] := by cases v <;> simp_all [Value.cells, Value.oneCell']
    rw [hc]
    exact ⟨l7.2 ⟨v, [], hx, l4 ρ, rfl⟩, by simp [key]⟩
end Go.Am
