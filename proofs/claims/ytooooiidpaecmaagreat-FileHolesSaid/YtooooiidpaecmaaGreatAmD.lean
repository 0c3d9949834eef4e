import Derived.Test.YtooooiidpaecmaaGreatAmU
import Derived.LaidEqlPtr
import Derived.Laws.Append
import Derived.Laws.Strings
import Derived.IntWalk
import Derived.Lib.Builder
/- The abstract machine: its operations and the model's. -/
namespace Go.Am
open Go Go.RowKit
section
variable {β : Type} {r : β} {x : AV}
theorem elN_none {k : Nat → Option β} (h : elN none k x = some r) : ∃ a, x = .n a ∧ k a = some r := by cases x <;> simp [elN] at h <;> exact ⟨_, rfl, h⟩
theorem elB_none {k : Bool → Option β} (h : elB none k x = some r) : ∃ a, x = .b a ∧ k a = some r := by cases x <;> simp [elB] at h <;> exact ⟨_, rfl, h⟩
theorem elPtr_none {k : Nat → Nat → Option β} (h : elPtr none k x = some r) : ∃ a b, x = .ptr a b ∧ k a b = some r := by cases x <;> simp [elPtr] at h <;> exact ⟨_, _, rfl, h⟩
theorem elSl_none {k : Nat → Nat → Nat → Nat → Bool → Option β} (h : elSl none k x = some r) : ∃ b o l c m, x = .slice b o l c m ∧ k b o l c m = some r := by cases x <;> simp [elSl] at h <;> exact ⟨_, _, _, _, _, rfl, h⟩
theorem elAgg_none {k : List AV → Option β} (h : elAgg none k x = some r) : ∃ a, x = .agg a ∧ k a = some r := by cases x <;> simp [elAgg] at h <;> exact ⟨_, rfl, h⟩
theorem elTup_none {k : List AV → Option β} (h : elTup none k x = some r) : ∃ a, x = .tuple a ∧ k a = some r := by cases x <;> simp [elTup] at h <;> exact ⟨_, rfl, h⟩
end
def Val (P : Program) (w0 : World) (s : Sem Value) (ρ : Ren) (w : World) (r : R) : Prop :=
  ∀ x m', r = some (x, m') → ∃ ρ' v w', s.run P w = .ok v w' ∧ conc ρ' x = some v ∧ ρ.le ρ' ∧ Sim P w0 ρ' m' w'
section
variable {P : Program} {w0 : World} {ρ : Ren} {m : M} {w : World}
theorem Val.pure {s : Sem Value} {x : AV} {v : Value} (h : Sim P w0 ρ m w) (hs : s.run P w = .ok v w) (hc : conc ρ x = some v) : Val P w0 s ρ w (some (x, m)) := by
  intro y m' e; cases e; exact ⟨ρ, v, w, hs, hc, Ren.le_refl ρ, h⟩
theorem Val.pureO {s : Sem Value} {z : Option AV} (h : Sim P w0 ρ m w) (hs : ∀ x, z = some x → ∃ v, s.run P w = .ok v w ∧ conc ρ x = some v) : Val P w0 s ρ w (rto m z) := by
  intro y m' e
  obtain ⟨x, hx, e⟩ := ob_some e
  obtain ⟨v, h1, h2⟩ := hs x hx
  cases e; exact ⟨ρ, v, w, h1, h2, Ren.le_refl ρ, h⟩
theorem conc_n (a : Nat) : conc ρ (.n a) = some (.int .i64 (.ofNat a)) := by simp [conc]
theorem conc_y (a : Nat) : conc ρ (.y a) = some (.int .u8 (.ofNat a)) := by simp [conc]
theorem conc_b (c : Bool) : conc ρ (.b c) = some (.bool c) := by simp [conc]
theorem conc_p {v : Value} (h : v.oneCell' = true) : conc ρ (.p v) = some v := by simp [conc, h]
theorem conc_undef : conc ρ AV.undef = some undef := by simp [AV.undef, conc, concs, undef]
theorem conc_ptr {b off : Nat} {v : Value} (h : conc ρ (.ptr b off) = some v) : ∃ r, ρ.loc b = some r ∧ v = .pointer (some ⟨r.blk, r.sh + off, none⟩) := by
  simp only [conc, Option.map_eq_some_iff] at h
  obtain ⟨r, h1, h2⟩ := h; exact ⟨r, h1, h2.symm⟩
theorem conc_sl {b off len cap : Nat} {lim : Bool} {v : Value} (h : conc ρ (.slice b off len cap lim) = some v) : ∃ r, ρ.loc b = some r ∧ v = .slice (some ⟨r.blk, r.sh + off, none⟩) len (if lim then cap else cap + r.ext) := by
  simp only [conc, Option.map_eq_some_iff] at h
  obtain ⟨r, h1, h2⟩ := h; exact ⟨r, h1, h2.symm⟩
theorem conc_slE {b off adv : Nat} {v : Value} (h : conc ρ (.sliceE b off adv) = some v) : ∃ r, ρ.loc b = some r ∧ v = .slice (some ⟨r.blk, r.sh + off + (if r.ext = 0 then 0 else adv), none⟩) 0 r.ext := by
  simp only [conc, Option.map_eq_some_iff] at h
  obtain ⟨r, h1, h2⟩ := h; exact ⟨r, h1, h2.symm⟩
theorem mk_ptr {b off : Nat} {r : RB} (h : ρ.loc b = some r) : conc ρ (.ptr b off) = some (.pointer (some ⟨r.blk, r.sh + off, none⟩)) := by simp [conc, h]
theorem mk_sl {b off len cap : Nat} {lim : Bool} {r : RB} (h : ρ.loc b = some r) : conc ρ (.slice b off len cap lim) = some (.slice (some ⟨r.blk, r.sh + off, none⟩) len (if lim then cap else cap + r.ext)) := by simp [conc, h]
theorem toI_conc {x : AV} {k : IntKind} {i : Int} {v : Value} (h : toI x = some (k, i)) (hv : conc ρ x = some v) : v = .int k i := by
  unfold toI at h
  split at h
  · cases h; rw [conc_n] at hv; cases hv; rfl
  · cases h; rw [conc_y] at hv; cases hv; rfl
  · cases h; rw [conc_p rfl] at hv; cases hv; rfl
  · cases h
theorem toS_conc {x : AV} {s : ByteArray} {v : Value} (h : toS x = some s) (hv : conc ρ x = some v) : v = .string s := by
  unfold toS at h
  split at h
  · cases h; rw [conc_p rfl] at hv; cases hv; rfl
  · cases h
theorem intOp_ok {op : BinOp} {k : IntKind} {a b : Int} {z : AV} (h : intOp op k a b = some z) (t : TypeId) (hs : op ≠ .shl) (hs' : op ≠ .shr) :
    ∃ u, (binOp op t (.int k a) (.int k b)).run P w = .ok u w ∧ conc ρ z = some u := by
  cases op
  case quo =>
    simp only [intOp] at h
    split at h
    · cases h
    · rename_i hb; cases h; refine ⟨.int k (k.wrap (a.tdiv b)), by simp [binOp, Op.intDiv, hb], conc_ofI ρ _ _⟩
  case rem =>
    simp only [intOp] at h
    split at h
    · cases h
    · rename_i hb; cases h; refine ⟨.int k (a.tmod b), by simp [binOp, Op.intDiv, hb], conc_ofI ρ _ _⟩
  case shl => exact absurd rfl hs
  case shr => exact absurd rfl hs'
  case add => simp only [intOp, Option.some.injEq] at h; subst h; exact ⟨.int k (k.wrap (a + b)), by simp [binOp, Op.intArith], conc_ofI ρ _ _⟩
  case sub => simp only [intOp, Option.some.injEq] at h; subst h; exact ⟨.int k (k.wrap (a - b)), by simp [binOp, Op.intArith], conc_ofI ρ _ _⟩
  case mul => simp only [intOp, Option.some.injEq] at h; subst h; exact ⟨.int k (k.wrap (a * b)), by simp [binOp, Op.intArith], conc_ofI ρ _ _⟩
  case and => simp only [intOp, Option.some.injEq] at h; subst h; exact ⟨_, by simp only [binOp, Op.intBits, ne_eq, not_true_eq_false, if_false, Sem.run_pure], conc_ofI ρ _ _⟩
  case or => simp only [intOp, Option.some.injEq] at h; subst h; exact ⟨_, by simp only [binOp, Op.intBits, ne_eq, not_true_eq_false, if_false, Sem.run_pure], conc_ofI ρ _ _⟩
  case xor => simp only [intOp, Option.some.injEq] at h; subst h; exact ⟨_, by simp only [binOp, Op.intBits, ne_eq, not_true_eq_false, if_false, Sem.run_pure], conc_ofI ρ _ _⟩
  case andNot => simp only [intOp, Option.some.injEq] at h; subst h; exact ⟨_, by simp only [binOp, Op.intBits, ne_eq, not_true_eq_false, if_false, Sem.run_pure], conc_ofI ρ _ _⟩
  case eql => simp only [intOp, Option.some.injEq] at h; subst h; exact ⟨_, by simp only [binOp, Op.intCmp, ne_eq, not_true_eq_false, if_false, Sem.run_pure], conc_b _⟩
  case neq => simp only [intOp, Option.some.injEq] at h; subst h; exact ⟨_, by simp only [binOp, Op.intCmp, ne_eq, not_true_eq_false, if_false, Sem.run_pure], conc_b _⟩
  case lss => simp only [intOp, Option.some.injEq] at h; subst h; exact ⟨_, by simp only [binOp, Op.intCmp, ne_eq, not_true_eq_false, if_false, Sem.run_pure], conc_b _⟩
  case leq => simp only [intOp, Option.some.injEq] at h; subst h; exact ⟨_, by simp only [binOp, Op.intCmp, ne_eq, not_true_eq_false, if_false, Sem.run_pure], conc_b _⟩
  case gtr => simp only [intOp, Option.some.injEq] at h; subst h; exact ⟨_, by simp only [binOp, Op.intCmp, ne_eq, not_true_eq_false, if_false, Sem.run_pure], conc_b _⟩
  case geq => simp only [intOp, Option.some.injEq] at h; subst h; exact ⟨_, by simp only [binOp, Op.intCmp, ne_eq, not_true_eq_false, if_false, Sem.run_pure], conc_b _⟩
  all_goals (simp [intOp] at h; done)
theorem intAll_ok {op : BinOp} {k k' : IntKind} {a b : Int} {z : AV} (h : intAll op k a k' b = some z) (t : TypeId) :
    ∃ u, (binOp op t (.int k a) (.int k' b)).run P w = .ok u w ∧ conc ρ z = some u := by
  unfold intAll at h
  split at h
  · simp only [shOp] at h
    split at h
    · cases h
    · rename_i hb
      cases h
      exact ⟨_, by simp only [binOp, Op.shift, hb, if_false, Sem.run_pure], conc_ofI ρ _ _⟩
  · simp only [shOp] at h
    split at h
    · cases h
    · rename_i hb
      cases h
      exact ⟨_, by simp only [binOp, Op.shift, hb, if_false, Sem.run_pure], conc_ofI ρ _ _⟩
  · rename_i h1 h2
    split at h
    · rename_i hk; subst hk; exact intOp_ok h t (fun e => h1 e) (fun e => h2 e)
    · cases h
theorem lbeq_eq : ∀ (a b : List UInt8), lbeq a b = (a == b)
  | [], [] => rfl
  | [], _ :: _ => rfl
  | _ :: _, [] => rfl
  | x :: a, y :: b => by
    simp only [lbeq, nbeq, lbeq_eq a b, List.cons_beq_cons]
    congr 1
    rw [Bool.eq_iff_iff]; simp [UInt8.toNat_inj]
theorem lblt_eq : ∀ (a b : List UInt8), lblt a b = Op.bytesLess a b
  | [], [] => rfl
  | [], _ :: _ => rfl
  | _ :: _, [] => by simp [lblt, Op.bytesLess]
  | x :: a, y :: b => by
    simp only [lblt, Op.bytesLess, nbeq, nble, lblt_eq a b]
    congr 1
    rw [Bool.eq_iff_iff]; simp [UInt8.toNat_inj]
theorem strOp_ok {op : BinOp} {a b : ByteArray} {z : AV} (h : strOp op a b = some z) (t : TypeId) :
    ∃ u, (binOp op t (.string a) (.string b)).run P w = .ok u w ∧ conc ρ z = some u := by
  cases op <;> simp only [strOp, reduceCtorEq, Option.some.injEq] at h
  case add =>
    obtain ⟨h1, h2⟩ := bc_some h
    cases h2
    have h1 : a.data.size + b.data.size ≤ 9223372036854775807 := Nat.le_of_ble_eq_true h1
    have h3 : ¬ (IntKind.i64.max < (a.size : Int) + (b.size : Int)) := by
      have : (IntKind.i64.max : Int) = 9223372036854775807 := by decide
      rw [this]; show ¬ ((9223372036854775807 : Int) < (a.data.size : Int) + (b.data.size : Int)); omega
    refine ⟨.string (a ++ b), by simp only [binOp, Op.stringOp, gt_iff_lt, Int.natCast_add, h3, if_false, Sem.run_pure], ?_⟩
    rw [conc_p rfl, show (⟨(a.data.toList ++ b.data.toList).toArray⟩ : ByteArray) = a ++ b from ByteArray.ext (by simp)]
  all_goals
    subst h
    exact ⟨_, by simp [binOp, Op.stringOp, ByteArray.toList_eq]; rfl, by rw [conc_b]; simp [lbeq_eq, lblt_eq]⟩
theorem equalIn_ok {t : TypeId} {x y : AV} {vx vy : Value} {c : Bool} (he : eqAll P (P.underlying t) x y = some c) (hx : conc ρ x = some vx) (hy : conc ρ y = some vy) (d : Nat) :
    (Op.equalIn (d + 1) t vx vy).run P w = .ok c w := by
  unfold eqAll at he
  split at he
  · rename_i hu
    split at he <;> cases he
    rw [conc_b] at hx hy
    cases hx; cases hy
    simp [Op.equalIn, run_underlying hu]
  · rename_i e hu
    split at he
    · cases he; rw [conc_p rfl] at hx hy; cases hx; cases hy; simp [Op.equalIn, run_underlying hu]
    · cases he; rw [conc_p rfl] at hx; cases hx; obtain ⟨r, _, rfl⟩ := conc_ptr hy; simp [Op.equalIn, run_underlying hu]
    · cases he; rw [conc_p rfl] at hy; cases hy; obtain ⟨r, _, rfl⟩ := conc_ptr hx; simp [Op.equalIn, run_underlying hu]
    · rename_i b i b' j
      obtain ⟨r, hr, rfl⟩ := conc_ptr hx
      obtain ⟨r', hr', rfl⟩ := conc_ptr hy
      split at he
      · rename_i n hs
        obtain ⟨h1, he2⟩ := bc_some he
        clear he
        simp only [Bool.and_eq_true, Bool.not_eq_true'] at h1
        have hbb := Nat.eq_of_beq_eq_true h1.2
        subst hbb
        rw [hr] at hr'; cases hr'
        have hn : n ≠ 0 := fun e => by subst e; simp at h1
        unfold tsize at hs
        cases hi : P.info? e with
        | none => rw [hi] at hs; cases hs
        | some q =>
          rw [hi] at hs
          simp only [Option.map_some, Option.some.injEq] at hs
          have he3 := Option.some.inj he2
          subst he3
          have hsz : q.size ≠ 0 := by omega
          have h2 : Nat.beq i j = ((⟨r.blk, r.sh + i, none⟩ : Addr) == ⟨r.blk, r.sh + j, none⟩) := by
            rw [nbeq, Bool.eq_iff_iff]; simp
          simp [Op.equalIn, run_underlying hu, sizeOf, typeInfo, hi, hsz, sameAddr, h2]
      · cases he
    · cases he
  · rename_i e hu
    split at he <;> cases he
    · rw [conc_p rfl] at hx hy; cases hx; cases hy; simp [Op.equalIn, run_underlying hu]
    · rw [conc_p rfl] at hx; cases hx; obtain ⟨r, _, rfl⟩ := conc_sl hy; simp [Op.equalIn, run_underlying hu]
    · rw [conc_p rfl] at hy; cases hy; obtain ⟨r, _, rfl⟩ := conc_sl hx; simp [Op.equalIn, run_underlying hu]
    · rw [conc_p rfl] at hx; cases hx; obtain ⟨r, _, rfl⟩ := conc_slE hy; simp [Op.equalIn, run_underlying hu]
    · rw [conc_p rfl] at hy; cases hy; obtain ⟨r, _, rfl⟩ := conc_slE hx; simp [Op.equalIn, run_underlying hu]
  · rename_i k e hu
    split at he <;> cases he
    · rw [conc_p rfl] at hx hy; cases hx; cases hy; simp [Op.equalIn, run_underlying hu]
    · rw [conc_p rfl] at hx; cases hx
      simp only [conc, Option.map_eq_some_iff] at hy
      obtain ⟨r, _, rfl⟩ := hy; simp [Op.equalIn, run_underlying hu]
    · rw [conc_p rfl] at hy; cases hy
      simp only [conc, Option.map_eq_some_iff] at hx
      obtain ⟨r, _, rfl⟩ := hx; simp [Op.equalIn, run_underlying hu]
  · rename_i a b c' hu
    split at he <;> cases he
    · rw [conc_p rfl] at hx hy; cases hx; cases hy; simp [Op.equalIn, run_underlying hu]
    · rw [conc_p rfl] at hx; cases hx
      simp only [conc, Option.map_eq_some_iff] at hy
      obtain ⟨r, _, rfl⟩ := hy; simp [Op.equalIn, run_underlying hu]
    · rw [conc_p rfl] at hy; cases hy
      simp only [conc, Option.map_eq_some_iff] at hx
      obtain ⟨r, _, rfl⟩ := hx; simp [Op.equalIn, run_underlying hu]
  · cases he
theorem equal_ok {t : TypeId} {x y : AV} {vx vy : Value} {c : Bool} (he : eqAll P (P.underlying t) x y = some c) (hx : conc ρ x = some vx) (hy : conc ρ y = some vy) :
    (Op.equal t vx vy).run P w = .ok c w := equalIn_ok he hx hy 9999
theorem eqAll_kind {d : Option TypeDesc} {x y : AV} {vx vy : Value} {c : Bool} (he : eqAll P d x y = some c) (hx : conc ρ x = some vx) (hy : conc ρ y = some vy) :
    (∃ a b, vx = .bool a ∧ vy = .bool b) ∨ (∃ a b, vx = .pointer a ∧ vy = .pointer b) ∨ (∃ a b c a' b' c', vx = .slice a b c ∧ vy = .slice a' b' c') ∨ (∃ a b, vx = .map a ∧ vy = .map b) ∨
      ((vx = .nilFunc ∨ ∃ f a b, vx = .func f a b) ∧ (vy = .nilFunc ∨ ∃ f a b, vy = .func f a b)) := by
  unfold eqAll at he
  split at he <;> first | (cases he; done) | (split at he <;> first | (cases he; done) | skip)
  all_goals simp only [conc, Option.map_eq_some_iff, Option.some.injEq, Value.oneCell', if_true] at hx hy
  all_goals first
    | (cases hx; cases hy; simp; done)
    | (cases hx; obtain ⟨_, _, rfl⟩ := hy; simp; done)
    | (cases hy; obtain ⟨_, _, rfl⟩ := hx; simp; done)
    | (obtain ⟨_, _, rfl⟩ := hy; obtain ⟨_, _, rfl⟩ := hx; simp; done)
theorem ceq_ok {k : Nat} {x y : AV} {u v : Value} {r : Bool} (h : ceq k x y = some r) (hx : conc ρ x = some u) (hy : conc ρ y = some v) : vceq k u v = some r := by
  unfold ceq at h
  split at h
  · split at h
    · rename_i k a k' b h1 h2
      rw [toI_conc h1 hx, toI_conc h2 hy]
      split at h
      · rename_i hk
        cases h
        simp only [vceq, hk, if_true, Option.some.injEq]
        by_cases hab : a = b
        · simp [hab]
        · simp [hab]
      · cases h
    · cases h
  · split at h
    · rename_i a b h1 h2
      rw [toS_conc h1 hx, toS_conc h2 hy]
      cases h
      simp only [vceq, Option.some.injEq]
      rw [beq_toListBytes, ByteArray.toList_eq, ByteArray.toList_eq, lbeq_eq]
    · cases h
  · obtain ⟨a, rfl, h1⟩ := elB_none h
    obtain ⟨b, rfl, h2⟩ := elB_none h1
    cases h2
    rw [conc_b] at hx hy
    cases hx; cases hy
    rfl
  · split at h
    · rename_i k a b k' c d
      rw [conc_p rfl] at hx hy
      cases hx; cases hy
      exact h
    · cases h
  · cases h
theorem ceqs_ok {xs ys : List AV} {us vs : List Value} (hx : concs ρ xs = some us) (hy : concs ρ ys = some vs) : ∀ {l : List (Nat × Nat)} {r : Bool}, ceqs xs ys l = some r → vceqs us.toArray vs.toArray l = some r
  | [], r, h => h
  | q :: l, r, h => by
    obtain ⟨u, h1, h⟩ := ob_some h
    obtain ⟨v, h2, h⟩ := ob_some h
    obtain ⟨r0, h3, h⟩ := ob_some h
    obtain ⟨s, h4, h⟩ := ob_some h
    cases h
    obtain ⟨a, h5, h6⟩ := concs_get hx q.1 u h1
    obtain ⟨b, h7, h8⟩ := concs_get hy q.1 v h2
    simp only [vceqs, List.getElem?_toArray, h5, h7, Option.bind_some, ceq_ok h3 h6 h8, ceqs_ok hx hy h4, Option.map_some]
theorem conc_agg {xs : List AV} {v : Value} (h : conc ρ (.agg xs) = some v) : ∃ us, concs ρ xs = some us ∧ v = .agg us.toArray := by
  simp only [conc, Option.bind_eq_some_iff] at h
  obtain ⟨us, h1, h2⟩ := h
  split at h2
  · cases h2; exact ⟨us, h1, rfl⟩
  · cases h2
theorem aggEq_ok {t : TypeId} {x y : AV} {vx vy : Value} {c : Bool} (h : aggEq P t x y = some c) (hx : conc ρ x = some vx) (hy : conc ρ y = some vy) :
    ∃ us vs, vx = .agg us ∧ vy = .agg vs ∧ P.eqGuardType P.depth t = false ∧ (Op.equalIn 10000 t vx vy).run P w = .ok c w := by
  obtain ⟨xs, rfl, h1⟩ := elAgg_none h
  obtain ⟨ys, rfl, h2⟩ := elAgg_none h1
  obtain ⟨hg, h3⟩ := bc_some h2
  obtain ⟨s, hs, h4⟩ := ob_some h3
  obtain ⟨hl, h5⟩ := bc_some h4
  obtain ⟨l, hlv, h6⟩ := ob_some h5
  simp only [Bool.and_eq_true, beq_iff_eq] at hl
  have hl1 := Nat.eq_of_beq_eq_true hl.1
  have hl2 := Nat.eq_of_beq_eq_true hl.2.1
  have ha := hl.2.2
  obtain ⟨us, hu, rfl⟩ := conc_agg hx
  obtain ⟨vs, hv, rfl⟩ := conc_agg hy
  have n1 := concs_length hu
  have n2 := concs_length hv
  have whole : ∀ (a : Array Value), a.size = s → IsPart P t a 0 (.agg a) := fun a h => .inl ⟨ha, s, hs, by rw [← h]; simp, by omega⟩
  exact ⟨_, _, rfl, rfl, by simpa using hg, leaves_ok 40 t 0 l hlv 9960 us.toArray vs.toArray _ _ c (whole _ (by simp; omega)) (whole _ (by simp; omega)) (ceqs_ok hu hv h6)⟩
theorem seqB_ok : ∀ {l k : List AV} {us vs : List Value}, seqB l k = true → concs ρ l = some us → concs ρ k = some vs → us = vs
  | [], [], us, vs, _, hx, hy => by rw [concs_nil] at hx hy; cases hx; cases hy; rfl
  | x :: l, y :: k, us, vs, h, hx, hy => by
    obtain ⟨u, us, h1, h2, rfl⟩ := concs_cons.1 hx
    obtain ⟨v, vs, h3, h4, rfl⟩ := concs_cons.1 hy
    cases x <;> cases y <;> simp only [seqB, Bool.and_eq_true, Bool.false_eq_true] at h
    · have := Nat.eq_of_beq_eq_true h.1
      subst this
      rw [h1] at h3; cases h3
      rw [seqB_ok h.2 h2 h4]
    · have := Nat.eq_of_beq_eq_true h.1
      subst this
      rw [h1] at h3; cases h3
      rw [seqB_ok h.2 h2 h4]
  | [], _ :: _, _, _, h, _, _ => by cases h
  | x :: _, [], _, _, h, _, _ => by cases x <;> cases h
theorem txtEq_ok {x y : AV} {vx vy : Value} {c : Bool} (h : txtEq x y = some c) (hx : conc ρ x = some vx) (hy : conc ρ y = some vy) : ∃ s, vx = .string s ∧ vy = .string s ∧ c = true := by
  unfold txtEq at h
  split at h
  · obtain ⟨h1, h2⟩ := bc_some h
    cases h2
    obtain ⟨us, s, a1, a2, rfl⟩ := conc_txt hx
    obtain ⟨vs, t, b1, b2, rfl⟩ := conc_txt hy
    have := seqB_ok h1 a1 b1
    subst this
    rw [a2] at b2; cases b2
    exact ⟨_, rfl, rfl, rfl⟩
  · cases h
theorem symCmp_ok {op : BinOp} {x y : AV} {vx vy : Value} {c : Bool} (h : symCmp op x y = some c) (hx : conc ρ x = some vx) (hy : conc ρ y = some vy) (t : TypeId) :
    (∃ u, (binOp op t vx vy).run P w = .ok u w ∧ conc ρ (.b c) = some u) ∧ ∀ a b, (eqGuard op t a b vx vy).run P w = .ok () w := by
  unfold symCmp at h
  split at h
  · rename_i i a
    obtain ⟨h1, h2⟩ := bc_some h
    have h1 : a ≤ i / 4 := Nat.le_of_ble_eq_true h1
    obtain ⟨hs, _⟩ := conc_sym hx
    rw [conc_n] at hy
    cases hy
    have hform : (i % 4 = 1 ∧ ∃ k, vx = .int .i64 (.negSucc k)) ∨ (i % 4 = 2 ∧ ∃ k, vx = .int .i64 (.ofNat k) ∧ i / 4 < k) ∨ (i % 4 ≠ 1 ∧ i % 4 ≠ 2) := by
      clear hx
      unfold symOk at hs
      by_cases c1 : i % 4 = 1
      · refine .inl ⟨c1, ?_⟩
        rw [c1] at hs
        split at hs <;> first | exact ⟨_, rfl⟩ | (rename_i h0 _ ; omega) | (rename_i h0; omega) | cases hs
      · by_cases c2 : i % 4 = 2
        · refine .inr (.inl ⟨c2, ?_⟩)
          rw [c2] at hs
          split at hs <;> first | exact ⟨_, rfl, of_decide_eq_true hs⟩ | (rename_i h0 _ ; omega) | (rename_i h0; omega) | cases hs
        · exact .inr (.inr ⟨c1, c2⟩)
    rcases hform with ⟨h0, k, rfl⟩ | ⟨h0, k, rfl, hk⟩ | ⟨h0, h0'⟩
    · rw [h0] at h2
      refine ⟨⟨.bool c, ?_, conc_b c⟩, fun x y => by simp only [eqGuard]; split <;> rfl⟩
      cases op <;> first
        | (cases h2; done)
        | (cases h2
           simp only [binOp, Op.intCmp, ne_eq, not_true_eq_false, if_false, Sem.run_pure, Result.ok.injEq, Value.bool.injEq, and_true]
           simp; try omega)
    · rw [h0] at h2
      refine ⟨⟨.bool c, ?_, conc_b c⟩, fun x y => by simp only [eqGuard]; split <;> rfl⟩
      cases op <;> first
        | (cases h2; done)
        | (cases h2
           simp only [binOp, Op.intCmp, ne_eq, not_true_eq_false, if_false, Sem.run_pure, Result.ok.injEq, Value.bool.injEq, and_true]
           simp; try omega)
    · split at h2 <;> first | (exfalso; omega) | cases h2
  · cases h
theorem or_some {α : Type} {a b : Option α} {c : α} (h : a.or b = some c) : a = some c ∨ b = some c := by
  cases a with
  | none => exact .inr h
  | some x => exact .inl h
theorem semP_ok {α : Type} {s : Sem α} {a : α} (h : semP s = some a) : s.run P w = .ok a w := by
  cases s <;> simp only [semP, reduceCtorEq] at h
  cases h
  rfl
theorem floS_ok {op : BinOp} {x y z : AV} {vx vy : Value} (h : floS op x y = some z) (hx : conc ρ x = some vx) (hy : conc ρ y = some vy) (t : TypeId) :
    (∃ u, (binOp op t vx vy).run P w = .ok u w ∧ conc ρ z = some u) ∧ ∀ a b, (eqGuard op t a b vx vy).run P w = .ok () w := by
  unfold floS at h
  split at h
  · rename_i k a k' b
    obtain ⟨hk, h1⟩ := bc_some h
    have hk := of_decide_eq_true hk
    subst hk
    rw [conc_p rfl] at hx hy
    cases hx; cases hy
    refine ⟨?_, fun x y => by simp only [eqGuard]; split <;> rfl⟩
    split at h1
    all_goals
      obtain ⟨v, h2, h3⟩ := ob_some h1
      obtain ⟨h4, h5⟩ := bc_some h3
      cases h5
      have h6 := semP_ok (P := P) (w := w) h2
      refine ⟨v, ?_, conc_cv1 ρ v h4⟩
      first
        | (simp only [binOp, ne_eq, not_true_eq_false, if_false]; exact h6)
        | (cases op <;> first | contradiction | (simp only [binOp, ne_eq, not_true_eq_false, if_false]; exact h6))
  · rename_i k a b k' c d
    obtain ⟨hk, h1⟩ := bc_some h
    have hk := of_decide_eq_true hk
    subst hk
    rw [conc_p rfl] at hx hy
    cases hx; cases hy
    refine ⟨?_, fun x y => by simp only [eqGuard]; split <;> rfl⟩
    obtain ⟨v, h2, h3⟩ := ob_some h1
    obtain ⟨h4, h5⟩ := bc_some h3
    cases h5
    have h6 := semP_ok (P := P) (w := w) h2
    refine ⟨v, ?_, conc_cv1 ρ v h4⟩
    cases op <;> (simp only [binOp, ne_eq, not_true_eq_false, if_false]; exact h6)
  · cases h
theorem binS_ok {op : BinOp} {t : TypeId} {x y z : AV} {vx vy : Value} (h : binS P op t x y = some z) (hx : conc ρ x = some vx) (hy : conc ρ y = some vy) :
    (∃ u, (binOp op t vx vy).run P w = .ok u w ∧ conc ρ z = some u) ∧ ∀ a b, (eqGuard op t a b vx vy).run P w = .ok () w := by
  unfold binS at h
  split at h
  · rename_i k a k' b h1 h2
    have := toI_conc h1 hx; subst this
    have := toI_conc h2 hy; subst this
    exact ⟨intAll_ok h t, fun a b => by simp only [eqGuard]; split <;> rfl⟩
  · split at h
    · rename_i a b h1 h2
      have := toS_conc h1 hx; subst this
      have := toS_conc h2 hy; subst this
      exact ⟨strOp_ok h t, fun a b => by simp only [eqGuard]; split <;> rfl⟩
    · split at h
      · rename_i z' hz
        cases h
        exact floS_ok hz hx hy t
      · split at h
        · simp only [Option.map_eq_some_iff] at h
          obtain ⟨c, hc, rfl⟩ := h
          refine (or_some hc).elim (fun hc0 => ?_) (fun hc => ?_)
          rotate_left
          · obtain ⟨s, rfl, rfl, rfl⟩ := txtEq_ok hc hx hy
            exact ⟨⟨_, by simp [binOp, Op.stringOp], conc_b _⟩, fun a b => by simp only [eqGuard]; split <;> rfl⟩
          refine (or_some hc0).elim (fun hc => ?_) (fun hc => ?_)
          rotate_left
          · obtain ⟨us, vs, rfl, rfl, hg, he⟩ := aggEq_ok (w := w) hc hx hy
            exact ⟨⟨.bool c, by simp only [binOp, Sem.run_bind, Op.equal, Op.maxDepth, he, Result.andThen_ok, Sem.run_pure], conc_b _⟩, fun a b => run_eqGuard_agg w _ _ _ _ _ _ hg⟩
          have he := equal_ok (w := w) hc hx hy
          have hk := eqAll_kind hc hx hy
          refine ⟨⟨.bool c, ?_, conc_b c⟩, ?_⟩
          · rcases hk with ⟨a, b, rfl, rfl⟩ | ⟨a, b, rfl, rfl⟩ | ⟨a, b, c, a', b', c', rfl, rfl⟩ | ⟨a, b, rfl, rfl⟩ | ⟨rfl | ⟨f, a, b, rfl⟩, rfl | ⟨f', a', b', rfl⟩⟩ <;> simp only [binOp, Sem.run_bind, he, Result.andThen_ok, Sem.run_pure]
          · intro a b
            rcases hk with ⟨a, b, rfl, rfl⟩ | ⟨a, b, rfl, rfl⟩ | ⟨a, b, c, a', b', c', rfl, rfl⟩ | ⟨a, b, rfl, rfl⟩ | ⟨rfl | ⟨f, a, b, rfl⟩, rfl | ⟨f', a', b', rfl⟩⟩ <;> simp [eqGuard]
        · simp only [Option.map_eq_some_iff] at h
          obtain ⟨c, hc, rfl⟩ := h
          refine (or_some hc).elim (fun hc0 => ?_) (fun hc => ?_)
          rotate_left
          · obtain ⟨s, rfl, rfl, rfl⟩ := txtEq_ok hc hx hy
            exact ⟨⟨_, by simp [binOp, Op.stringOp], conc_b _⟩, fun a b => by simp only [eqGuard]; split <;> rfl⟩
          refine (or_some hc0).elim (fun hc => ?_) (fun hc => ?_)
          rotate_left
          · obtain ⟨us, vs, rfl, rfl, hg, he⟩ := aggEq_ok (w := w) hc hx hy
            exact ⟨⟨.bool (!c), by simp only [binOp, Sem.run_bind, Op.equal, Op.maxDepth, he, Result.andThen_ok, Sem.run_pure], conc_b _⟩, fun a b => run_eqGuard_agg w _ _ _ _ _ _ hg⟩
          have he := equal_ok (w := w) hc hx hy
          have hk := eqAll_kind hc hx hy
          refine ⟨⟨.bool (!c), ?_, conc_b _⟩, ?_⟩
          · rcases hk with ⟨a, b, rfl, rfl⟩ | ⟨a, b, rfl, rfl⟩ | ⟨a, b, c, a', b', c', rfl, rfl⟩ | ⟨a, b, rfl, rfl⟩ | ⟨rfl | ⟨f, a, b, rfl⟩, rfl | ⟨f', a', b', rfl⟩⟩ <;> simp only [binOp, Sem.run_bind, he, Result.andThen_ok, Sem.run_pure]
          · intro a b
            rcases hk with ⟨a, b, rfl, rfl⟩ | ⟨a, b, rfl, rfl⟩ | ⟨a, b, c, a', b', c', rfl, rfl⟩ | ⟨a, b, rfl, rfl⟩ | ⟨rfl | ⟨f, a, b, rfl⟩, rfl | ⟨f', a', b', rfl⟩⟩ <;> simp [eqGuard]
        · simp only [Option.map_eq_some_iff] at h
          obtain ⟨c, hc, rfl⟩ := h
          exact symCmp_ok hc hx hy t
theorem wrap_nat {n : Nat} (h : n ≤ 9223372036854775807) : IntKind.i64.wrap (n : Int) = (n : Int) := IntWalk.i64_in _ (by omega)
theorem rtn_ok {s : Nat} {slow : R} {z : Option AV} (hs : slow = rto m z) (h : s ≤ 9223372036854775807 → z = some (.n s)) : rtn m s slow = rto m z := by
  unfold rtn
  rw [fc_eq, bc_eq]
  by_cases hb : s ≤ 9223372036854775807
  · rw [if_pos (by rw [nble]; simpa using hb), h hb]; rfl
  · rw [if_neg (by rw [nble]; simpa using hb), hs]
theorem q2_ok {x y : RO} {fr : Fr} {slow r : R} {k : Nat → Nat → R} (hs : slow = r) (hk : ∀ a b, ev x fr = .n a → ev y fr = .n b → k a b = r) : q2 x y fr slow k = r := by
  unfold q2
  cases hx : ev x fr <;> simp only [elN] <;> try exact hs
  cases hy : ev y fr <;> simp only [] <;> try exact hs
  exact hk _ _ hx hy
theorem binS_nn (op : BinOp) (t : TypeId) (a b : Nat) : binS P op t (.n a) (.n b) = intAll op .i64 (Int.ofNat a) .i64 (Int.ofNat b) := rfl
theorem rtb_eq (c : Bool) : rtb m c = rto m (some (.b c)) := by cases c <;> rfl
theorem quick_add {t : TypeId} {x y : RO} {fr : Fr} : rAdd (binS P .add t) x y fr m = rto m (binS P .add t (ev x fr) (ev y fr)) :=
  q2_ok rfl fun a b hx hy => rtn_ok rfl fun h => by
    rw [hx, hy, binS_nn]
    show some (ofI .i64 (IntKind.i64.wrap (Int.ofNat a + Int.ofNat b))) = _
    rw [show Int.ofNat a + Int.ofNat b = ((Nat.add a b : Nat) : Int) from rfl, wrap_nat h]; rfl
theorem quick_mul {t : TypeId} {x y : RO} {fr : Fr} : rMul (binS P .mul t) x y fr m = rto m (binS P .mul t (ev x fr) (ev y fr)) :=
  q2_ok rfl fun a b hx hy => rtn_ok rfl fun h => by
    rw [hx, hy, binS_nn]
    show some (ofI .i64 (IntKind.i64.wrap (Int.ofNat a * Int.ofNat b))) = _
    rw [show Int.ofNat a * Int.ofNat b = ((Nat.mul a b : Nat) : Int) from rfl, wrap_nat h]; rfl
theorem quick_sub {t : TypeId} {x y : RO} {fr : Fr} : rSub (binS P .sub t) x y fr m = rto m (binS P .sub t (ev x fr) (ev y fr)) :=
  q2_ok rfl fun a b hx hy => by
    rw [bc_eq]
    split
    · rename_i hb
      have hb : b ≤ a := Nat.le_of_ble_eq_true hb
      refine rtn_ok rfl fun h => ?_
      rw [hx, hy, binS_nn]
      show some (ofI .i64 (IntKind.i64.wrap (Int.ofNat a - Int.ofNat b))) = _
      rw [show Int.ofNat a - Int.ofNat b = ((Nat.sub a b : Nat) : Int) from by
        have : (Nat.sub a b) = a - b := rfl
        rw [this]; simp only [Int.ofNat_eq_natCast]; omega, wrap_nat h]; rfl
    · rfl
theorem quick_quo {t : TypeId} {x y : RO} {fr : Fr} : rQuo (binS P .quo t) x y fr m = rto m (binS P .quo t (ev x fr) (ev y fr)) :=
  q2_ok rfl fun a b hx hy => by
    rw [bc_eq, nbeq]
    by_cases hb : b = 0
    · subst hb; rw [hx, hy, binS_nn]; rfl
    · rw [if_neg (by simpa using hb)]
      refine rtn_ok rfl fun h => ?_
      rw [hx, hy, binS_nn]
      show (if Int.ofNat b = 0 then none else some (ofI .i64 (IntKind.i64.wrap ((Int.ofNat a).tdiv (Int.ofNat b))))) = _
      rw [if_neg (by simp only [Int.ofNat_eq_natCast]; omega), show (Int.ofNat a).tdiv (Int.ofNat b) = ((Nat.div a b : Nat) : Int) from rfl, wrap_nat h]; rfl
theorem quick_rem {t : TypeId} {x y : RO} {fr : Fr} : rRem (binS P .rem t) x y fr m = rto m (binS P .rem t (ev x fr) (ev y fr)) :=
  q2_ok rfl fun a b hx hy => by
    rw [bc_eq, nbeq]
    by_cases hb : b = 0
    · subst hb; rw [hx, hy, binS_nn]; rfl
    · rw [if_neg (by simpa using hb)]
      refine rtn_ok rfl fun _ => ?_
      rw [hx, hy, binS_nn]
      show (if Int.ofNat b = 0 then none else some (ofI .i64 ((Int.ofNat a).tmod (Int.ofNat b)))) = _
      rw [if_neg (by simp only [Int.ofNat_eq_natCast]; omega)]; rfl
theorem quick_lt {t : TypeId} {x y : RO} {fr : Fr} : rLt (binS P .lss t) x y fr m = rto m (binS P .lss t (ev x fr) (ev y fr)) :=
  q2_ok rfl fun a b hx hy => by
    rw [rtb_eq, hx, hy, binS_nn]
    show rto m (some (.b _)) = rto m (some (.b (decide (Int.ofNat a < Int.ofNat b))))
    rw [nble]; congr 3; rw [Bool.eq_iff_iff]; simp only [decide_eq_true_eq, Int.ofNat_eq_natCast]; omega
theorem quick_le {t : TypeId} {x y : RO} {fr : Fr} : rLe (binS P .leq t) x y fr m = rto m (binS P .leq t (ev x fr) (ev y fr)) :=
  q2_ok rfl fun a b hx hy => by
    rw [rtb_eq, hx, hy, binS_nn]
    show rto m (some (.b _)) = rto m (some (.b (decide (Int.ofNat a ≤ Int.ofNat b))))
    rw [nble]; congr 3; rw [Bool.eq_iff_iff]; simp only [decide_eq_true_eq, Int.ofNat_eq_natCast]; omega
theorem quick_gt {t : TypeId} {x y : RO} {fr : Fr} : rGt (binS P .gtr t) x y fr m = rto m (binS P .gtr t (ev x fr) (ev y fr)) :=
  q2_ok rfl fun a b hx hy => by
    rw [rtb_eq, hx, hy, binS_nn]
    show rto m (some (.b _)) = rto m (some (.b (decide (Int.ofNat a > Int.ofNat b))))
    rw [nble]; congr 3; rw [Bool.eq_iff_iff]; simp only [decide_eq_true_eq, Int.ofNat_eq_natCast]; omega
theorem quick_ge {t : TypeId} {x y : RO} {fr : Fr} : rGe (binS P .geq t) x y fr m = rto m (binS P .geq t (ev x fr) (ev y fr)) :=
  q2_ok rfl fun a b hx hy => by
    rw [rtb_eq, hx, hy, binS_nn]
    show rto m (some (.b _)) = rto m (some (.b (decide (Int.ofNat a ≥ Int.ofNat b))))
    rw [nble]; congr 3; rw [Bool.eq_iff_iff]; simp only [decide_eq_true_eq, Int.ofNat_eq_natCast]; omega
theorem quick_eq {t : TypeId} {x y : RO} {fr : Fr} : rEq (binS P .eql t) x y fr m = rto m (binS P .eql t (ev x fr) (ev y fr)) :=
  q2_ok rfl fun a b hx hy => by
    rw [rtb_eq, hx, hy, binS_nn]
    show rto m (some (.b _)) = rto m (some (.b (Int.ofNat a == Int.ofNat b)))
    rw [nbeq]; congr 3; rw [Bool.eq_iff_iff]; simp only [decide_eq_true_eq, Int.ofNat_eq_natCast, beq_iff_eq]; omega
theorem quick_ne {t : TypeId} {x y : RO} {fr : Fr} : rNe (binS P .neq t) x y fr m = rto m (binS P .neq t (ev x fr) (ev y fr)) :=
  q2_ok rfl fun a b hx hy => by
    rw [hx, hy, binS_nn]
    show bc (Nat.beq a b) _ _ = rto m (some (.b (Int.ofNat a != Int.ofNat b)))
    have e : bc (Nat.beq a b) (some (AV.b false, m)) (some (AV.b true, m)) = rto m (some (.b (!Nat.beq a b))) := by cases Nat.beq a b <;> rfl
    rw [e, nbeq]; congr 3; rw [Bool.eq_iff_iff]; simp only [Bool.not_eq_true', decide_eq_false_iff_not, Int.ofNat_eq_natCast, bne_iff_ne, ne_eq]; omega
end
end Go.Am
