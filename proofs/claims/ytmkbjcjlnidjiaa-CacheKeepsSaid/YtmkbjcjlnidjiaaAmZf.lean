import Derived.Test.YtmkbjcjlnidjiaaAmZa
import Derived.Test.YtmkbjcjlnidjiaaAmZb
import Derived.ChangeSlices
import Derived.Test.YtmkbjcjlnidjiaaAmS
/- The abstract machine: bytes, rows of them, slices that are made and cloned, where values are not known. -/
namespace Go.Am
open Go Go.RowKit

theorem rep_get (z : List AV) : ∀ (n i : Nat) (v : AV), ((List.replicate n z).flatten)[i]? = some v → z[i % z.length]? = some v
  | 0, i, v, h => by cases h
  | n + 1, i, v, h => by
    rw [List.replicate_succ, List.flatten_cons] at h
    by_cases hi : i < z.length
    · rw [List.getElem?_append_left hi] at h
      rw [Nat.mod_eq_of_lt hi]; exact h
    · rw [List.getElem?_append_right (by omega)] at h
      have := rep_get z n _ _ h
      rw [Nat.mod_eq_sub_mod (by omega)]; exact this
theorem rep_len (z : List AV) (n : Nat) : ((List.replicate n z).flatten).length = n * z.length := by
  induction n with
  | zero => simp
  | succ n ih => rw [List.replicate_succ, List.flatten_cons, List.length_append, ih, Nat.succ_mul]; omega
theorem zeroAt_mod {z : List AV} {i : Nat} {v : AV} (h : z[i % z.length]? = some v) : zeroAt z i = v := by
  match z with
  | [] => cases h
  | [x] =>
    have : i % [x].length = 0 := by show i % 1 = 0; omega
    rw [this] at h
    show x = v
    simpa using h
  | x :: y :: z =>
    show (x :: y :: z).getD (i % (x :: y :: z).length) AV.undef = v
    rw [List.getD_eq_getElem?_getD, h]; rfl
theorem At.addZr {m : M} {e k : Nat} {z : List AV} (n : Nat) (hk : k = n * z.length) : At (m.addZ e k z) m.next e true ((List.replicate n z).flatten) := by
  refine ⟨_, by unfold M.addZ; rw [M.get_new, if_pos rfl], rfl, by rw [rep_len, hk], rfl, rfl, rfl, fun i v hv => ?_⟩
  rw [rd_eq, getP_leaf]
  exact zeroAt_mod (rep_get z n i v hv)
section
variable {P : Program} {T : Tb} {fr : Fr} {m : M}
theorem o_mksl (e sz bytes : Nat) (z : List AV) (l k : RO) : run (.mksl e sz bytes z l k) fr m = rMkSl e sz bytes z (.cst (ev l fr)) (.cst (ev k fr)) .leaf m := rfl
theorem v_mksl (e sz bytes : Nat) (z : List AV) {n : Nat} (h1 : n ≤ 1099511627776) (h2 : n * bytes ≤ 1099511627776) : rMkSl e sz bytes z (.cst (iv (n : Int))) (.cst (iv (n : Int))) .leaf m = some (.slice m.next 0 n n false, m.addZ e (n * sz) z) := by
  show bc (Nat.ble n n && (Nat.ble n 1099511627776 && Nat.ble (n * bytes) 1099511627776)) (fc (Nat.mul n sz) fun k => some (AV.slice m.next (nat_lit 0) n n false, m.new (.cells ⟨e, k, .leaf, z, none, false, true, false⟩))) none = _
  rw [nble, nble, nble, decide_eq_true (Nat.le_refl n), decide_eq_true h1, decide_eq_true h2]
  rw [show (true && (true && true)) = true from rfl, bc_true, fc_eq]
  rfl
/-! ### Bytes -/
theorem o_b2s (x : RO) : run (.b2s x) fr m = rB2S (.cst (ev x fr)) .leaf m := rfl
/-- A slice of known bytes. -/
inductive BsAt (m : M) : AV → List UInt8 → Nat → Prop where
  | row {b off cap : Nat} {lim : Bool} {l : List UInt8} {cells : List AV} (h : AtR m b cells) (hl : off + l.length ≤ cells.length) (hc : (cells.drop off).take l.length = ycells l) : BsAt m (.slice b off l.length cap lim) l b
theorem BsAt.of_get {m m' : M} {s : AV} {l : List UInt8} {b : Nat} (h : BsAt m s l b) (hg : m'.get b = m.get b) : BsAt m' s l b := by
  cases h with
  | row h hl hc => exact .row (h.of_get hg) hl hc
theorem BsAt.keep {m m' : M} {s : AV} {l : List UInt8} {b : Nat} {F : Nat → Prop} (h : BsAt m s l b) (hw : Wf m) (k : Keep m m' F) (hf : ¬ F b) : BsAt m' s l b := by
  cases h with
  | row h hl hc => exact .row (h.keep hw k hf) hl hc
theorem BsAt.lt {s : AV} {l : List UInt8} {b : Nat} (h : BsAt m s l b) (hw : Wf m) : b < m.next := by
  cases h with
  | row h hl hc => exact h.lt hw
theorem BsAt.cells1 {s : AV} {l : List UInt8} {b : Nat} (h : BsAt m s l b) : cellsO s = some [s] := by cases h; rfl
theorem BsAt.len {s : AV} {l : List UInt8} {b : Nat} (h : BsAt m s l b) : lenK false s = some l.length := by cases h; rfl
theorem BsAt.aq {s : AV} {l : List UInt8} {b : Nat} (h : BsAt m s l b) : aveq 40 s s = true := by cases h; simp [aveq, Nat.beq_refl]
theorem BsAt.run_b2s {s : AV} {l : List UInt8} {b : Nat} (h : BsAt m s l b) : rB2S (.cst s) .leaf m = some (tv l, m) := by
  cases h with
  | @row b off cap lim l cells h hl hc =>
    have e : m.rdN b off l.length = some (ycells l) := by rw [h.rdN hl, hc]
    show (ob (m.rdN b off l.length) fun l => Option.rec (motive := fun _ => R) (bc (l.all symB) (some (.txt l, m)) none) (fun s => some (.p (.string ⟨s.toArray⟩), m)) (bytesUp l)) = _
    rw [e, v_ob, bytesUp_y]
    rfl
theorem BsAt.src {s : AV} {l : List UInt8} {b : Nat} (h : BsAt m s l b) : Rds m s 1 l.length (ycells l) := by
  cases h with
  | @row b off cap lim l cells h hl hc =>
    refine ⟨rfl, ?_, by simp [ycells]⟩
    refine firstA_sl (by rw [Nat.mul_one, h.rdN hl, hc]) fun e => ?_
    rw [List.length_eq_zero_iff.1 e]; rfl
theorem o_sl3 (sz : Nat) (x h k : RO) : run (.sl sz true x none (some h) (some k)) fr m = rSl sz true (.cst (ev x fr)) none (some (.cst (ev h fr))) (some (.cst (ev k fr))) .leaf m := rfl
theorem v_sl00 (sz b off len cap : Nat) (lim : Bool) : rSl sz true (.cst (.slice b off len cap lim)) none (some (.cst (iv 0))) (some (.cst (iv 0))) .leaf m = some (.slice b off 0 0 true, m) := by
  show ob (bnd (some (iv ((0 : Nat) : Int))) cap cap) (fun c => ob (bnd (some (iv ((0 : Nat) : Int))) (bc true 0 len) c) fun h => ob (bnd none 0 h) fun l => bc (Nat.ble h c) (
      bc (Nat.beq c l && !Nat.beq l 0) (fc (Nat.mul l sz) fun adv => slEnd m b off adv (lim || true))
      (fc (Nat.add off (Nat.mul l sz)) fun o => fc (Nat.sub h l) fun n => fc (Nat.sub c l) fun k => some (.slice b o n k (lim || true), m))) none) = _
  rw [bnd_iv (Nat.zero_le _), v_ob, bnd_iv (Nat.le_refl _), v_ob, bnd_none, v_ob]
  simp only [fc_eq, Bool.or_true]
  show some (AV.slice b (off + 0 * sz) 0 0 true, m) = _
  rw [Nat.zero_mul]; rfl
/-- What is cut to nothing, and appended to: a new row. -/
theorem run_clone {e sz bytes k b off : Nat} {z new cells : List AV} {y : AV} (hb : AtR m b cells) (hoff : off ≤ cells.length) (hw : Wf m) (hy : Rds m y sz k new) (h0 : 0 < k) (hroom : room k bytes = true) :
    ∃ m', rApp e sz bytes z (.cst (.slice b off 0 0 true)) (.cst y) .leaf m = some (.slice m.next 0 k k false, m') ∧ SlAt m' e sz (.slice m.next 0 k k false) k new (some m.next) ∧ Keep m m' (fun _ => False) ∧ m'.next = m.next + 1 := by
  obtain ⟨hy1, hy2, hy3⟩ := hy
  obtain ⟨s', m', h1, h2, h3, h4⟩ := appNew_at (e := e) (z := z) hy3 h0 hw
  have hs : s' = .slice m.next 0 k k false := by
    unfold appNew at h1
    rw [fc_eq] at h1
    cases h1
    rfl
  subst hs
  have hrd : m.rdN b off 0 = some [] := by rw [hb.rdN (by omega)]; simp
  obtain ⟨c, hc, _⟩ := hb.row
  refine ⟨m', ?_, h2, h3, h4⟩
  show (ob (Am.lenA y) fun k => ob (firstA m sz k y) fun new => aappend e sz bytes z m (.slice b off 0 0 true) k new) = _
  rw [hy1, v_ob, hy2, v_ob]
  show (fc (Nat.add 0 k) fun need => bc (Nat.ble need 0) (bc (Nat.beq k 0) (some (AV.slice b off need 0 true, m)) (fc (Nat.add off (Nat.mul 0 sz)) fun at' => ob (m.wr b at' new) fun m => some (.slice b off need 0 true, m)))
      (bc (room need bytes) (ob (m.cel b) fun c => ob (m.rdN b off (Nat.mul 0 sz)) fun old =>
        bc (true || (c.mv.isNone && c.exact)) (appNew e sz z m need (old ++ new))
          (bc (c.mv.isNone && (!c.ro && (Nat.beq c.elem e && (Nat.ble 0 0 && Nat.beq (off + 0 * sz) c.n))))
            (fc (Nat.add off (Nat.mul 0 sz)) fun n' => appMove e sz z m b off n' need c old new) none)) none)) = _
  rw [fc_eq, show Nat.add 0 k = k from Nat.zero_add k, nble, decide_eq_false (by omega), bc_false, hroom, bc_true, M.cel_some.2 hc, v_ob, show Nat.mul 0 sz = 0 from Nat.zero_mul sz, hrd, v_ob, Bool.true_or, bc_true]
  exact h1
/-! ### Bytes compared -/
theorem toI_y (c : Nat) : toI (.y c) = some (.u8, (c : Int)) := rfl
end
end Go.Am
/- The abstract machine: arguments that are slices of numbers or bytes, one behind the other. -/
namespace Go.Am
open Go Go.RowKit Go.ChangeShapes Go.WideShapes

/-- A place of which nothing is read: the next number is left out. -/
def M.bump (m : M) : M := ⟨m.tab, m.next + 1⟩
theorem M.get_bump (m : M) (b : Nat) : m.bump.get b = m.get b := rfl
theorem M.cel_bump (m : M) (b : Nat) : m.bump.cel b = m.cel b := rfl
noncomputable def M.addRo (m : M) (e : TypeId) (l : List AV) : M := m.new (.cells ⟨e, l.length, fillP l (nat_lit 0) .leaf, [], none, false, false, true⟩)
theorem M.next_addRo (m : M) (e : TypeId) (l : List AV) : (m.addRo e l).next = m.next + 1 := M.next_new _ _
theorem M.get_addRo (m : M) (e : TypeId) (l : List AV) (b : Nat) : (m.addRo e l).get b = if b = m.next then some (.cells ⟨e, l.length, fillP l (nat_lit 0) .leaf, [], none, false, false, true⟩) else m.get b := M.get_new _ _ _
theorem AtR.addRo (m : M) (e : TypeId) (l : List AV) : AtR (m.addRo e l) m.next l :=
  ⟨_, by rw [M.get_addRo, if_pos rfl], rfl, rfl, fun _ _ h => rd_mRow e l h⟩
theorem Keep.addRo {m : M} (hw : Wf m) {e : TypeId} {l : List AV} {F : Nat → Prop} : Keep m (m.addRo e l) F :=
  ⟨by rw [M.next_addRo]; omega, hw.new, fun b hb _ => M.get_new_ne (by omega)⟩
theorem Keep.bump {m : M} (hw : Wf m) {F : Nat → Prop} : Keep m m.bump F := ⟨Nat.le_succ _, fun b hb => hw b (Nat.le_of_succ_le hb), fun _ _ _ => rfl⟩
section
variable {P : Program} {w0 : World} {ρ : Ren} {m : M} {w : World}
theorem clean_bump (m : M) : ∀ n b, m.bump.clean n b = m.clean n b
  | 0, _ => rfl
  | n + 1, b => by
    unfold M.clean
    rw [M.cel_bump]
    split
    · rename_i c _
      cases c.mv with
      | none => rfl
      | some x => simp only [clean_bump m n x]
    · rfl
theorem readable_bump (m : M) (c : Cel) : m.bump.readable c = m.readable c := by
  unfold M.readable
  cases c.mv with
  | none => rfl
  | some x => exact clean_bump m 100000 x
theorem Sim.bump (h : Sim P w0 ρ m w) (q : RB) : Sim P w0 (ρ.put m.next q) m.bump w ∧ ρ.le (ρ.put m.next q) := by
  have hle : ρ.le (ρ.put m.next q) := Ren.put_le (h.next _ (Nat.le_refl _)).1
  have hlt : ∀ {b c}, m.cel b = some c → b ≠ m.next := fun hc => Nat.ne_of_lt (h.lt (M.cel_some.1 hc))
  have hltO : ∀ {b B}, m.get b = some B → b ≠ m.next := fun hc => Nat.ne_of_lt (h.lt hc)
  refine ⟨⟨h.base, ?_, ?_, h.mvok, ?_, ?_, ?_⟩, hle⟩
  · intro b hb
    have hb : m.next + 1 ≤ b := hb
    exact ⟨by rw [Ren.put_ne (by omega)]; exact (h.next b (by omega)).1, (h.next b (by omega)).2⟩
  · intro b B hg
    obtain ⟨r, hr, k⟩ := h.blk b B hg
    refine ⟨r, by rw [Ren.put_ne (hltO hg)]; exact hr, ?_⟩
    cases B with
    | cells c =>
      obtain ⟨arr, fz, k⟩ := k
      exact ⟨arr, fz, k.keep hle rfl fun h => by rwa [readable_bump] at h⟩
    | obj o =>
      obtain ⟨O, k1, k2, k3⟩ := k
      exact ⟨O, k1, k2, k3.mono hle⟩
  · intro b c b' c' r r' hc hc' hm hr hr' he hg
    rw [Ren.put_ne (hlt hc)] at hr
    rw [Ren.put_ne (hlt hc')] at hr'
    have := h.own b c b' c' r r' hc hc' hm hr hr' he hg
    clear hr hr' he hg hm hc' hc
    induction this with
    | refl b => exact .refl b
    | step hc hm _ ih => exact .step hc hm ih
  · intro b c b' c' r r' hc hc' hm hr hr' he hg
    rw [Ren.put_ne (hlt hc)] at hr
    rw [Ren.put_ne (hlt hc')] at hr'
    exact h.ext b c b' c' r r' hc hc' hm hr hr' he hg
  · intro b es b' es' r r' hc hc' hr hr' he
    rw [Ren.put_ne (hltO hc)] at hr
    rw [Ren.put_ne (hltO hc')] at hr'
    exact h.mown b es b' es' r r' hc hc' hr hr' he
theorem Sim.addRo (h : Sim P w0 ρ m w) {a : Addr} {arr : Array Value} {e : TypeId} {fz : Nat × Nat} (hlt : a.block < w0.heap.size) (hh : w.heap[a.block]? = some (.cells arr e fz)) (l : List AV) (hn : a.off + l.length ≤ arr.size)
    (hc : ∀ i v, l[i]? = some v → ∃ u, conc ρ v = some u ∧ u.oneCell' = true ∧ arr[a.off + i]? = some u) :
    Sim P w0 (ρ.put m.next ⟨a.block, a.off, 0⟩) (m.addRo e l) w ∧ ρ.le (ρ.put m.next ⟨a.block, a.off, 0⟩) := by
  have hle : ρ.le (ρ.put m.next ⟨a.block, a.off, 0⟩) := Ren.put_le (h.next _ (Nat.le_refl _)).1
  have hcel : ∀ {b c}, (m.addRo e l).cel b = some c → (b = m.next ∧ c.mv = none) ∨ (b ≠ m.next ∧ m.cel b = some c) := by
    intro b c hb
    have hb := M.cel_some.1 hb
    rw [M.get_addRo] at hb
    by_cases e : b = m.next
    · rw [if_pos e] at hb; cases hb; exact .inl ⟨e, rfl⟩
    · rw [if_neg e] at hb; exact .inr ⟨e, M.cel_some.2 hb⟩
  refine ⟨⟨h.base, ?_, ?_, ?_, ?_, ?_, ?_⟩, hle⟩
  · intro b hb
    rw [M.next_addRo] at hb
    exact ⟨by rw [Ren.put_ne (by omega)]; exact (h.next b (by omega)).1, by rw [M.get_addRo, if_neg (by omega)]; exact (h.next b (by omega)).2⟩
  · intro b B hg
    rw [M.get_addRo] at hg
    by_cases hb : b = m.next
    · rw [if_pos hb] at hg; cases hg
      refine ⟨⟨a.block, a.off, 0⟩, by rw [hb, Ren.put_same], arr, fz, hh, fun _ x => (by cases x), fun _ => hn, fun _ x => (by cases x), fun _ _ x => (by cases x), fun _ x => (by cases x), fun _ i hi => ?_⟩
      have hv : l[i]? = some l[i] := List.getElem?_eq_getElem hi
      rw [rd_mRow e l hv]
      obtain ⟨u, h1, h2, h3⟩ := hc i _ hv
      exact ⟨u, conc_mono hle _ _ h1, h2, h3⟩
    · rw [if_neg hb] at hg
      obtain ⟨r, hr, k⟩ := h.blk b B hg
      refine ⟨r, by rw [Ren.put_ne hb]; exact hr, ?_⟩
      cases B with
      | cells c =>
        obtain ⟨arr', fz', k⟩ := k
        exact ⟨arr', fz', k.keep hle rfl (readable_new h (M.cel_some.2 hg))⟩
      | obj o =>
        obtain ⟨O, k1, k2, k3⟩ := k
        exact ⟨O, k1, k2, k3.mono hle⟩
  · intro b c x hc' hm
    rcases hcel hc' with ⟨_, h1⟩ | ⟨h1, h2⟩
    · rw [h1] at hm; cases hm
    · obtain ⟨c', h3⟩ := h.mvok b c x h2 hm
      refine ⟨c', ?_⟩
      have hx := h.lt (M.cel_some.1 h3)
      rw [M.cel_some, M.get_addRo, if_neg (by omega)]
      exact M.cel_some.1 h3
  · intro b c b' c' r r' hb hb' hm hr hr' he hg
    rcases hcel hb with ⟨h1, _⟩ | ⟨h1, h2⟩
    · rw [h1, Ren.put_same] at hr; cases hr
      exact absurd hg (by show ¬ w0.heap.size ≤ a.block; omega)
    · rcases hcel hb' with ⟨h3, _⟩ | ⟨h3, h4⟩
      · rw [h3, Ren.put_same] at hr'; cases hr'
        rw [he] at hg
        exact absurd hg (by show ¬ w0.heap.size ≤ a.block; omega)
      · rw [Ren.put_ne h1] at hr
        rw [Ren.put_ne h3] at hr'
        exact reach_new h (h.own b c b' c' r r' h2 h4 hm hr hr' he hg)
  · intro b c b' c' r r' hb hb' hm hr hr' he hg
    rcases hcel hb with ⟨h1, _⟩ | ⟨h1, h2⟩
    · rw [h1, Ren.put_same] at hr; cases hr
      exact absurd hg (by show ¬ w0.heap.size ≤ a.block; omega)
    · rcases hcel hb' with ⟨h3, _⟩ | ⟨h3, h4⟩
      · rw [h3, Ren.put_same] at hr'; cases hr'
        rw [he] at hg
        exact absurd hg (by show ¬ w0.heap.size ≤ a.block; omega)
      · rw [Ren.put_ne h1] at hr
        rw [Ren.put_ne h3] at hr'
        exact h.ext b c b' c' r r' h2 h4 hm hr hr' he hg
  · intro b es b' es' r r' hb hb' hr hr' he
    rw [M.get_addRo] at hb hb'
    by_cases h1 : b = m.next
    · rw [if_pos h1] at hb; cases hb
    · by_cases h3 : b' = m.next
      · rw [if_pos h3] at hb'; cases hb'
      · rw [if_neg h1] at hb; rw [if_neg h3] at hb'
        rw [Ren.put_ne h1] at hr
        rw [Ren.put_ne h3] at hr'
        exact h.mown b es b' es' r r' hb hb' hr hr' he
end
/-! ### Slices of numbers -/
/-- A slice that is read alone: its cells. -/
inductive RsAt (m : M) : AV → List AV → Option Nat → Prop where
  | nil : RsAt m nils [] none
  | empty {b cap : Nat} {lim : Bool} : RsAt m (.slice b 0 0 cap lim) [] none
  | row {b cap : Nat} {lim : Bool} {l : List AV} (h : AtR m b l) : RsAt m (.slice b 0 l.length cap lim) l (some b)
theorem RsAt.keep {m m' : M} {x : AV} {l : List AV} {o : Option Nat} {F : Nat → Prop} (h : RsAt m x l o) (hw : Wf m) (k : Keep m m' F) (hf : ∀ b, o = some b → ¬ F b) : RsAt m' x l o := by
  cases h with
  | nil => exact .nil
  | empty => exact .empty
  | row h => exact .row (h.keep hw k (hf _ rfl))
theorem RsAt.lt {m : M} {x : AV} {l : List AV} {o : Option Nat} (h : RsAt m x l o) (hw : Wf m) {b : Nat} (hb : o = some b) : b < m.next := by
  cases h with
  | nil => cases hb
  | empty => cases hb
  | row h => cases hb; exact h.lt hw
theorem RsAt.len {m : M} {x : AV} {l : List AV} {o : Option Nat} (h : RsAt m x l o) : lenK false x = some l.length := by cases h <;> rfl
theorem RsAt.elem {m : M} {x : AV} {l : List AV} {o : Option Nat} (h : RsAt m x l o) {k : Nat} {v : AV} (hk : l[k]? = some v) : ∃ b cap lim, x = .slice b 0 l.length cap lim ∧ k < l.length ∧ m.rd b k = some v := by
  cases h with
  | nil => cases hk
  | empty => cases hk
  | row h => exact ⟨_, _, _, rfl, (List.getElem?_eq_some_iff.1 hk).1, by rw [h.rd, hk]⟩
theorem RsAt.src {m : M} {x : AV} {l : List AV} {o : Option Nat} (h : RsAt m x l o) : Rds m x 1 l.length l := by
  cases h with
  | nil => exact ⟨rfl, rfl, rfl⟩
  | empty => exact ⟨rfl, rfl, rfl⟩
  | row h =>
    refine ⟨rfl, firstA_sl (by rw [Nat.mul_one, h.rdN (by omega), List.drop_zero, List.take_length]) fun e => List.length_eq_zero_iff.1 e, by omega⟩
/-- A number in the machine's own form. -/
noncomputable def kv (k : IntKind) (z : Int) : AV := cv1 (.int k z)
theorem kv_i (z : Int) : kv .i64 z = iv z := rfl
theorem conc_kv (ρ : Ren) (k : IntKind) (z : Int) : conc ρ (kv k z) = some (.int k z) := conc_cv1 ρ _ rfl
theorem conc_sln {ρ : Ren} {b : Nat} {a : Addr} (h : ρ.loc b = some ⟨a.block, a.off, 0⟩) (hs : a.spot = none) (len cap : Nat) : conc ρ (.slice b 0 len cap true) = some (.slice (some a) len cap) := by
  obtain ⟨x, o, s⟩ := a
  cases hs
  simp only [conc, h, Option.map_some]
  rfl
theorem open_nums {H : Type} {enc : TypeId × Value → H} {P : Program} {W : World} {base : Nat} {t e : TypeId} {k : IntKind} {v : Value} {d : DataW H} {p : List MemPlace} (ht : P.underlying t = some (.slice e)) (he : P.underlying e = some (.int k)) (hC : P.cellsOf e = 1)
    (hval : Value.okWide P W .any base t v) (h : DataW.Trod enc P W 0 (fun _ => true) true t v d p) {ρ : Ren} {m : M} (hs : Sim P W ρ m W) (hw : Wf m) {B : Nat}
    (hwt : ∀ elems spare, d = .slice elems spare → (elems.length + spare.length) * B ≤ 140737488355328) :
    ∃ (ρ' : Ren) (m' : M) (x : AV) (zs : List Int) (o : Option Nat), conc ρ' x = some v ∧ Sim P W ρ' m' W ∧ ρ.le ρ' ∧ Wf m' ∧ Keep m m' (fun _ => False) ∧ RsAt m' x (zs.map (kv k)) o ∧ (∀ n ∈ zs, (Lit.int k n).wf = true) ∧ zs.length * B ≤ 140737488355328 := by
  obtain ⟨a0, len, cap, rfl⟩ := okWide_slice ht hval
  obtain ⟨fuel, hf⟩ := h
  rcases open_ints ht he hC hf with ⟨hcs, _⟩ | ⟨a, len', cap', zs, hcs, _, hl, hm, hz, hx, hcell, hwf⟩
  · simp [Value.cells] at hcs
    obtain ⟨rfl, rfl, rfl⟩ := hcs
    exact ⟨ρ, m, nils, [], none, conc_nils _, hs, ρ.le_refl, hw, Keep.refl hw _, .nil, (fun n hn => by cases hn), by simp⟩
  · simp [Value.cells] at hcs
    obtain ⟨rfl, rfl, rfl⟩ := hcs
    simp only [if_true] at hz
    have hspot : a.spot = none := by
      simp only [Value.okWide, ht, Cell.okWide, Cell.ok] at hval
      exact hval.2.2.2.1
    by_cases h0 : len = 0
    · subst h0
      obtain ⟨h1, h2⟩ := hs.bump ⟨a.block, a.off, 0⟩
      exact ⟨_, m.bump, .slice m.next 0 0 cap true, [], none, conc_sln (Ren.put_same _ _ _) hspot 0 cap, h1, h2, (Keep.bump hw (F := fun _ => False)).wf, Keep.bump hw, .empty, (fun n hn => by cases hn), by simp⟩
    · have hlen : (zs.take len).length = len := by rw [List.length_take]; omega
      have hc' : ∀ i, i < len → W.cell? (a.add i) = some (.int k (zs.getD i 0)) := fun i hi => hcell i (by omega)
      have hblk : ∃ arr e fz, W.heap[a.block]? = some (.cells arr e fz) := by
        have c0 := hc' 0 (by omega)
        unfold World.cell? at c0
        split at c0
        · rename_i hh
          exact ⟨_, _, _, hh⟩
        · cases c0
      obtain ⟨arr, e', fz, hh⟩ := hblk
      have harr : ∀ i u, W.cell? (a.add i) = some u → arr[a.off + i]? = some u := by
        intro i u hu
        have : a.add i = ⟨a.block, a.off + i, none⟩ := by
          obtain ⟨b, o, s⟩ := a
          cases hspot
          exact Addr.add_mk b o i
        rw [this] at hu
        unfold World.cell? at hu
        simp only [hh] at hu
        exact hu
      have hget : ∀ i v, ((zs.take len).map (kv k))[i]? = some v → i < len ∧ v = kv k (zs.getD i 0) := by
        intro i v hv
        rw [List.getElem?_map, List.getElem?_take] at hv
        by_cases hi : i < len
        · rw [if_pos hi] at hv
          refine ⟨hi, ?_⟩
          rw [List.getD_eq_getElem?_getD]
          cases hzi : zs[i]? with
          | none => rw [hzi] at hv; cases hv
          | some z => rw [hzi] at hv; cases hv; rfl
        · rw [if_neg hi] at hv; cases hv
      obtain ⟨h1, h2⟩ := hs.addRo (a := a) (arr := arr) (e := e') (fz := fz) (Below.lt_of_heap hh) hh ((zs.take len).map (kv k)) (by
        rw [List.length_map, hlen]
        have := (Array.getElem?_eq_some_iff.1 (harr (len - 1) _ (hc' (len - 1) (by omega)))).1
        omega) (fun i v hv => by
          obtain ⟨hi, rfl⟩ := hget i v hv
          exact ⟨_, conc_kv _ _ _, rfl, harr i _ (hc' i hi)⟩)
      refine ⟨_, m.addRo e' ((zs.take len).map (kv k)), .slice m.next 0 len cap true, zs.take len, some m.next, conc_sln (Ren.put_same _ _ _) hspot len cap, h1, h2, (Keep.addRo hw (F := fun _ => False)).wf, Keep.addRo hw, ?_, fun n hn => hwf n (List.mem_of_mem_take hn), ?_⟩
      rotate_left
      · have h1 := hwt _ _ (Prod.mk.inj hx).1
        refine Nat.le_trans (Nat.mul_le_mul_right B ?_) h1
        unfold lits
        rw [List.length_map]
        omega
      have := RsAt.row (cap := cap) (lim := true) (AtR.addRo m e' ((zs.take len).map (kv k)))
      rw [List.length_map, hlen] at this
      exact this
end Go.Am
/- The abstract machine: maps from numbers, calls of function values, sorted keys, where values are not known. -/
namespace Go.Am
open Go Go.RowKit
def nilm : AV := .p (.map none)
def nilf : AV := .p .nilFunc
abbrev Al := List (Nat × AV)
noncomputable def ents (L : Al) : List (AV × AV) := L.map fun e => (iv (e.1 : Int), e.2)
/-- A map in memory. -/
def MpAt (m : M) (b : Nat) (L : Al) : Prop := ∃ st, m.get b = some (.obj (.map (ents L) st))
theorem MpAt.of_get {m m' : M} {b : Nat} {L : Al} (h : MpAt m b L) (hg : m'.get b = m.get b) : MpAt m' b L := by
  obtain ⟨st, h⟩ := h
  exact ⟨st, hg.trans h⟩
theorem MpAt.lt {m : M} {b : Nat} {L : Al} (h : MpAt m b L) (hw : Wf m) : b < m.next := by
  obtain ⟨st, h⟩ := h
  rcases Nat.lt_or_ge b m.next with k | k
  · exact k
  · rw [hw b k] at h; cases h
theorem MpAt.keep {m m' : M} {b : Nat} {L : Al} {F : Nat → Prop} (h : MpAt m b L) (hw : Wf m) (k : Keep m m' F) (hf : ¬ F b) : MpAt m' b L := h.of_get (k.get b (h.lt hw) hf)
def lkp : Al → Nat → Option AV
  | [], _ => none
  | e :: l, k => if e.1 = k then some e.2 else lkp l k
def putL : Al → Nat → AV → Al
  | [], k, v => [(k, v)]
  | e :: l, k, v => if e.1 = k then (k, v) :: l else e :: putL l k v
def delL : Al → Nat → Al
  | [], _ => []
  | e :: l, k => if e.1 = k then l else e :: delL l k
theorem keq_iv (a b : Nat) : keq (iv (a : Int)) (iv (b : Int)) = decide (a = b) := by
  show Nat.beq a b = _
  exact nbeq a b
theorem isK_iv (a : Nat) : isK (some .i64) (iv (a : Int)) = true := rfl
theorem keysOk_ents (k : Nat) (L : Al) : keysOk (some .i64) (iv (k : Int)) (ents L) = true := by
  unfold keysOk
  rw [isK_iv, Bool.true_and, List.all_eq_true]
  intro e he
  obtain ⟨x, _, rfl⟩ := List.mem_map.1 he
  rfl
theorem mfind_ents (k : Nat) : ∀ (L : Al) (i : Nat), (mfind (iv (k : Int)) i (ents L)).map (·.2) = lkp L k
  | [], _ => rfl
  | e :: l, i => by
    show (bc (keq (iv (k : Int)) (iv (e.1 : Int))) (some (i, e.2)) (mfind (iv (k : Int)) (i + 1) (ents l))).map (·.2) = _
    rw [keq_iv]
    unfold lkp
    by_cases h : e.1 = k
    · rw [if_pos h, decide_eq_true h.symm]; rfl
    · rw [if_neg h, decide_eq_false (fun x => h x.symm)]
      exact mfind_ents k l (i + 1)
theorem mfind_put (k : Nat) (v : AV) : ∀ (L : Al) (i : Nat), (match mfind (iv (k : Int)) i (ents L) with | some z => i ≤ z.1 ∧ (ents L).set (z.1 - i) (iv (k : Int), v) = ents (putL L k v) | none => ents L ++ [(iv (k : Int), v)] = ents (putL L k v))
  | [], i => rfl
  | e :: l, i => by
    have hm : mfind (iv (k : Int)) i (ents (e :: l)) = bc (keq (iv (k : Int)) (iv (e.1 : Int))) (some (i, e.2)) (mfind (iv (k : Int)) (i + 1) (ents l)) := rfl
    rw [hm, keq_iv]
    have he : ents (e :: l) = (iv (e.1 : Int), e.2) :: ents l := rfl
    rw [he]
    unfold putL
    by_cases h : e.1 = k
    · rw [if_pos h, decide_eq_true h.symm, bc_true]
      exact ⟨Nat.le_refl _, by rw [Nat.sub_self]; rfl⟩
    · rw [if_neg h, decide_eq_false (fun x => h x.symm), bc_false]
      have ih := mfind_put k v l (i + 1)
      cases hz : mfind (iv (k : Int)) (i + 1) (ents l) with
      | none =>
        rw [hz] at ih
        show (iv (e.1 : Int), e.2) :: ents l ++ [(iv (k : Int), v)] = (iv (e.1 : Int), e.2) :: ents (putL l k v)
        rw [List.cons_append, ih]
      | some z =>
        rw [hz] at ih
        obtain ⟨h1, h2⟩ := ih
        refine ⟨by omega, ?_⟩
        show ((iv (e.1 : Int), e.2) :: ents l).set (z.1 - i) (iv (k : Int), v) = (iv (e.1 : Int), e.2) :: ents (putL l k v)
        rw [show z.1 - i = (z.1 - (i + 1)) + 1 by omega, List.set_cons_succ, h2]
theorem mfind_del (k : Nat) : ∀ (L : Al) (i : Nat), (match mfind (iv (k : Int)) i (ents L) with | some z => i ≤ z.1 ∧ (ents L).eraseIdx (z.1 - i) = ents (delL L k) | none => delL L k = L)
  | [], i => rfl
  | e :: l, i => by
    have hm : mfind (iv (k : Int)) i (ents (e :: l)) = bc (keq (iv (k : Int)) (iv (e.1 : Int))) (some (i, e.2)) (mfind (iv (k : Int)) (i + 1) (ents l)) := rfl
    rw [hm, keq_iv]
    have he : ents (e :: l) = (iv (e.1 : Int), e.2) :: ents l := rfl
    rw [he]
    unfold delL
    by_cases h : e.1 = k
    · rw [if_pos h, decide_eq_true h.symm, bc_true]
      exact ⟨Nat.le_refl _, by rw [Nat.sub_self]; rfl⟩
    · rw [if_neg h, decide_eq_false (fun x => h x.symm), bc_false]
      have ih := mfind_del k l (i + 1)
      cases hz : mfind (iv (k : Int)) (i + 1) (ents l) with
      | none =>
        rw [hz] at ih
        show e :: delL l k = e :: l
        rw [ih]
      | some z =>
        rw [hz] at ih
        obtain ⟨h1, h2⟩ := ih
        refine ⟨by omega, ?_⟩
        show ((iv (e.1 : Int), e.2) :: ents l).eraseIdx (z.1 - i) = (iv (e.1 : Int), e.2) :: ents (delL l k)
        rw [show z.1 - i = (z.1 - (i + 1)) + 1 by omega, List.eraseIdx_cons_succ, h2]
section
variable {P : Program} {T : Tb} {fr : Fr} {m : M}
theorem cells_map (b : Nat) : cellsO (.map b) = some [.map b] := rfl
theorem cells_func (f : FuncId) (l : List AV) : cellsO (.func f l) = some [.func f l] := rfl
theorem o_fn (g : FuncId) (caps : List RO) : run (.fn g caps) fr m = some (.func g (evs caps fr), m) := rfl
theorem o_look (kd : Option IntKind) (z : AV) (ok : Bool) (x k : RO) : run (.look kd z ok x k) fr m = rLook kd z ok (.cst (ev x fr)) (.cst (ev k fr)) .leaf m := rfl
theorem o_mlen (x : RO) : run (.mlen x) fr m = rMLen (.cst (ev x fr)) .leaf m := rfl
theorem o_mupd (kd : Option IntKind) (x k v : RO) : run (.mupd kd x k v) fr m = rMUpd kd (.cst (ev x fr)) (.cst (ev k fr)) (.cst (ev v fr)) .leaf m := rfl
theorem o_mdel (kd : Option IntKind) (x k : RO) : run (.mdel kd x k) fr m = rMDel kd (.cst (ev x fr)) (.cst (ev k fr)) .leaf m := rfl
theorem o_mkmap : run (.mkmap none) fr m = some (.map m.next, m.new (.obj (.map [] (some ([], 0))))) := rfl
theorem o_clrs (z : List AV) (x : RO) : run (.clrs z x) fr m = rClrS z (.cst (ev x fr)) .leaf m := rfl
theorem MpAt.mapOf {b : Nat} {L : Al} (h : MpAt m b L) : Am.mapOf m (.map b) = some (ents L) := by
  obtain ⟨st, h⟩ := h
  have e : m.mapF b = some (ents L, st) := by
    show ob (m.get b) _ = _
    rw [h]; rfl
  show ob (m.mapF b) _ = _
  rw [e]; rfl
theorem MpAt.mapF {b : Nat} {L : Al} (h : MpAt m b L) : ∃ st, m.mapF b = some (ents L, st) := by
  obtain ⟨st, h⟩ := h
  refine ⟨st, ?_⟩
  show ob (m.get b) _ = _
  rw [h]; rfl
theorem MpAt.look {b : Nat} {L : Al} (h : MpAt m b L) (z : AV) (k : Nat) : rLook (some .i64) z false (.cst (.map b)) (.cst (iv (k : Int))) .leaf m = some ((lkp L k).getD z, m) := by
  show (ob (Am.mapOf m (.map b)) fun es => bc (keysOk (some .i64) (iv (k : Int)) es) (match mfind (iv (k : Int)) 0 es with | some q => some (bc false (.tuple [q.2, .b true]) q.2, m) | none => some (bc false (.tuple [z, .b false]) z, m)) none) = _
  rw [h.mapOf, v_ob, keysOk_ents, bc_true]
  have := mfind_ents k L 0
  cases hz : mfind (iv (k : Int)) 0 (ents L) with
  | none => rw [hz] at this; rw [← this]; rfl
  | some q => rw [hz] at this; rw [← this]; rfl
theorem MpAt.mlen {b : Nat} {L : Al} (h : MpAt m b L) : rMLen (.cst (.map b)) .leaf m = some (iv (L.length : Int), m) := by
  show (ob (Am.mapOf m (.map b)) fun es => some (AV.n es.length, m)) = _
  rw [h.mapOf, v_ob]
  show some (AV.n (ents L).length, m) = some (AV.n L.length, m)
  unfold ents
  rw [List.length_map]
theorem MpAt.upd {b : Nat} {L : Al} (h : MpAt m b L) (hw : Wf m) (k : Nat) (v : AV) : ∃ m', rMUpd (some .i64) (.cst (.map b)) (.cst (iv (k : Int))) (.cst v) .leaf m = some (AV.undef, m') ∧ MpAt m' b (putL L k v) ∧ Keep m m' (fun x => x = b) ∧ m'.next = m.next := by
  have hlt := h.lt hw
  obtain ⟨st, hq⟩ := h.mapF
  have e : ∃ st', mput (ents L, st) (iv (k : Int)) v = .map (ents (putL L k v)) st' := by
    have hp := mfind_put k v L 0
    unfold mput
    cases hz : mfind (iv (k : Int)) 0 (ents L) with
    | none =>
      rw [hz] at hp
      exact ⟨_, by show OB.map (ents L ++ [(iv (k : Int), v)]) _ = _; rw [hp]⟩
    | some z =>
      rw [hz] at hp
      exact ⟨st, by show OB.map ((ents L).set z.1 (iv (k : Int), v)) st = _; rw [← hp.2, Nat.sub_zero]⟩
  obtain ⟨st', e⟩ := e
  refine ⟨m.put b (.obj (.map (ents (putL L k v)) st')), ?_, ⟨st', by rw [M.get_put, if_pos rfl]⟩, ⟨Nat.le_refl _, fun b' hb' => ?_, fun b' _ hf => by rw [M.get_put, if_neg hf]⟩, rfl⟩
  · show (ob (m.mapF b) fun q => bc (keysOk (some .i64) (iv (k : Int)) q.1) (some (AV.undef, m.put b (.obj (mput q (iv (k : Int)) v)))) none) = _
    rw [hq, v_ob, keysOk_ents, bc_true, e]
  · have hb' : m.next ≤ b' := hb'
    rw [M.get_put, if_neg (by omega)]
    exact hw b' hb'
theorem MpAt.del {b : Nat} {L : Al} (h : MpAt m b L) (hw : Wf m) (k : Nat) : ∃ m', rMDel (some .i64) (.cst (.map b)) (.cst (iv (k : Int))) .leaf m = some (AV.undef, m') ∧ MpAt m' b (delL L k) ∧ Keep m m' (fun x => x = b) ∧ m'.next = m.next := by
  have hlt := h.lt hw
  obtain ⟨st, hq⟩ := h.mapF
  have e : ∃ st', mdel (ents L, st) (iv (k : Int)) = .map (ents (delL L k)) st' := by
    have hp := mfind_del k L 0
    unfold mdel
    cases hz : mfind (iv (k : Int)) 0 (ents L) with
    | none =>
      rw [hz] at hp
      exact ⟨st, by show OB.map (ents L) st = _; rw [hp]⟩
    | some z =>
      rw [hz] at hp
      exact ⟨_, by show OB.map ((ents L).eraseIdx z.1) _ = _; rw [← hp.2, Nat.sub_zero]⟩
  obtain ⟨st', e⟩ := e
  refine ⟨m.put b (.obj (.map (ents (delL L k)) st')), ?_, ⟨st', by rw [M.get_put, if_pos rfl]⟩, ⟨Nat.le_refl _, fun b' hb' => ?_, fun b' _ hf => by rw [M.get_put, if_neg hf]⟩, rfl⟩
  · show (ob (m.mapF b) fun q => bc (keysOk (some .i64) (iv (k : Int)) q.1) (some (AV.undef, m.put b (.obj (mdel q (iv (k : Int)))))) none) = _
    rw [hq, v_ob, keysOk_ents, bc_true, e]
  · have hb' : m.next ≤ b' := hb'
    rw [M.get_put, if_neg (by omega)]
    exact hw b' hb'
theorem MpAt.new0 (hw : Wf m) : MpAt (m.new (.obj (.map [] (some ([], 0))))) m.next [] ∧ Keep m (m.new (.obj (.map [] (some ([], 0))))) (fun _ => False) :=
  ⟨⟨_, by rw [M.get_new, if_pos rfl]; rfl⟩, by rw [M.next_new]; omega, hw.new, fun b hb _ => M.get_new_ne (by omega)⟩
/-! ### Function values -/
theorem WpO_fv {d : Option (List Bool)} {f : RO} {g : FuncId} {caps : List AV} {args : List RO} {l : List CO} {Q : Fr → M → Prop} (hf : ev f fr = .func g caps) (h : WpOC P T g (evs args fr ++ caps) m d l fr Q) : WpO P T (.call d none f args :: l) fr m Q := by
  have e : ∀ n, runOps (cfN P T n) (.call d none f args :: l) fr m = nextOp d (runOps (cfN P T n) l) fr (callV (cfN P T n) (ev f fr) (evs args fr) m) := fun n => rfl
  unfold WpO
  simp only [e, hf]
  exact h
/-! ### Sorted keys -/
noncomputable def Sk (L : Al) : List Int := isort (L.map fun e => (e.1 : Int))
theorem keysI_ents : ∀ L : Al, keysI (ents L) = some (L.map fun e => (e.1 : Int))
  | [] => rfl
  | e :: l => by
    show (match keyI (iv (e.1 : Int)), keysI (ents l) with | some i, some r => some (i :: r) | _, _ => none) = _
    rw [keysI_ents l]; rfl
theorem mem_ins {x y : Int} : ∀ {l : List Int}, y ∈ ins x l ↔ y = x ∨ y ∈ l
  | [] => by show y ∈ [x] ↔ _; simp
  | z :: l => by
    unfold ins
    by_cases h : x ≤ z
    · rw [decide_eq_true h, bc_true]; simp
    · rw [decide_eq_false h, bc_false]
      simp only [List.mem_cons, mem_ins]
      constructor
      · rintro (h | h | h) <;> simp [h]
      · rintro (h | h | h) <;> simp [h]
theorem len_ins (x : Int) : ∀ l : List Int, (ins x l).length = l.length + 1
  | [] => rfl
  | z :: l => by
    unfold ins
    by_cases h : x ≤ z
    · rw [decide_eq_true h, bc_true]; rfl
    · rw [decide_eq_false h, bc_false]
      show (ins x l).length + 1 = _
      rw [len_ins x l]; rfl
theorem mem_isort {y : Int} : ∀ {l : List Int}, y ∈ isort l ↔ y ∈ l
  | [] => Iff.rfl
  | x :: l => by
    show y ∈ ins x (isort l) ↔ _
    rw [mem_ins, mem_isort, List.mem_cons]
theorem len_isort : ∀ l : List Int, (isort l).length = l.length
  | [] => rfl
  | x :: l => by
    show (ins x (isort l)).length = _
    rw [len_ins, len_isort l]; rfl
theorem ins_ord (x : Int) : ∀ {l : List Int}, l.Pairwise (· ≤ ·) → (ins x l).Pairwise (· ≤ ·)
  | [], _ => by show [x].Pairwise _; simp
  | z :: l, h => by
    rw [List.pairwise_cons] at h
    unfold ins
    by_cases hx : x ≤ z
    · rw [decide_eq_true hx, bc_true, List.pairwise_cons]
      refine ⟨fun y hy => ?_, List.pairwise_cons.2 h⟩
      rcases List.mem_cons.1 hy with rfl | hy
      · exact hx
      · exact Int.le_trans hx (h.1 y hy)
    · rw [decide_eq_false hx, bc_false]
      show (z :: ins x l).Pairwise _
      rw [List.pairwise_cons]
      refine ⟨fun y hy => ?_, ins_ord x h.2⟩
      rcases mem_ins.1 hy with rfl | hy
      · omega
      · exact h.1 y hy
theorem isort_ord : ∀ l : List Int, (isort l).Pairwise (· ≤ ·)
  | [] => .nil
  | x :: l => ins_ord x (isort_ord l)
theorem mem_Sk {L : Al} {y : Int} : y ∈ Sk L ↔ ∃ e ∈ L, (e.1 : Int) = y := by
  unfold Sk
  rw [mem_isort, List.mem_map]
theorem len_Sk (L : Al) : (Sk L).length = L.length := by
  unfold Sk
  rw [len_isort, List.length_map]
theorem sortedR_nil (et : TypeId) : sortedR et m (ents []) = some (nils, m) := rfl
theorem sortedR_at {L : Al} (et : TypeId) (h0 : L ≠ []) (hl : L.length ≤ 1000000) (hk : ∀ e ∈ L, e.1 ≤ 1000000) (hw : Wf m) :
    ∃ m', sortedR et m (ents L) = some (.slice m.next 0 L.length L.length false, m') ∧ At m' m.next et false ((Sk L).map iv) ∧ Keep m m' (fun _ => False) := by
  have e : sortedR et m (ents L) = some (.slice m.next 0 L.length L.length false, m.new (.cells ⟨et, L.length, fillP ((Sk L).map fun i => ofI .i64 i) (nat_lit 0) .leaf, [], none, false, false, false⟩)) := by
    unfold sortedR
    rw [keysI_ents, v_ob]
    cases L with
    | nil => exact absurd rfl h0
    | cons x l =>
      have h1 : (((x :: l).map fun e => (e.1 : Int)).all inI64 && Nat.ble ((x :: l).map fun e => (e.1 : Int)).length 1000000) = true := by
        rw [nble, List.length_map, decide_eq_true hl, Bool.and_true, List.all_eq_true]
        intro z hz
        obtain ⟨e, he, rfl⟩ := List.mem_map.1 hz
        have := hk e he
        simp [inI64, Lit.wf, IntKind.min, IntKind.max, IntKind.signed, IntKind.bits]
        omega
      show bc (((x :: l).map fun e => (e.1 : Int)).all inI64 && Nat.ble ((x :: l).map fun e => (e.1 : Int)).length 1000000) _ none = _
      rw [h1, bc_true]
      show some (AV.slice m.next 0 ((x :: l).map fun e => (e.1 : Int)).length ((x :: l).map fun e => (e.1 : Int)).length false, m.new (.cells ⟨et, ((x :: l).map fun e => (e.1 : Int)).length, _, [], none, false, false, false⟩)) = _
      rw [List.length_map]
      rfl
  refine ⟨_, e, ?_, by rw [M.next_new]; omega, hw.new, fun b hb _ => M.get_new_ne (by omega)⟩
  have hn : ((Sk L).map iv).length = L.length := by rw [List.length_map, len_Sk]
  refine ⟨_, by rw [M.get_new, if_pos rfl], rfl, hn.symm, rfl, rfl, rfl, fun i v hv => ?_⟩
  have hi := (List.getElem?_eq_some_iff.1 hv).1
  have hv : ((Sk L).map fun i => ofI .i64 i)[i]? = some v := hv
  rw [rd_eq, get_fill, if_pos ⟨Nat.zero_le _, by rw [List.length_map, len_Sk]; omega⟩, Nat.sub_zero, hv]; rfl
theorem sorted_known {g et kf : Nat} {b : Nat} {t : TypeId} {mb : Nat} {L : Al} (h : At m b t true [.map mb]) (hm : MpAt m mb L) : (sortedTb P g et [kf]).it g [.func kf [.ptr b 0]] m = some (sortedR et m (ents L)) := by
  obtain ⟨c, h1, h2, h3, h4, h5, h6, h7⟩ := h.row
  show bc (Nat.beq g g) (Option.rec (motive := fun _ => Option R) none (fun r => some r) (bc (Nat.beq kf kf) (some (ob (m.cel b) fun c => bc (c.exact && (c.mv.isNone && Nat.beq 0 0)) (ob (m.rd b 0) fun mv => ob (Am.mapOf m mv) fun es => sortedR et m es) none)) none)) none = _
  rw [Nat.beq_refl, Nat.beq_refl, bc_true, bc_true, M.cel_some.2 h1, v_ob, h4, h6, h.rd 0]
  show some (ob (some (AV.map mb)) fun mv => ob (Am.mapOf m mv) fun es => sortedR et m es) = _
  rw [v_ob, hm.mapOf, v_ob]
end
end Go.Am
