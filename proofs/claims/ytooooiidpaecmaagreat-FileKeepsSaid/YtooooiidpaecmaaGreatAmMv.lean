import Derived.Test.YtooooiidpaecmaaGreatAmWm
/- The abstract machine: rows whose place another has taken, and lists that grow beside what they grew from. -/
namespace Go.Am
open Go Go.RowKit
theorem cel_rd {c d : Cel} (h1 : d.cs = c.cs) (h2 : d.zero = c.zero) (i : Nat) : d.rd i = c.rd i := by rw [rd_eq, rd_eq, h1, h2]
def Chn (m : M) : Option Nat → List Nat → Prop
 | none, [] => True
 | some h, k :: ch => h = k ∧ ∃ c, m.get h = some (.cells c) ∧ c.dirty = false ∧ Chn m c.mv ch
 | none, _ :: _ => False
 | some _, [] => False
theorem Chn.clean {m : M} : ∀ {ch : List Nat} {h n : Nat}, Chn m (some h) ch → ch.length ≤ n → m.clean n h = true
 | [], _, _, k, _ => k.elim
 | k :: ch, h, 0, _, hn => by simp at hn
 | k :: ch, h, n + 1, hc, hn => by
  obtain ⟨rfl, c, h1, h2, h3⟩ := hc
  show (match m.cel h with | some c => !c.dirty && (match c.mv with | none => true | some h => M.clean m n h) | none => false) = true
  rw [M.cel_some.2 h1]
  show (!c.dirty && (match c.mv with | none => true | some h => M.clean m n h)) = true
  rw [h2]
  cases hm : c.mv with
  | none => rfl
  | some h' =>
   rw [hm] at h3
   exact Chn.clean h3 (by simpa using hn)
theorem Chn.of_get {m m' : M} : ∀ {ch : List Nat} {o : Option Nat}, Chn m o ch → (∀ b ∈ ch, m'.get b = m.get b) → Chn m' o ch
 | [], none, _, _ => trivial
 | [], some _, h, _ => h.elim
 | _ :: _, none, h, _ => h.elim
 | k :: ch, some h, hc, hg => by
  obtain ⟨rfl, c, h1, h2, h3⟩ := hc
  exact ⟨rfl, c, (hg h (List.mem_cons_self ..)).trans h1, h2, h3.of_get fun b hb => hg b (List.mem_cons_of_mem _ hb)⟩
theorem Chn.got {m : M} : ∀ {ch : List Nat} {o : Option Nat}, Chn m o ch → ∀ b ∈ ch, ∃ c, m.get b = some (.cells c)
 | [], _, _, b, hb => by cases hb
 | _ :: _, none, h, _, _ => h.elim
 | k :: ch, some h, hc, b, hb => by
  obtain ⟨rfl, c, h1, h2, h3⟩ := hc
  rcases List.mem_cons.1 hb with rfl | hb
  ·exact ⟨c, h1⟩
  ·exact h3.got b hb
theorem Chn.snoc {m m' : M} {b n : Nat} {c c' d : Cel} (hb : m.get b = some (.cells c)) (hmv : c.mv = none) (hb' : m'.get b = some (.cells c')) (hd' : c'.dirty = c.dirty) (hm' : c'.mv = some n) (hn : m'.get n = some (.cells d)) (hdd : d.dirty = false) (hdm : d.mv = none) :
  ∀ {ch : List Nat} {o : Option Nat}, Chn m o (ch ++ [b]) → (∀ x ∈ ch, x ≠ b → m'.get x = m.get x) → Chn m' o (ch ++ [b] ++ [n])
 | [], none, h, _ => h.elim
 | [], some h, hc, _ => by
  obtain ⟨rfl, c1, h1, h2, h3⟩ := hc
  rw [hb] at h1
  cases h1
  refine ⟨rfl, c', hb', hd'.trans h2, ?_⟩
  rw [hm']
  refine ⟨rfl, d, hn, hdd, ?_⟩
  rw [hdm]; trivial
 | _ :: _, none, h, _ => h.elim
 | k :: ch, some h, hc, hg => by
  obtain ⟨rfl, c1, h1, h2, h3⟩ := hc
  have hne : h ≠ b := fun e => by
   subst e
   rw [hb] at h1
   cases h1
   rw [hmv] at h3
   cases ch <;> exact h3.elim
  refine ⟨rfl, c1, (hg h (List.mem_cons_self ..) hne).trans h1, h2, ?_⟩
  exact Chn.snoc hb hmv hb' hd' hm' hn hdd hdm h3 fun x hx hxb => hg x (List.mem_cons_of_mem _ hx) hxb
structure AtV (m : M) (b : Nat) (l : List AV) (ch : List Nat) : Prop where
 row : ∃ c, m.get b = some (.cells c) ∧ l.length ≤ c.n ∧ (∀ i v, l[i]? = some v → c.rd i = v) ∧ Chn m c.mv ch
theorem AtV.rd {m : M} {b : Nat} {l : List AV} {ch : List Nat} (h : AtV m b l ch) (hc : ch.length ≤ 100000) {i : Nat} {v : AV} (hv : l[i]? = some v) : m.rd b i = some v := by
 obtain ⟨c, h1, h2, h3, h4⟩ := h.row
 have hi := (List.getElem?_eq_some_iff.1 hv).1
 unfold M.rd
 rw [M.cel_some.2 h1]
 show bc (Nat.ble (Nat.succ i) c.n && m.readable c) (some (c.rd i)) none = _
 have hr : m.readable c = true := by
  unfold M.readable
  cases hm : c.mv with
  | none => rfl
  | some h => rw [hm] at h4; exact h4.clean hc
 rw [hr, nble, decide_eq_true (by omega), h3 i v hv]; rfl
theorem AtV.keep {m m' : M} {b : Nat} {l : List AV} {ch : List Nat} {F : Nat → Prop} (h : AtV m b l ch) (hw : Wf m) (k : Keep m m' F) (hb : ¬ F b) (hch : ∀ x ∈ ch, ¬ F x) : AtV m' b l ch := by
 obtain ⟨c, h1, h2, h3, h4⟩ := h.row
 have lt : ∀ x c, m.get x = some (.cells c) → x < m.next := fun x c hx => by
  rcases Nat.lt_or_ge x m.next with h | h
  ·exact h
  ·rw [hw x h] at hx; cases hx
 exact ⟨c, (k.get b (lt b c h1) hb).trans h1, h2, h3, h4.of_get fun x hx => by
  obtain ⟨c, hc⟩ := h4.got x hx
  exact k.get x (lt x c hc) (hch x hx)⟩
theorem At.v {m : M} {b : Nat} {e : TypeId} {xt : Bool} {l junk : List AV} (h : At m b e xt (l ++ junk)) : AtV m b l [] := by
 obtain ⟨c, h1, h2, h3, h4, h5, h6, h7⟩ := h.row
 refine ⟨c, h1, by rw [h3]; simp, fun i v hv => h7 i v ?_, by rw [h4]; trivial⟩
 rw [List.getElem?_append_left (List.getElem?_eq_some_iff.1 hv).1]; exact hv
def SlE (m : M) (e : TypeId) (x : AV) (len : Nat) (cells : List AV) (o : Option Nat) : Prop := SlAt m e 1 x len cells o ∨ ∃ b, x = .slice b 0 0 0 false ∧ len = 0 ∧ cells = [] ∧ o = some b ∧ At m b e true []
theorem SlE.keep {m m' : M} {e : TypeId} {x : AV} {len : Nat} {cells : List AV} {o : Option Nat} {F : Nat → Prop} (h : SlE m e x len cells o) (hw : Wf m) (k : Keep m m' F) (hf : ∀ b, o = some b → ¬ F b) : SlE m' e x len cells o := by
 rcases h with h | ⟨b, h1, h2, h3, h4, h⟩
 ·exact .inl (h.keep hw k hf)
 ·exact .inr ⟨b, h1, h2, h3, h4, h.keep hw k (hf b h4)⟩
theorem SlE.len {m : M} {e : TypeId} {x : AV} {len : Nat} {cells : List AV} {o : Option Nat} (h : SlE m e x len cells o) : lenK false x = some len := by
 rcases h with h | ⟨b, rfl, rfl, _, _, _⟩
 ·exact h.len
 ·rfl
theorem SlE.count {m : M} {e : TypeId} {x : AV} {len : Nat} {cells : List AV} {o : Option Nat} (h : SlE m e x len cells o) : cells.length = len := by
 rcases h with h | ⟨b, _, rfl, rfl, _, _⟩
 ·simpa using h.count
 ·rfl
theorem SlE.kd {m : M} {e : TypeId} {x : AV} {len : Nat} {cells : List AV} {b : Nat} (h : SlE m e x len cells (some b)) : Am.kd m b (e + 1) := by
 rcases h with h | ⟨b', _, _, _, h4, h⟩
 ·exact h.kd
 ·cases h4; exact h.kd
inductive GrAt (m : M) (e : TypeId) : AV → List AV → AV → List AV → List Nat → Prop where
 | none : GrAt m e nils [] nils [] []
 | emp {b : Nat} (h : At m b e true []) : GrAt m e (.slice b 0 0 0 false) [] (.slice b 0 0 0 false) [] [b]
 | same {b cap : Nat} {xt : Bool} {cells ext junk : List AV} (h : At m b e xt ((cells ++ ext) ++ junk)) (hj : junk.length = cap - (cells ++ ext).length) (hc : (cells ++ ext).length ≤ cap) (h0 : 0 < cap) : GrAt m e (.slice b 0 cells.length cap false) cells (.slice b 0 (cells ++ ext).length cap false) (cells ++ ext) [b]
 | off {b b' cap : Nat} {xt : Bool} {cells gcells : List AV} {ch : List Nat} (h : AtV m b cells ch) (hl : ch.length + cells.length ≤ gcells.length) (hg : At m b' e xt gcells) (h0 : 0 < gcells.length) (hne : b ≠ b') (hch : b' ∉ ch ∨ ∃ ch0, ch = ch0 ++ [b']) : GrAt m e (.slice b 0 cells.length cap false) cells (.slice b' 0 gcells.length gcells.length false) gcells (b :: b' :: ch)
 | new {b' : Nat} {xt : Bool} {gcells : List AV} (hg : At m b' e xt gcells) (h0 : 0 < gcells.length) : GrAt m e nils [] (.slice b' 0 gcells.length gcells.length false) gcells [b']
section
variable {m m' : M} {e : TypeId} {x g : AV} {cells gcells : List AV} {own : List Nat}
theorem GrAt.begin {len : Nat} {o : Option Nat} (h : SlE m e x len cells o) : GrAt m e x cells x cells o.toList := by
 rcases h with h | ⟨b, rfl, rfl, rfl, rfl, h⟩
 case inr => exact .emp h
 cases h with
 | nil => exact .none
 | @row b len cap cells junk xt h hl hj hc h0 =>
  rw [Nat.mul_one] at hl hj
  subst hl
  have := GrAt.same (m := m) (e := e) (b := b) (cap := cap) (xt := xt) (cells := cells) (ext := []) (junk := junk) (by simpa using h) (by simpa using hj) (by simpa using hc) h0
  rwa [List.append_nil] at this
theorem GrAt.lenx (h : GrAt m e x cells g gcells own) : lenK false x = some cells.length := by cases h <;> rfl
theorem GrAt.leng (h : GrAt m e x cells g gcells own) : lenK false g = some gcells.length := by cases h <;> rfl
theorem GrAt.gcells1 (h : GrAt m e x cells g gcells own) : cellsO g = some [g] := by cases h <;> rfl
theorem GrAt.lt (h : GrAt m e x cells g gcells own) (hw : Wf m) {b : Nat} (hb : b ∈ own) : b < m.next := by
 have lt : ∀ x c, m.get x = some (.cells c) → x < m.next := fun x c hx => by
  rcases Nat.lt_or_ge x m.next with h | h
  ·exact h
  ·rw [hw x h] at hx; cases hx
 cases h with
 | none => cases hb
 | emp h => cases List.mem_singleton.1 hb; exact h.lt hw
 | same h => cases List.mem_singleton.1 hb; exact h.lt hw
 | off h hl hg h0 hne hch =>
  obtain ⟨c, h1, _, _, h4⟩ := h.row
  rcases List.mem_cons.1 hb with rfl | hb
  ·exact lt _ c h1
  ·rcases List.mem_cons.1 hb with rfl | hb
   ·exact hg.lt hw
   ·obtain ⟨c, hc⟩ := h4.got b hb
    exact lt b c hc
 | new hg => cases List.mem_singleton.1 hb; exact hg.lt hw
theorem GrAt.keep {F : Nat → Prop} (h : GrAt m e x cells g gcells own) (hw : Wf m) (k : Keep m m' F) (hf : ∀ b ∈ own, ¬ F b) : GrAt m' e x cells g gcells own := by
 cases h with
 | none => exact .none
 | emp h => exact .emp (h.keep hw k (hf _ (by simp)))
 | same h hj hc h0 => exact .same (h.keep hw k (hf _ (by simp))) hj hc h0
 | off h hl hg h0 hne hch => exact .off (h.keep hw k (hf _ (by simp)) fun x hx => hf x (by simp [hx])) hl (hg.keep hw k (hf _ (by simp))) h0 hne hch
 | new hg h0 => exact .new (hg.keep hw k (hf _ (by simp))) h0
theorem GrAt.rdx (h : GrAt m e x cells g gcells own) (hg : gcells.length ≤ cells.length + 100000) {k : Nat} {v : AV} (hv : cells[k]? = some v) : ∃ b cap, x = .slice b 0 cells.length cap false ∧ k < cells.length ∧ m.rd b k = some v := by
 have hk := (List.getElem?_eq_some_iff.1 hv).1
 cases h with
 | none => cases hv
 | emp => cases hv
 | same h hj hc h0 => exact ⟨_, _, rfl, hk, by rw [h.rd, List.append_assoc, List.getElem?_append_left hk]; exact hv⟩
 | off h hl => exact ⟨_, _, rfl, hk, h.rd (by omega) hv⟩
 | new => cases hv
theorem GrAt.rdg (h : GrAt m e x cells g gcells own) {k : Nat} {v : AV} (hv : gcells[k]? = some v) : ∃ b cap, g = .slice b 0 gcells.length cap false ∧ k < gcells.length ∧ m.rd b k = some v := by
 have hk := (List.getElem?_eq_some_iff.1 hv).1
 cases h with
 | none => cases hv
 | emp => cases hv
 | same h hj hc h0 => exact ⟨_, _, rfl, hk, by rw [h.rd, List.getElem?_append_left hk]; exact hv⟩
 | off h hl hg => exact ⟨_, _, rfl, hk, by rw [hg.rd]; exact hv⟩
 | new hg => exact ⟨_, _, rfl, hk, by rw [hg.rd]; exact hv⟩
theorem app_full {b bytes : Nat} {z : List AV} {y v : AV} {xt : Bool} (h : At m b e xt gcells) (h0 : 0 < gcells.length) (hw : Wf m) (hy : Rds m y 1 1 [v]) (hroom : room (gcells.length + 1) bytes = true) :
  ∃ m' xt', rApp e 1 bytes z (.cst (.slice b 0 gcells.length gcells.length false)) (.cst y) .leaf m = some (.slice m.next 0 (gcells.length + 1) (gcells.length + 1) false, m') ∧ At m' m.next e xt' (gcells ++ [v]) ∧ m'.next = m.next + 1 ∧ Keep m m' (fun x => x = b) ∧
   (m'.get b = m.get b ∨ ∃ c c' d, m.get b = some (.cells c) ∧ c.mv = Option.none ∧ m'.get b = some (.cells c') ∧ c'.n = gcells.length ∧ c'.cs = c.cs ∧ c'.zero = c.zero ∧ c'.dirty = c.dirty ∧ c'.mv = some m.next ∧ m'.get m.next = some (.cells d) ∧ d.dirty = false ∧ d.mv = Option.none) := by
 obtain ⟨hy1, hy2, _⟩ := hy
 have e0 : rApp e 1 bytes z (.cst (.slice b 0 gcells.length gcells.length false)) (.cst y) .leaf m = aappend e 1 bytes z m (.slice b 0 gcells.length gcells.length false) 1 [v] := by
  show (ob (Am.lenA y) fun k => ob (firstA m 1 k y) fun new => aappend e 1 bytes z m _ k new) = _
  rw [hy1]
  show (ob (firstA m 1 1 y) fun new => aappend e 1 bytes z m _ 1 new) = _
  rw [hy2]; rfl
 obtain ⟨c, c1, c2, c3, c4, c5, c6, c7⟩ := h.row
 have hrd : m.rdN b 0 (gcells.length * 1) = some gcells := by rw [h.rdN (by omega)]; simp
 rw [e0, aappend_sl, nble, decide_eq_false (by omega), bc_false, hroom, bc_true, M.cel_some.2 c1, v_ob, hrd, v_ob]
 have q1 : (false || (c.mv.isNone && c.exact)) = xt := by rw [c4, c6]; simp
 have q2 : (c.mv.isNone && (!c.ro && (Nat.beq c.elem e && (Nat.ble gcells.length gcells.length && Nat.beq (0 + gcells.length * 1) c.n)))) = true := by
  rw [c4, c5, c2, show 0 + gcells.length * 1 = c.n by rw [c3]; omega, Nat.beq_refl, Nat.beq_refl, nble, decide_eq_true (Nat.le_refl _)]; rfl
 rw [q1, q2]
 have hbn := h.lt hw
 cases xt with
 | true =>
  obtain ⟨s', m', h1, h2, h3, h4⟩ := appNew_at (m := m) (e := e) (sz := 1) (z := z) (cs := gcells ++ [v]) (need := gcells.length + 1) (by simp) (by omega) hw
  have hs : s' = .slice m.next 0 (gcells.length + 1) (gcells.length + 1) false := by
   unfold appNew at h1
   rw [fc_eq] at h1
   cases h1; rfl
  subst hs
  cases h2 with
  | @row _ _ _ _ junk xt' h5 h6 h7 =>
   have hj : junk = [] := List.length_eq_zero_iff.1 (by omega)
   subst hj
   rw [List.append_nil] at h5
   exact ⟨m', xt', h1, h5, h4, h3.mono fun _ _ h => h.elim, .inl (h3.get b hbn fun h => h)⟩
 | false =>
  have hn1 : Nat.mul (gcells.length + 1) 1 = (gcells ++ [v]).length := by simp
  refine ⟨_, false, rfl, ⟨_, by rw [M.get_new, M.next_put, if_pos rfl], rfl, hn1, rfl, rfl, rfl, fun i v' hv => ?_⟩, by rw [M.next_new, M.next_put], ⟨by rw [M.next_new, M.next_put]; omega, Wf.new fun b' hb' => ?_, fun b' hb' hf => ?_⟩, .inr ⟨c, ⟨c.elem, gcells.length * 1, c.cs, c.zero, some m.next, c.dirty || !Nat.beq (gcells.length * 1) c.n, c.exact, c.ro⟩, ⟨e, Nat.mul (gcells.length + 1) 1, bc (Nat.beq 0 0) (fillP [v] (gcells.length * 1) c.cs) (fillP (gcells ++ [v]) 0 .leaf), bc (Nat.beq 0 0) c.zero z, none, false, false, false⟩, c1, c4, by rw [M.get_new, M.next_put, if_neg (by omega), M.get_put, if_pos rfl], Nat.mul_one _, rfl, rfl, ?_, rfl, by rw [M.get_new, M.next_put, if_pos rfl]; rfl, rfl, rfl⟩⟩
  ·show Cel.rd ⟨e, Nat.mul (gcells.length + 1) 1, bc (Nat.beq 0 0) (fillP [v] (gcells.length * 1) c.cs) (fillP (gcells ++ [v]) 0 .leaf), bc (Nat.beq 0 0) c.zero z, none, false, false, false⟩ i = v'
   rw [rd_fill c [v] (gcells.length * 1) i ⟨e, Nat.mul (gcells.length + 1) 1, bc (Nat.beq 0 0) (fillP [v] (gcells.length * 1) c.cs) (fillP (gcells ++ [v]) 0 .leaf), bc (Nat.beq 0 0) c.zero z, none, false, false, false⟩ rfl rfl]
   have hi := (List.getElem?_eq_some_iff.1 hv).1
   rw [List.length_append] at hi
   simp only [List.length_cons, List.length_nil] at hi ⊢
   by_cases hx : gcells.length * 1 ≤ i ∧ i < gcells.length * 1 + (0 + 1)
   ·rw [if_pos hx]
    rw [List.getElem?_append_right (by omega)] at hv
    rw [Nat.mul_one, hv]; rfl
   ·rw [if_neg hx]
    apply c7
    rw [List.getElem?_append_left (by omega)] at hv
    exact hv
  ·rw [M.next_put] at hb'
   rw [M.get_put, if_neg (by omega)]
   exact hw b' hb'
  ·rw [M.get_new, M.next_put, if_neg (by omega), M.get_put, if_neg hf]
  ·show (c.dirty || !Nat.beq (gcells.length * 1) c.n) = c.dirty
   rw [Nat.mul_one, c3, Nat.beq_refl]; simp
theorem room_le {need bytes : Nat} (h : need * bytes ≤ 140737488355328) (h1 : 1 ≤ bytes) (h2 : bytes ≤ 35) : room need bytes = true := by
 have h3 : need * 1 ≤ need * bytes := Nat.mul_le_mul_left _ h1
 unfold room
 rw [nble, nble, nble, decide_eq_true (show Nat.mul need bytes ≤ 140737488355328 from h), decide_eq_true (show need ≤ 140737488355328 by omega), decide_eq_true (by omega)]
 rfl
theorem GrAt.app {bytes : Nat} {z : List AV} {y v : AV} (h : GrAt m e x cells g gcells own) (hw : Wf m) (hy : Rds m y 1 1 [v]) (hroom : room (gcells.length + 1) bytes = true) :
  ∃ g' m' own', rApp e 1 bytes z (.cst g) (.cst y) .leaf m = some (g', m') ∧ GrAt m' e x cells g' (gcells ++ [v]) own' ∧ Keep m m' (fun b => b ∈ own) ∧ (∀ b ∈ own', b ∈ own ∨ (m.next ≤ b ∧ b < m'.next)) := by
 cases h with
 | none =>
  obtain ⟨hy1, hy2, _⟩ := hy
  obtain ⟨s', m', h1, h2, h3, h4⟩ := appNew_at (m := m) (e := e) (sz := 1) (z := z) (cs := [v]) (need := 1) (by simp) (by omega) hw
  have hs : s' = .slice m.next 0 1 1 false := by
   unfold appNew at h1
   rw [fc_eq] at h1
   cases h1; rfl
  subst hs
  refine ⟨.slice m.next 0 1 1 false, m', [m.next], ?_, ?_, h3.mono fun _ _ h => h.elim, fun b hb => .inr (by cases List.mem_singleton.1 hb; omega)⟩
  ·show (ob (Am.lenA y) fun k => ob (firstA m 1 k y) fun new => aappend e 1 bytes z m nils k new) = _
   rw [hy1, v_ob, hy2, v_ob]
   show bc (Nat.beq 1 0) (some (nils, m)) (bc (room 1 bytes) (appNew e 1 z m 1 [v]) Option.none) = _
   have hroom : room 1 bytes = true := hroom
   rw [hroom]; exact h1
  ·cases h2 with
   | @row _ _ _ _ junk xt' h5 h6 h7 =>
    have hj : junk = [] := List.length_eq_zero_iff.1 (by omega)
    subst hj
    rw [List.append_nil] at h5
    exact .new (gcells := [v]) h5 (by simp)
 | @emp b h =>
  obtain ⟨hy1, hy2, _⟩ := hy
  obtain ⟨s', m', h1, h2, h3, h4⟩ := appNew_at (m := m) (e := e) (sz := 1) (z := z) (cs := [v]) (need := 1) (by simp) (by omega) hw
  have hs : s' = .slice m.next 0 1 1 false := by
   unfold appNew at h1
   rw [fc_eq] at h1
   cases h1; rfl
  subst hs
  obtain ⟨c, c1, c2, c3, c4, c5, c6, c7⟩ := h.row
  have hbn := h.lt hw
  have hrd : m.rdN b 0 (0 * 1) = some [] := by rw [h.rdN (by simp)]; simp
  refine ⟨.slice m.next 0 1 1 false, m', [b, m.next], ?_, ?_, h3.mono fun _ _ h => h.elim, fun x hx => ?_⟩
  ·show (ob (Am.lenA y) fun k => ob (firstA m 1 k y) fun new => aappend e 1 bytes z m (.slice b 0 0 0 false) k new) = _
   rw [hy1, v_ob, hy2, v_ob, aappend_sl, nble, decide_eq_false (by omega), bc_false]
   have hroom : room (0 + 1) bytes = true := hroom
   rw [hroom, bc_true, M.cel_some.2 c1, v_ob, hrd, v_ob, c4, c6]
   exact h1
  ·cases h2 with
   | @row _ _ _ _ junk xt' h5 h6 h7 =>
    have hj : junk = [] := List.length_eq_zero_iff.1 (by omega)
    subst hj
    rw [List.append_nil] at h5
    have hv : AtV m' b [] [] := At.v (l := []) (junk := []) (h.keep hw h3 fun h => h)
    exact GrAt.off (cap := 0) (gcells := [v]) (cells := []) hv (by simp) h5 (by simp) (show b ≠ m.next by omega) (.inl (by simp))
  ·rcases List.mem_cons.1 hx with rfl | hx
   ·exact .inl (by simp)
   ·cases List.mem_singleton.1 hx; exact .inr (by omega)
 | @same b cap xt cells ext junk h hj hc h0 =>
  by_cases hfit : (cells ++ ext).length + 1 ≤ cap
  ·obtain ⟨hy1, hy2, _⟩ := hy
   match junk, hj with
   | [], hj => simp at hj; simp at hfit hc; omega
   | j0 :: junk, hj =>
   have hwl : (cells ++ ext).length * 1 + [v].length ≤ ((cells ++ ext) ++ (j0 :: junk)).length := by simp; omega
   have hup := h.upd (i := (cells ++ ext).length * 1) (vs := [v]) hwl
   have hsp : splice ((cells ++ ext) ++ (j0 :: junk)) ((cells ++ ext).length * 1) [v] = (cells ++ (ext ++ [v])) ++ junk := by
    unfold splice
    rw [Nat.mul_one, List.take_left, show (cells ++ ext).length + [v].length = (cells ++ ext).length + 1 from rfl, ← List.drop_drop, List.drop_left]
    simp
   rw [hsp] at hup
   have hlen : (cells ++ ext).length + 1 = (cells ++ (ext ++ [v])).length := by simp; omega
   refine ⟨.slice b 0 ((cells ++ ext).length + 1) cap false, m.upd b ((cells ++ ext).length * 1) [v], [b], ?_, ?_, Keep.upd hw (fun _ => by simp), fun b' hb' => .inl hb'⟩
   ·show (ob (Am.lenA y) fun k => ob (firstA m 1 k y) fun new => aappend e 1 bytes z m (.slice b 0 (cells ++ ext).length cap false) k new) = _
    rw [hy1, v_ob, hy2, v_ob, aappend_sl, nble, decide_eq_true hfit, bc_true, h.wr hwl]; rfl
   ·have := GrAt.same (m := m.upd b ((cells ++ ext).length * 1) [v]) (e := e) (cap := cap) (cells := cells) (ext := ext ++ [v]) (junk := junk) hup (by simp at hj ⊢; omega) (by omega) h0
    rw [← hlen] at this
    rw [List.append_assoc]; exact this
  ·have hcap : cap = (cells ++ ext).length := by omega
   subst hcap
   have hj0 : junk = [] := List.length_eq_zero_iff.1 (by omega)
   subst hj0
   rw [List.append_nil] at h
   obtain ⟨m', xt', e1, h1, n1, k1, hold⟩ := app_full (z := z) h h0 hw hy hroom
   have hbn := h.lt hw
   have hcl : (cells ++ ext).length + 1 = (cells ++ ext ++ [v]).length := by rw [List.length_append (as := cells ++ ext)]; rfl
   have hx : ∃ ch, AtV m' b cells ch ∧ (ch = [] ∨ ch = [m.next]) := by
    rcases hold with hg | ⟨c, c', d, g1, g2, g3, g4, g5, g6, g7, g8, g9, g10, g11⟩
    ·exact ⟨[], (At.v (l := cells) (junk := ext) h).row.elim fun c ⟨a1, a2, a3, a4⟩ => ⟨c, hg.trans a1, a2, a3, by
      cases hm : c.mv with
      | none => trivial
      | some z => rw [hm] at a4; exact a4.elim⟩, .inl rfl⟩
    ·obtain ⟨c0, a1, a2, a3, a4⟩ := (At.v (l := cells) (junk := ext) h).row
     rw [g1] at a1
     cases a1
     refine ⟨[m.next], ⟨c', g3, by rw [g4]; simp, fun i v hv => (cel_rd g5 g6 i).trans (a3 i v hv), ?_⟩, .inr rfl⟩
     rw [g8]
     refine ⟨rfl, d, g9, g10, ?_⟩
     rw [g11]; trivial
   obtain ⟨ch, hv, hch⟩ := hx
   have hle : cells.length ≤ (cells ++ ext).length := by simp
   have hlch : ch.length ≤ 1 := by rcases hch with rfl | rfl <;> simp
   refine ⟨_, m', b :: m.next :: ch, e1, ?_, k1.mono fun _ _ e => by simp [e], fun b' hb' => ?_⟩
   ·have := GrAt.off (m := m') (e := e) (cap := (cells ++ ext).length) (gcells := cells ++ ext ++ [v]) hv (by omega) h1 (by omega) (show b ≠ m.next by omega) (by rcases hch with rfl | rfl; exact .inl (by simp); exact .inr ⟨[], rfl⟩)
    rw [hcl]; exact this
   ·rcases List.mem_cons.1 hb' with rfl | hb'
    ·exact .inl (by simp)
    ·rcases List.mem_cons.1 hb' with rfl | hb'
     ·exact .inr (by omega)
     ·rcases hch with rfl | rfl
      ·cases hb'
      ·cases List.mem_singleton.1 hb'; exact .inr (by omega)
 | @off b b' cap xt cells gcells ch h hl hg h0 hne hch =>
  obtain ⟨m', xt', e1, h1, n1, k1, hold⟩ := app_full (z := z) hg h0 hw hy hroom
  have hcl : gcells.length + 1 = (gcells ++ [v]).length := by simp
  have hlt : ∀ {x}, x ∈ b :: b' :: ch → x < m.next := fun hx => GrAt.lt (GrAt.off (cap := cap) h hl hg h0 hne hch) hw hx
  have hbn : b < m.next := hlt (by simp)
  have hb'n : b' < m.next := hlt (by simp)
  obtain ⟨c, a1, a2, a3, a4⟩ := h.row
  have gb : m'.get b = m.get b := k1.get b hbn hne
  have gx : ∀ x ∈ ch, x ≠ b' → m'.get x = m.get x := fun x hx hne => k1.get x (hlt (by simp [hx])) hne
  have hres : ∃ ch', AtV m' b cells ch' ∧ ch'.length ≤ ch.length + 1 ∧ (m.next ∉ ch' ∨ ∃ ch0, ch' = ch0 ++ [m.next]) ∧ ∀ x ∈ ch', x ∈ ch ∨ x = m.next := by
   by_cases hold0 : m'.get b' = m.get b'
   ·refine ⟨ch, ⟨c, gb.trans a1, a2, a3, a4.of_get fun x hx => ?_⟩, by omega, .inl fun hx => ?_, fun x hx => .inl hx⟩
    ·by_cases hxb : x = b'
     ·rw [hxb]; exact hold0
     ·exact gx x hx hxb
    ·have := hlt (x := m.next) (by simp [hx]); omega
   ·rcases hold with hg | ⟨c1, c', d, g1, g2, g3, g4, g5, g6, g7, g8, g9, g10, g11⟩
    ·exact absurd hg hold0
    ·rcases hch with hch | ⟨ch0, rfl⟩
     ·refine ⟨ch, ⟨c, gb.trans a1, a2, a3, a4.of_get fun x hx => gx x hx fun e => hch (e ▸ hx)⟩, by omega, .inl fun hx => ?_, fun x hx => .inl hx⟩
      have := hlt (x := m.next) (by simp [hx]); omega
     ·refine ⟨ch0 ++ [b'] ++ [m.next], ⟨c, gb.trans a1, a2, a3, a4.snoc g1 g2 g3 g7 g8 g9 g10 g11 fun x hx hxb => gx x (by simp [hx]) hxb⟩, by simp, .inr ⟨_, rfl⟩, fun x hx => ?_⟩
      rcases List.mem_append.1 hx with hx | hx
      ·exact .inl hx
      ·exact .inr (List.mem_singleton.1 hx)
  obtain ⟨ch', hv', hl', hch', hsub⟩ := hres
  refine ⟨_, m', b :: m.next :: ch', e1, ?_, k1.mono fun _ _ e => by simp [e], fun x hx => ?_⟩
  ·have := GrAt.off (m := m') (e := e) (cap := cap) (gcells := gcells ++ [v]) hv' (by simp; omega) h1 (by simp) (show b ≠ m.next by omega) hch'
   rw [hcl]; exact this
  ·rcases List.mem_cons.1 hx with rfl | hx
   ·exact .inl (by simp)
   ·rcases List.mem_cons.1 hx with rfl | hx
    ·exact .inr (by omega)
    ·rcases hsub x hx with hx | rfl
     ·exact .inl (by simp [hx])
     ·exact .inr (by omega)
 | @new b' xt gcells hg h0 =>
  obtain ⟨m', xt', e1, h1, n1, k1, _⟩ := app_full (z := z) hg h0 hw hy hroom
  have hcl : gcells.length + 1 = (gcells ++ [v]).length := by simp
  refine ⟨_, m', [m.next], e1, ?_, k1.mono fun _ _ e => by simp [e], fun x hx => .inr (by cases List.mem_singleton.1 hx; omega)⟩
  rw [hcl]
  exact .new h1 (by simp)
end
end Go.Am
