import Derived.Test.YthbfinjddaembaaGreatWfo
set_option linter.unusedVariables false
set_option linter.unusedSimpArgs false
/- A log's write of a block. -/
namespace Go.Proofs.YthbfinjddaembaaGreat
open Go Go.Am
section
variable {m : M} {lg d mb cb : Nat} {seq tail used : Nat} {D : Dv}
abbrev lgK : Nat := ty_wal_Log + 1
end
section
variable {m : M} {lg d mb cb : Nat} {seq tail used : Nat} {D : Dv}
theorem dflush_ran (hw : Wf m) (h : DvAt m d cb D) (hd : D.dies = false) (hf : -1000000000 ≤ D.fuse) (hf2 : D.fuse ≤ 9223372036854775807) (hx1 : 0 ≤ D.writes) (hx2 : D.writes ≤ 1000000000) (hL : D.L.length ≤ 1000000) (hl : ∀ c ∈ D.L, c.wl.length ≤ 1000000) :
    ∃ m', DvAt m' d cb { D with L := D.L.map Cw.fl, fuse := D.fuse - 1, writes := D.writes + 1 } ∧ KeepK m m' devK ∧ Ran Tryz.prog tb fn_b7 [.ptr d 0] m (iv 0) m' := by
  obtain ⟨v, m', ⟨rfl, h1, h2⟩, r⟩ := (dflush_ok hw h hd hf hf2 hx1 hx2 hL hl (Q := fun v m' => v = iv 0 ∧ DvAt m' d cb { D with L := D.L.map Cw.fl, fuse := D.fuse - 1, writes := D.writes + 1 } ∧ KeepK m m' devK) fun m' h1 h2 => ⟨rfl, h1, h2⟩).ran
  exact ⟨m', h1, h2, r⟩
end
abbrev Ct := Bs × List Bs
def cLast (c : Ct) : Bs := c.2.getLast?.getD c.1
structure Ds where
  L : List Ct
  fused : Bool
  dead : Bool
  fuse : Int
  writes : Int
def Ds.dies (S : Ds) : Bool := S.dead || (S.fused && decide (S.fuse = 0))
def Ds.kill (S : Ds) : Ds := { S with dead := true }
def Ds.wr (S : Ds) (k : Nat) (t : Bs) : Ds := bif S.dies then S.kill else { S with L := S.L.modify k fun c => (c.1, c.2 ++ [t]), fuse := S.fuse - 1, writes := S.writes + 1 }
def Ds.fl (S : Ds) : Ds := bif S.dies then S.kill else { S with L := S.L.map fun c => (cLast c, []), fuse := S.fuse - 1, writes := S.writes + 1 }
def Ds.err (S : Ds) : Int := bif S.dead then 7 else 0
theorem Ds.kill_dead {S : Ds} (h : S.dead = true) : S.kill = S := by cases S; cases h; rfl
theorem Ds.dies_dead {S : Ds} (h : S.dead = true) : S.dies = true := by unfold Ds.dies; rw [h]; rfl
theorem Ds.wr_dead {S : Ds} (h : S.dead = true) (k : Nat) (t : Bs) : S.wr k t = S := by unfold Ds.wr; rw [Ds.dies_dead h]; exact Ds.kill_dead h
theorem Ds.fl_dead {S : Ds} (h : S.dead = true) : S.fl = S := by unfold Ds.fl; rw [Ds.dies_dead h]; exact Ds.kill_dead h
theorem Ds.live {S : Ds} (h : S.dies = false) : S.dead = false := by unfold Ds.dies at h; rw [Bool.or_eq_false_iff] at h; exact h.1
inductive Act where
  | wr (k : Nat) (t : Bs)
  | fl
def Ds.act (S : Ds) : Act → Ds
  | .wr k t => S.wr k t
  | .fl => S.fl
def Ds.acts (S : Ds) (l : List Act) : Ds := l.foldl Ds.act S
theorem Ds.act_dead {S : Ds} (h : S.dead = true) (a : Act) : S.act a = S := by cases a; exact Ds.wr_dead h _ _; exact Ds.fl_dead h
theorem Ds.acts_dead {S : Ds} (h : S.dead = true) (l : List Act) : S.acts l = S := by
  induction l with
  | nil => rfl
  | cons a l ih => show (S.act a).acts l = S; rw [Ds.act_dead h, ih]
theorem Ds.acts_cons (S : Ds) (a : Act) (l : List Act) : S.acts (a :: l) = (S.act a).acts l := rfl
theorem Ds.acts_app (S : Ds) (l k : List Act) : S.acts (l ++ k) = (S.acts l).acts k := List.foldl_append
structure Ds.Bd (S : Ds) (n w : Nat) : Prop where
  len : S.L.length = 60
  f1 : -(n : Int) ≤ S.fuse
  f2 : S.fuse ≤ 9223372036854775807
  w1 : 0 ≤ S.writes
  w2 : S.writes ≤ n
  wt : ∀ c ∈ S.L, c.2.length ≤ w
  b1 : ∀ c ∈ S.L, c.1.length = 64
  b2 : ∀ c ∈ S.L, ∀ t ∈ c.2, t.length = 64
theorem Ds.Bd.mono {S : Ds} {n w n' w' : Nat} (h : S.Bd n w) (hn : n ≤ n') (hw : w ≤ w') : S.Bd n' w' :=
  ⟨h.len, by have := h.f1; omega, h.f2, h.w1, by have := h.w2; omega, fun c hc => Nat.le_trans (h.wt c hc) hw, h.b1, h.b2⟩
theorem Ds.Bd.kill {S : Ds} {n w : Nat} (h : S.Bd n w) : S.kill.Bd n w := ⟨h.len, h.f1, h.f2, h.w1, h.w2, h.wt, h.b1, h.b2⟩
theorem cLast_len {c : Ct} (h1 : c.1.length = 64) (h2 : ∀ t ∈ c.2, t.length = 64) : (cLast c).length = 64 := by
  unfold cLast
  cases h : c.2.getLast? with
  | none => exact h1
  | some t => exact h2 t (List.mem_of_getLast? h)
theorem mem_modify {L : List Ct} {k : Nat} {f : Ct → Ct} {c : Ct} (h : c ∈ L.modify k f) : c ∈ L ∨ ∃ x ∈ L, c = f x := by
  obtain ⟨i, hi, rfl⟩ := List.mem_iff_getElem.1 h
  rw [List.getElem_modify]
  split
  · exact .inr ⟨_, List.getElem_mem _, rfl⟩
  · exact .inl (List.getElem_mem _)
theorem Ds.Bd.wr {S : Ds} {n w : Nat} (h : S.Bd n w) (k : Nat) {t : Bs} (ht : t.length = 64) : (S.wr k t).Bd (n + 1) (w + 1) := by
  unfold Ds.wr
  cases hd : S.dies with
  | true => exact h.kill.mono (by omega) (by omega)
  | false =>
    refine ⟨by show (S.L.modify k _).length = 60; rw [List.length_modify]; exact h.len, by have := h.f1; show _ ≤ S.fuse - 1; omega, by have := h.f2; show S.fuse - 1 ≤ _; omega, by have := h.w1; show 0 ≤ S.writes + 1; omega, by have := h.w2; show S.writes + 1 ≤ _; omega, fun c hc => ?_, fun c hc => ?_, fun c hc => ?_⟩
    · rcases mem_modify hc with hc | ⟨x, hx, rfl⟩
      · have := h.wt c hc; omega
      · have := h.wt x hx
        show (x.2 ++ [t]).length ≤ _
        rw [List.length_append]
        show _ + 1 ≤ _
        omega
    · rcases mem_modify hc with hc | ⟨x, hx, rfl⟩
      · exact h.b1 c hc
      · exact h.b1 x hx
    · rcases mem_modify hc with hc | ⟨x, hx, rfl⟩
      · exact h.b2 c hc
      · intro u hu
        rcases List.mem_append.1 hu with hu | hu
        · exact h.b2 x hx u hu
        · cases List.mem_singleton.1 hu; exact ht
theorem Ds.Bd.fl {S : Ds} {n w : Nat} (h : S.Bd n w) : S.fl.Bd (n + 1) w := by
  unfold Ds.fl
  cases hd : S.dies with
  | true => exact h.kill.mono (by omega) (by omega)
  | false =>
    refine ⟨by show (S.L.map _).length = 60; rw [List.length_map]; exact h.len, by have := h.f1; show _ ≤ S.fuse - 1; omega, by have := h.f2; show S.fuse - 1 ≤ _; omega, by have := h.w1; show 0 ≤ S.writes + 1; omega, by have := h.w2; show S.writes + 1 ≤ _; omega, fun c hc => ?_, fun c hc => ?_, fun c hc => ?_⟩
    · obtain ⟨x, hx, rfl⟩ := List.mem_map.1 hc; exact Nat.zero_le _
    · obtain ⟨x, hx, rfl⟩ := List.mem_map.1 hc; exact cLast_len (h.b1 x hx) (h.b2 x hx)
    · obtain ⟨x, hx, rfl⟩ := List.mem_map.1 hc; intro u hu; cases hu
def Cw.cs (c : Cw) : Ct := (c.al, c.wl.map (·.2.1))
def Dv.ds (D : Dv) : Ds := ⟨D.L.map Cw.cs, D.fused, D.dead, D.fuse, D.writes⟩
def DsAt (m : M) (d cb : Nat) (S : Ds) : Prop := ∃ D, DvAt m d cb D ∧ D.ds = S
theorem cs_last (c : Cw) : cLast c.cs = c.last.2.1 := by
  unfold cLast Cw.cs Cw.last
  simp only [List.getLast?_map]
  cases c.wl.getLast? <;> rfl
section
variable {m : M} {d cb n w : Nat} {S : Ds}
theorem DsAt.kp {m' : M} {E R : List Nat} (h : DsAt m d cb S) (hw : Wf m) (k : KeepK m m' E R) (hE : ∀ x ∈ [ty_device_Device + 1, ty_device_cell + 1, ty_suint8 + 1, ty_uint8 + 1], x ∉ E := by decide) : DsAt m' d cb S := by
  obtain ⟨D, h1, h2⟩ := h
  exact ⟨D, h1.kp hw k hE, h2⟩
theorem DsAt.k0 {m' : M} (h : DsAt m d cb S) (hw : Wf m) (k : Keep m m' fun _ => False) : DsAt m' d cb S := h.kp hw (E := []) (R := []) k.k0
theorem dflush_dead {D : Dv} (hw : Wf m) (h : DvAt m d cb D) (hd : D.dies = true) :
    ∃ m', DvAt m' d cb { D with dead := true } ∧ KeepK m m' devK ∧ Ran Tryz.prog tb fn_b7 [.ptr d 0] m (iv 7) m' := by
  obtain ⟨m1, h1, k1, r1⟩ := burn_dead hw h hd
  refine ⟨m1, h1, k1, ?_⟩
  refine WpF.go at_b7 ?_
  simp -implicitDefEqProofs only [o_b7, r_b7_0, r_b7_1, r_b7_3, r_b7_4, r_b7_5, b_np24, r1.eq, show ((7 : Int) = 0) = False from eq_false (by omega), ↓reduceIte, Nat.reduceEqDiff, wA, wB, wC, wD]
theorem ds_write (hw : Wf m) (h : DsAt m d cb S) (hB : S.Bd n w) (hn : n ≤ 100000000) (hw4 : w < 400) {k : Nat} (hk : k < 60) {s : AV} {t : Bs} {b : Nat} (hs : Bu m s t b) (h64 : t.length = 64) :
    ∃ m', DsAt m' d cb (S.wr k t) ∧ KeepK m m' devK ∧ Ran Tryz.prog tb fn_c0 [.ptr d 0, iv k, s] m (iv (S.wr k t).err) m' := by
  obtain ⟨D, hD, rfl⟩ := h
  have hlen : D.L.length = 60 := by have := hB.len; simpa [Dv.ds] using this
  cases hd : D.dies with
  | true =>
    obtain ⟨m', h1, k1, r1⟩ := dwrite_dead (k := k) hw hD hd (by omega) hs.bs h64
    have e : D.ds.wr k t = D.ds.kill := by unfold Ds.wr; rw [show D.ds.dies = true from hd]; rfl
    rw [e]
    refine ⟨m', ⟨_, h1, rfl⟩, k1, ?_⟩
    rw [show D.ds.kill.err = 7 from rfl]
    exact r1
  | false =>
    have hck : D.L[k]? = some D.L[k] := List.getElem?_eq_getElem (by omega)
    generalize D.L[k] = c at hck
    have hcl : c.wl.length ≤ w := by
      have := hB.wt c.cs (List.mem_map_of_mem (List.mem_of_getElem? hck))
      simpa [Cw.cs] using this
    have f1 := hB.f1
    have f2 := hB.f2
    have w1 := hB.w1
    have w2 := hB.w2
    have f1' : -(n : Int) ≤ D.fuse := f1
    have f2' : D.fuse ≤ 9223372036854775807 := f2
    have w1' : 0 ≤ D.writes := w1
    have w2' : D.writes ≤ (n : Int) := w2
    obtain ⟨m', c', hp, h1, k1, r1⟩ := dwrite_ok hw hD hd (by omega) f2' w1' (by omega) hck (by omega) hs h64
    have e : D.ds.wr k t = (Dv.mk (D.L.set k c') D.fused D.dead (D.fuse - 1) (D.writes + 1)).ds := by
      unfold Ds.wr
      rw [show D.ds.dies = false from hd]
      unfold Dv.ds
      simp only [cond_false, Ds.mk.injEq, and_true]
      apply List.ext_getElem?
      intro i
      rw [List.getElem?_modify, List.getElem?_map, List.getElem?_map, List.getElem?_set]
      by_cases hi : k = i
      · subst hi
        rw [if_pos rfl, if_pos (by omega), hck]
        obtain ⟨s', b', e1, _⟩ := hp.wl
        simp [Cw.cs, e1, hp.al]
      · rw [if_neg hi]
        cases D.L[i]? <;> simp [hi]
    rw [e]
    refine ⟨m', ⟨_, h1, rfl⟩, k1, ?_⟩
    have hdd : D.dead = false := Ds.live (S := D.ds) hd
    rw [show (Dv.mk (D.L.set k c') D.fused D.dead (D.fuse - 1) (D.writes + 1)).ds.err = 0 from by unfold Ds.err Dv.ds; rw [hdd]; rfl]
    exact r1
theorem ds_flush (hw : Wf m) (h : DsAt m d cb S) (hB : S.Bd n w) (hn : n ≤ 100000000) (hw4 : w ≤ 400) :
    ∃ m', DsAt m' d cb S.fl ∧ KeepK m m' devK ∧ Ran Tryz.prog tb fn_b7 [.ptr d 0] m (iv S.fl.err) m' := by
  obtain ⟨D, hD, rfl⟩ := h
  have hlen : D.L.length = 60 := by have := hB.len; simpa [Dv.ds] using this
  cases hd : D.dies with
  | true =>
    obtain ⟨m', h1, k1, r1⟩ := dflush_dead hw hD hd
    have e : D.ds.fl = D.ds.kill := by unfold Ds.fl; rw [show D.ds.dies = true from hd]; rfl
    rw [e]
    refine ⟨m', ⟨_, h1, rfl⟩, k1, ?_⟩
    rw [show D.ds.kill.err = 7 from rfl]
    exact r1
  | false =>
    have f1' : -(n : Int) ≤ D.fuse := hB.f1
    have f2' : D.fuse ≤ 9223372036854775807 := hB.f2
    have w1' : 0 ≤ D.writes := hB.w1
    have w2' : D.writes ≤ (n : Int) := hB.w2
    obtain ⟨m', h1, k1, r1⟩ := dflush_ran hw hD hd (by omega) f2' w1' (by omega) (by omega) fun c hc => by
      have := hB.wt c.cs (List.mem_map_of_mem hc)
      have : c.wl.length ≤ w := by simpa [Cw.cs] using this
      omega
    have e : D.ds.fl = (Dv.mk (D.L.map Cw.fl) D.fused D.dead (D.fuse - 1) (D.writes + 1)).ds := by
      unfold Ds.fl
      rw [show D.ds.dies = false from hd]
      unfold Dv.ds
      simp only [cond_false, Ds.mk.injEq, and_true, List.map_map]
      apply List.map_congr_left
      intro c _
      show (cLast c.cs, []) = c.fl.cs
      rw [cs_last]
      have h1 : c.fl.al = c.last.2.1 := by
        have := Cw.fl_last (c := c)
        rw [← this]
        rfl
      show _ = (c.fl.al, c.fl.wl.map _)
      rw [h1]
      rfl
    rw [e]
    refine ⟨m', ⟨_, h1, rfl⟩, k1, ?_⟩
    have hdd : D.dead = false := Ds.live (S := D.ds) hd
    rw [show (Dv.mk (D.L.map Cw.fl) D.fused D.dead (D.fuse - 1) (D.writes + 1)).ds.err = 0 from by unfold Ds.err Dv.ds; rw [hdd]; rfl]
    exact r1
end
end Go.Proofs.YthbfinjddaembaaGreat
/- Slices of writes; a log's write, its header, its parts. -/
namespace Go.Am
open Go Go.RowKit
theorem eq70 : ((7 : Int) = 0) = False := eq_false (by decide)
end Go.Am
namespace Go.Proofs.YthbfinjddaembaaGreat
open Go Go.Am
structure DtAt (m : M) (s : AV) (t : Bs) : Prop where
  len : lenK false s = some t.length
  cl : cellsO s = some [s]
  aq : aveq 40 s s = true
  bu : t.length = 64 → ∃ b, Bu m s t b
abbrev Wr := Int × AV × Bs
noncomputable def wcells (L : List Wr) : List AV := L.flatMap fun e => [iv e.1, e.2.1]
theorem wcells_len (L : List Wr) : (wcells L).length = L.length * 2 := by
  unfold wcells
  induction L with
  | nil => rfl
  | cons a l ih => rw [List.flatMap_cons, List.length_append, ih, List.length_cons]; simp; omega
theorem wcells_get (L : List Wr) : ∀ (k : Nat) (h : k < L.length), ((wcells L).drop (k * 2)).take 2 = [iv L[k].1, L[k].2.1] := by
  induction L with
  | nil => intro k h; cases h
  | cons a l ih =>
    intro k h
    cases k with
    | zero => rfl
    | succ k =>
      have := ih k (by simpa using h)
      rw [show (k + 1) * 2 = k * 2 + 2 by omega]
      exact this
structure WsAt (m : M) (x : AV) (L : List Wr) : Prop where
  len : lenK false x = some L.length
  row : L ≠ [] → ∃ b cap q junk, x = .slice b 0 L.length cap q ∧ AtR m b (wcells L ++ junk) ∧ (kd m b (ty_api_Write + 1) ∨ kd m b roK) ∧ L.length ≤ cap
  dt : ∀ e ∈ L, DtAt m e.2.1 e.2.2
theorem DtAt.kp {m m' : M} {s : AV} {t : Bs} {E S : List Nat} (h : DtAt m s t) (hw : Wf m) (hk : KeepK m m' E S) (hE : uB ∉ E := by decide) (hR : roK ∉ E := by decide) : DtAt m' s t :=
  ⟨h.len, h.cl, h.aq, fun e => let ⟨b, hb⟩ := h.bu e; ⟨b, hb.kp hw hk hE hR⟩⟩
theorem AtR.lt' {m : M} {b : Nat} {l : List AV} (h : AtR m b l) (hw : Wf m) : b < m.next := by
  obtain ⟨c, h1, _⟩ := h.row
  rcases Nat.lt_or_ge b m.next with k | k
  · exact k
  · rw [hw b k] at h1; cases h1
theorem WsAt.kp {m m' : M} {x : AV} {L : List Wr} {E S : List Nat} (h : WsAt m x L) (hw : Wf m) (hk : KeepK m m' E S) (hE : uB ∉ E := by decide) (hR : roK ∉ E := by decide) (hW : ty_api_Write + 1 ∉ E := by decide) : WsAt m' x L := by
  refine ⟨h.len, fun hn => ?_, fun e he => (h.dt e he).kp hw hk hE hR⟩
  obtain ⟨b, cap, q, junk, h1, h2, h3, h4⟩ := h.row hn
  have hk1 : ¬ Kinds m E S b := by
    rcases h3 with e | e
    · exact Kinds.not e hW (by decide)
    · exact Kinds.not e hR (by decide)
  have hg := hk.get b (AtR.lt' h2 hw) hk1
  refine ⟨b, cap, q, junk, h1, h2.of_get hg, ?_, h4⟩
  rcases h3 with e | e
  · exact .inl (e.of_get hg)
  · exact .inr (e.of_get hg)
theorem WsAt.k0 {m m' : M} {x : AV} {L : List Wr} (h : WsAt m x L) (hw : Wf m) (k : Keep m m' fun _ => False) : WsAt m' x L := h.kp hw (E := []) (S := []) k.k0
theorem WsAt.elem {m : M} {x : AV} {L : List Wr} (h : WsAt m x L) {k : Nat} (hk : k < L.length) : ∃ b cap q, x = .slice b 0 L.length cap q ∧ m.rdN b (k * 2) 2 = some [iv L[k].1, L[k].2.1] := by
  obtain ⟨b, cap, q, junk, h1, h2, _⟩ := h.row (fun e => by subst e; cases hk)
  refine ⟨b, cap, q, h1, ?_⟩
  have hl := wcells_len L
  rw [h2.rdN (by rw [List.length_append, hl]; omega)]
  congr 1
  rw [List.drop_append_of_le_length (by omega), List.take_append_of_le_length (by rw [List.length_drop]; omega)]
  exact wcells_get L k hk
section
variable {m : M} {lg d mb cb n w : Nat} {seq tail used : Nat} {S : Ds}
theorem lw_ds {k : Nat} {s : AV} {t : Bs} {b : Nat} (hw : Wf m) (hg : LgAt m lg d mb seq tail used false) (h : DsAt m d cb S) (hB : S.Bd n w) (hn : n ≤ 100000000) (hw4 : w < 400) (hk : k < 60) (hs : Bu m s t b) (h64 : t.length = 64) :
    ∃ m', DsAt m' d cb (S.wr k t) ∧ LgAt m' lg d mb seq tail used (S.wr k t).dead ∧ KeepK m m' (lgK :: devK) ∧ Ran Tryz.prog tb fn_d7 [.ptr lg 0, iv k, s] m (iv (S.wr k t).err) m' := by
  obtain ⟨m1, h1, k1, r1⟩ := ds_write hw h hB hn hw4 hk hs h64
  have g1 := hg.kp hw k1
  obtain ⟨m2, e2, a2, k2, n2⟩ := g1.st k1.wf 17 [.b (S.wr k t).dead]
  have a2 : LgAt m2 lg d mb seq tail used (S.wr k t).dead := a2
  have kk := k2.k1 (E := [lgK]) (S := []) g1.kd
  refine ⟨m2, h1.kp k1.wf kk, a2, (k1.sub (G := lgK :: devK)).tk kk, ?_⟩
  have q0 : m.rd lg 0 = some (.ptr d 0) := by rw [hg.rd]; rfl
  have q17 : m1.rd lg 17 = some (.b false) := by rw [g1.rd]; rfl
  cases hd : (S.wr k t).dead with
  | true =>
    rw [hd] at e2
    have he : (S.wr k t).err = 7 := by unfold Ds.err; rw [hd]; rfl
    rw [he] at r1 ⊢
    refine WpF.go at_d7 ?_
    simp -implicitDefEqProofs only [o_d7, r_d7_0, r_d7_1, r_d7_2, r_d7_3, q0, r1.eq, q17, e2, eq70, ↓reduceIte, Nat.reduceEqDiff, Nat.reduceAdd, wA, wB, wC, wD]
  | false =>
    rw [hd] at e2
    have he : (S.wr k t).err = 0 := by unfold Ds.err; rw [hd]; rfl
    rw [he] at r1 ⊢
    refine WpF.go at_d7 ?_
    simp -implicitDefEqProofs only [o_d7, r_d7_0, r_d7_1, r_d7_2, r_d7_3, q0, r1.eq, q17, e2, ↓reduceIte, Nat.reduceEqDiff, Nat.reduceAdd, wA, wB, wC, wD]
def headActs (seq tail used : Nat) : List Act := [.fl, .wr 1 (hdrB seq tail used), .fl]
theorem err_t {S : Ds} (h : S.dead = true) : S.err = 7 := by unfold Ds.err; rw [h]; rfl
theorem err_f {S : Ds} (h : S.dead = false) : S.err = 0 := by unfold Ds.err; rw [h]; rfl
set_option maxHeartbeats 1000000 in
theorem head_ds (hw : Wf m) (hg : LgAt m lg d mb seq tail used false) (h : DsAt m d cb S) (hB : S.Bd n w) (hn : n ≤ 10000000) (hw4 : w < 390) (h1 : seq < 2 ^ 32) (h2 : tail < 2 ^ 16) (h3 : used < 2 ^ 16) :
    ∃ m', DsAt m' d cb (S.acts (headActs seq tail used)) ∧ LgAt m' lg d mb seq tail used (S.acts (headActs seq tail used)).dead ∧ KeepK m m' (lgK :: devK) ∧ Ran Tryz.prog tb fn_d2 [.ptr lg 0] m (iv (S.acts (headActs seq tail used)).err) m' := by
  have hag : aveq 40 (.agg [iv seq, iv tail, iv used]) (.agg [iv seq, iv tail, iv used]) = true := aq_agg3 aq_n aq_n aq_n
  have q13 : m.rdN lg 13 3 = some [iv seq, iv tail, iv used] := hg.rdN (i := 13) (n := 3) (Nat.le_of_ble_eq_true rfl)
  have q1 : m.rd lg 1 = some (iv 64) := by rw [hg.rd]; rfl
  obtain ⟨m1, s, b, rb, k1, hb, r1⟩ := header (seq := seq) (tail := tail) (used := used) hw h1 h2 h3
  have rb' : BtU m1 s (hdrB seq tail used) b := ⟨rb.bs, rb.sl.kd⟩
  have g1 := hg.kp hw (E := []) (S := []) k1.k0
  have d1 := h.k0 hw k1
  have q0 : m1.rd lg 0 = some (.ptr d 0) := by rw [g1.rd]; rfl
  obtain ⟨m2, d2, k2, r2⟩ := ds_flush k1.wf d1 hB (by omega) (by omega)
  have c1 : Ran Tryz.prog tb fn_e0 [.agg [iv seq, iv tail, iv used], iv 64] m (.tuple [s, iv 0]) m1 := r1
  have g2 := g1.kp k1.wf k2
  have q0b : m2.rd lg 0 = some (.ptr d 0) := by rw [g2.rd]; rfl
  have q17b : m2.rd lg 17 = some (.b false) := by rw [g2.rd]; rfl
  have k02 : KeepK m m2 (lgK :: devK) := (k1.k0 (E := lgK :: devK) (S := [])).tk k2
  cases hd2 : S.fl.dead with
  | true =>
    have e : S.acts (headActs seq tail used) = S.fl := by
      unfold headActs
      rw [Ds.acts_cons]
      exact Ds.acts_dead hd2 _
    rw [e, err_t hd2, hd2]
    rw [err_t hd2] at r2
    obtain ⟨m3, e3, a3, k3, n3⟩ := g2.st k2.wf 17 [.b true]
    have a3 : LgAt m3 lg d mb seq tail used true := a3
    have kk := k3.k1 (E := [lgK]) (S := []) g2.kd
    refine ⟨m3, d2.kp k2.wf kk, a3, k02.tk kk, ?_⟩
    refine WpF.go at_d2 ?_
    simp -implicitDefEqProofs only [o_d2, r_d2_0, r_d2_1, r_d2_2, r_d2_3, r_d2_5, r_d2_7, r_d2_8, q13, q1, c1.eq, q0, r2.eq, q17b, e3, eq70, hag, ↓reduceIte, Nat.reduceEqDiff, exists_eq_left', wA, wB, wC, wD]
  | false =>
    rw [err_f hd2] at r2
    have hB2 : S.fl.Bd (n + 1) w := hB.fl
    have rb2 := rb'.kp k1.wf k2
    obtain ⟨m3, d3, k3, r3⟩ := ds_write (k := 1) k2.wf d2 hB2 (by omega) (by omega) (by omega) (bu_of rb2) (hdrB_len seq tail used)
    have r3 : Ran Tryz.prog tb fn_c0 [.ptr d 0, iv 1, s] m2 (iv (S.fl.wr 1 (hdrB seq tail used)).err) m3 := r3
    have g3 := g2.kp k2.wf k3
    have q0c : m3.rd lg 0 = some (.ptr d 0) := by rw [g3.rd]; rfl
    have q17c : m3.rd lg 17 = some (.b false) := by rw [g3.rd]; rfl
    have k03 : KeepK m m3 (lgK :: devK) := k02.tk k3
    cases hd3 : (S.fl.wr 1 (hdrB seq tail used)).dead with
    | true =>
      have e : S.acts (headActs seq tail used) = S.fl.wr 1 (hdrB seq tail used) := by
        unfold headActs
        rw [Ds.acts_cons, Ds.acts_cons]
        exact Ds.acts_dead (S := S.fl.wr 1 (hdrB seq tail used)) hd3 _
      rw [e, err_t hd3, hd3]
      rw [err_t hd3] at r3
      obtain ⟨m4, e4, a4, k4, n4⟩ := g3.st k3.wf 17 [.b true]
      have a4 : LgAt m4 lg d mb seq tail used true := a4
      have kk := k4.k1 (E := [lgK]) (S := []) g3.kd
      refine ⟨m4, d3.kp k3.wf kk, a4, k03.tk kk, ?_⟩
      refine WpF.go at_d2 ?_
      simp -implicitDefEqProofs only [o_d2, r_d2_0, r_d2_1, r_d2_2, r_d2_3, r_d2_4, r_d2_5, r_d2_7, r_d2_8, q13, q1, c1.eq, q0, r2.eq, q0b, r3.eq, q17c, e4, eq70, hag, ↓reduceIte, Nat.reduceEqDiff, exists_eq_left', wA, wB, wC, wD]
    | false =>
      rw [err_f hd3] at r3
      have hB3 : (S.fl.wr 1 (hdrB seq tail used)).Bd (n + 2) (w + 1) := hB2.wr 1 (hdrB_len seq tail used)
      obtain ⟨m4, d4, k4, r4⟩ := ds_flush k3.wf d3 hB3 (by omega) (by omega)
      have e : S.acts (headActs seq tail used) = (S.fl.wr 1 (hdrB seq tail used)).fl := rfl
      have g4 := g3.kp k3.wf k4
      have q17d : m4.rd lg 17 = some (.b false) := by rw [g4.rd]; rfl
      obtain ⟨m5, e5, a5, k5, n5⟩ := g4.st k4.wf 17 [.b (S.fl.wr 1 (hdrB seq tail used)).fl.dead]
      have a5 : LgAt m5 lg d mb seq tail used (S.fl.wr 1 (hdrB seq tail used)).fl.dead := a5
      have kk := k5.k1 (E := [lgK]) (S := []) g4.kd
      rw [e]
      refine ⟨m5, d4.kp k4.wf kk, a5, (k03.tk k4).tk kk, ?_⟩
      cases hd4 : (S.fl.wr 1 (hdrB seq tail used)).fl.dead with
      | true =>
        rw [hd4] at e5
        rw [err_t hd4] at r4 ⊢
        refine WpF.go at_d2 ?_
        simp -implicitDefEqProofs only [o_d2, r_d2_0, r_d2_1, r_d2_2, r_d2_3, r_d2_4, r_d2_5, r_d2_6, r_d2_7, r_d2_8, q13, q1, c1.eq, q0, r2.eq, q0b, r3.eq, q0c, r4.eq, q17d, e5, eq70, hag, ↓reduceIte, Nat.reduceEqDiff, exists_eq_left', wA, wB, wC, wD]
      | false =>
        rw [hd4] at e5
        rw [err_f hd4] at r4 ⊢
        refine WpF.go at_d2 ?_
        simp -implicitDefEqProofs only [o_d2, r_d2_0, r_d2_1, r_d2_2, r_d2_3, r_d2_4, r_d2_5, r_d2_6, r_d2_7, r_d2_8, q13, q1, c1.eq, q0, r2.eq, q0b, r3.eq, q0c, r4.eq, q17d, e5, hag, ↓reduceIte, Nat.reduceEqDiff, exists_eq_left', wA, wB, wC, wD]
end
end Go.Proofs.YthbfinjddaembaaGreat
