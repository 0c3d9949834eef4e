import Derived.Test.YtooooiidpaecmaaGreatDoorEo
import Derived.Test.YtooooiidpaecmaaGreatDoorIaOk
import Derived.Test.YtooooiidpaecmaaGreatDoorTie
import Derived.Test.YtooooiidpaecmaaGreatDoorCards
import Derived.Lay
import Derived.SevenTiedAt
import Derived.Deep.Slices
import Derived.Deep.Fields
import Derived.ChangeSame
import Derived.ProofKit
import Derived.Shelf.Abstract
set_option linter.unusedVariables false
set_option linter.unusedSimpArgs false
/- The law 'skerrylaw15.DirNames' returns true for every script; the card's listed variables are those of the program's text. Conditions: none beyond those that the statement itself has. -/
namespace Go.Proofs.YtooooiidpaecmaaGreatDoor
open Go Go.Am Go.ChangeShapes Go.WideShapes Go.ChangeAt Go.ChangeMaps Go.RowKit Go.Deep
theorem Tryz.laidOut : laidOutB Tryz.prog = true := by kernel_rfl
theorem f92 {ρ : Ren} {x : AV} {v : Value} (h : d6 ρ x = some v) {l : List AV} {vs : List Value} (k : i8 ρ l = some vs) : i8 ρ (x :: l) = some (v :: vs) := o9.2 ⟨v, vs, h, k, rfl⟩
theorem f8Q (W : World) : ∃ ρ, Sim Tryz.prog W ρ (mS none) W := by
 obtain ⟨k1, _⟩ := (Sim.start (P := Tryz.prog) W).bump ⟨0, 0, 0⟩
 exact ⟨_, k1.same (fun b => by rw [a5Y, M.get_bump, a1I]; split <;> rfl) rfl⟩
theorem g3u {a : Addr} (h : a.spot = none) (i : Nat) : a.add i = ⟨a.block, a.off + i, none⟩ := by
 obtain ⟨b, o, s⟩ := a
 cases h
 exact Addr.add_mk b o i
theorem c0S {α : Type} (R : Nat → α → Prop) : ∀ n, (∀ i, i < n → ∃ e, R i e) → ∃ l : List α, l.length = n ∧ ∀ i e, l[i]? = some e → R i e
 | 0, _ => ⟨[], rfl, fun i e h => by cases h⟩
 | n + 1, h => by
  obtain ⟨l, h1, h2⟩ := c0S R n fun i hi => h i (by omega)
  obtain ⟨e, he⟩ := h n (Nat.lt_succ_self n)
  refine ⟨l ++ [e], by simp [h1], fun i e' hi => ?_⟩
  by_cases hin : i < l.length
  ·rw [List.getElem?_append_left hin] at hi
   exact h2 i e' hi
  ·rw [List.getElem?_append_right (by omega)] at hi
   have : i - l.length = 0 := by
    have := (List.getElem?_eq_some_iff.1 hi).1
    simp at this
    omega
   rw [this] at hi
   cases hi
   have : i = n := by omega
   rw [this]; exact he
theorem g6r (es : List Oq) : ∀ (i : Nat) (v : AV), (es.flatMap E7)[i]? = some v → ∃ k e, es[k]? = some e ∧ k * 4 ≤ i ∧ i < k * 4 + 4 ∧ (E7 e)[i - k * 4]? = some v := by
 induction es with
 | nil => intro i v h; cases h
 | cons e es ih =>
  intro i v h
  rw [List.flatMap_cons] at h
  have he : (E7 e).length = 4 := rfl
  by_cases hi : i < 4
  ·rw [List.getElem?_append_left (by omega)] at h
   exact ⟨0, e, rfl, by omega, by omega, by simpa using h⟩
  ·rw [List.getElem?_append_right (by omega), he] at h
   obtain ⟨k, e', h1, h2, h3, h4⟩ := ih _ _ h
   refine ⟨k + 1, e', by simpa using h1, by omega, by omega, ?_⟩
   rw [show i - (k + 1) * 4 = i - 4 - k * 4 by omega]
   exact h4
theorem e9o {P : Program} {W : World} {ρ : Ren} {m : M} (h : Sim P W ρ m W) (hw : Wf m) (hn : m.next = 1) : Sim P W ρ (mS (m.get 0)) W ∧ ∀ b, (mS (m.get 0)).get b = m.get b := by
 have hg : ∀ b, (mS (m.get 0)).get b = m.get b := fun b => by
  rw [a5Y]
  by_cases h0 : b = 0
  ·rw [if_pos h0, h0]
  ·rw [if_neg h0, hw b (by omega)]
 exact ⟨h.same hg hn.symm, hg⟩
set_option maxRecDepth 100000 in
theorem f8H {H : Type} {enc : TypeId × Value → H} {W : World} {base : Nat} {v : Value} {d : DataW H} {p : List MemPlace} (hval : Value.okWide Tryz.prog W .any base 50 v) (h : DataW.Trod enc Tryz.prog W 0 (fun _ => true) true 50 v d p) :
  ∃ (ρ : Ren) (q : Option Blk) (x : AV) (es : List Oq), d6 ρ x = some v ∧ Sim Tryz.prog W ρ (mS q) W ∧ OsAt (mS q) x es := by
 obtain ⟨a0, len, cap, rfl⟩ := okWide_slice Tryz.underlying50 hval
 obtain ⟨fuel, hf⟩ := h
 rcases open_slice Tryz.underlying50 hf with ⟨hcs, _⟩ | ⟨a, len', cap', k, nn, D, Pl, hcs, _, hl, hm, hk, hx, hi⟩
 ·simp [Value.cells] at hcs
  obtain ⟨rfl, rfl, rfl⟩ := hcs
  obtain ⟨ρ, hs⟩ := f8Q W
  exact ⟨ρ, none, j7, [], f8c _, hs, .nil⟩
 ·simp [Value.cells] at hcs
  obtain ⟨rfl, rfl, rfl⟩ := hcs
  simp only [if_true] at hk
  subst hk
  have hspot : a.spot = none := by
   simp only [Value.okWide, Tryz.underlying50, Cell.okWide, Cell.ok] at hval
   exact hval.2.2.2.1
  by_cases h0 : len = 0
  ·subst h0
   exact ⟨ρA a, _, .slice 0 0 0 k true, [], c0p a hspot 0 k, (e9o (Sim.startE W a) g6z rfl).1, .empty⟩
  ·have hE : ∀ i, i < len → ∃ e : Oq, W.cell? (a.add (i * 4)) = some (.int .i64 e.kind) ∧ W.cell? (a.add (i * 4 + 1)) = some (.int .i64 e.d) ∧ W.cell? (a.add (i * 4 + 2)) = some (.int .i64 e.n) ∧ W.cell? (a.add (i * 4 + 3)) = some (.string ⟨e.name.toArray⟩) := by
    intro i hil
    obtain ⟨cs', hc, ht'⟩ := hi i (by omega)
    have hC : Tryz.prog.cellsOf 53 = 4 := by kernel_rfl
    rw [hC] at hc
    obtain ⟨ys, n', _, _, hlen4, hyl, hfl⟩ := DataW.trod_struct Tryz.underlying53 ht'
    obtain ⟨_, hcl, hat⟩ := World.cells?_some hc
    have t0 := hfl 0 _ rfl
    have t1 := hfl 1 _ rfl
    have t2 := hfl 2 _ rfl
    have t3 := hfl 3 _ rfl
    match cs', hcl with
    | [c0, c1, c2, c3], _ =>
     match ys, hyl with
     | [y0, y1, y2, y3], _ =>
      have t0 : DataW.trod enc Tryz.prog W 0 (fun _ => true) true n' 3 [c0] = some y0 := t0
      have t1 : DataW.trod enc Tryz.prog W 0 (fun _ => true) true n' 3 [c1] = some y1 := t1
      have t2 : DataW.trod enc Tryz.prog W 0 (fun _ => true) true n' 3 [c2] = some y2 := t2
      have t3 : DataW.trod enc Tryz.prog W 0 (fun _ => true) true n' 9 [c3] = some y3 := t3
      obtain ⟨i0, e0, _, _⟩ := DataW.trod_int Tryz.underlying3 t0
      obtain ⟨i1, e1, _, _⟩ := DataW.trod_int Tryz.underlying3 t1
      obtain ⟨i2, e2, _, _⟩ := DataW.trod_int Tryz.underlying3 t2
      obtain ⟨s3, e3, _, _⟩ := DataW.trod_string Tryz.underlying9 t3
      cases e0; cases e1; cases e2; cases e3
      have h0' := hat 0 (by omega)
      have h1' := hat 1 (by omega)
      have h2' := hat 2 (by omega)
      have h3' := hat 3 (by omega)
      rw [Go.Deep.add_add] at h0' h1' h2' h3'
      exact ⟨⟨i0, i1, i2, s3.data.toList⟩, h0', h1', h2', by simpa using h3'⟩
   obtain ⟨es, hlen, hes⟩ := c0S _ len hE
   have hcell : ∀ i v, (es.flatMap E7)[i]? = some v → ∃ u, d6 (ρA a) v = some u ∧ u.oneCell' = true ∧ W.cell? (a.add i) = some u := by
    intro i v hv
    obtain ⟨k, e, h1, h2, h3, h4⟩ := g6r es i v hv
    obtain ⟨c0, c1, c2, c3⟩ := hes k e h1
    have hcases : i = k * 4 ∨ i = k * 4 + 1 ∨ i = k * 4 + 2 ∨ i = k * 4 + 3 := by omega
    rcases hcases with rfl | rfl | rfl | rfl
    ·rw [Nat.sub_self] at h4
     cases h4
     exact ⟨_, b0L _ _, rfl, c0⟩
    ·rw [show k * 4 + 1 - k * 4 = 1 by omega] at h4
     cases h4
     exact ⟨_, b0L _ _, rfl, c1⟩
    ·rw [show k * 4 + 2 - k * 4 = 2 by omega] at h4
     cases h4
     exact ⟨_, b0L _ _, rfl, c2⟩
    ·rw [show k * 4 + 3 - k * 4 = 3 by omega] at h4
     cases h4
     exact ⟨_, g0D _ _, rfl, c3⟩
   have hfl := a9r es
   have hblk : ∃ arr e fz, W.heap[a.block]? = some (.cells arr e fz) := by
    obtain ⟨e, c0, _⟩ := hE 0 (by omega)
    unfold World.cell? at c0
    split at c0
    ·rename_i hh
     exact ⟨_, _, _, hh⟩
    ·cases c0
   obtain ⟨arr, e, fz, hh⟩ := hblk
   have harr : ∀ i u, W.cell? (a.add i) = some u → arr[a.off + i]? = some u := by
    intro i u hu
    rw [g3u hspot] at hu
    unfold World.cell? at hu
    simp only [hh] at hu
    exact hu
   have hsr := Sim.startRow (P := Tryz.prog) hh (es.flatMap E7) (by
    have hlast : (es.flatMap E7)[es.length * 4 - 1]? = some ((es.flatMap E7)[es.length * 4 - 1]'(by omega)) := List.getElem?_eq_getElem _
    obtain ⟨u, _, _, hu⟩ := hcell _ _ hlast
    have := (Array.getElem?_eq_some_iff.1 (harr _ _ hu)).1
    omega) (fun i v hv => by
    obtain ⟨u, h1, h2, h3⟩ := hcell i v hv
    exact ⟨u, h1, h2, harr i u h3⟩)
   obtain ⟨w1, w2⟩ := e9o hsr (g0b _ _) (a9o _ _)
   refine ⟨ρA a, _, .slice 0 0 len k true, es, c0p a hspot len k, w1, ?_⟩
   rw [← hlen]
   refine .row ((g1X e _).of_get (w2 0)) ?_
   have hkd : Am.kd (a0s e (es.flatMap E7)) 0 roK := by
    unfold Am.kd
    rw [a0B, if_pos rfl]; rfl
   exact hkd.of_get (w2 0)
set_option maxRecDepth 100000 in
theorem f4H (os : Os) (started : os.Started) (H : Type) (enc : TypeId × Value → H) :
  ReturnsInHanded {} Tryz.checked os 5 .any (fun w args => (Rows.dirNamesSpec.pre enc Tryz.prog Tryz.f5 [] false w args ∧ laidMetH Tryz.prog Rows.dirNamesRow.laid w) ∧ sizedMet enc Tryz.prog Tryz.f5 (OpenSpec.ofChange Rows.dirNamesSpec) false w args)
   (Rows.dirNamesSpec.post enc Tryz.prog Tryz.f5 false true false false) := by
 refine returnsInHanded_of_change_and (C := Tryz.checked) (X := fun w _ => laidMetH Tryz.prog Rows.dirNamesRow.laid w) (fun _ _ _ hh h => h.of_heap hh) Tryz.own started (by kernel_rfl) Tryz.func5
  (ChangeSpec.witness_shaped (enc := enc) (C := Tryz.checked) (os := os) (X := fun w _ => laidMetH Tryz.prog Rows.dirNamesRow.laid w) false (World.laidAll Tryz.prog os Rows.dirNamesRow.laid) #[.slice none 0 0] 8 (World.laidAll_os _ _ _)
   (World.shaped_of_ZipB (by kernel_rfl) (by kernel_rfl)) (by kernel_rfl) (by kernel_rfl) (by kernel_rfl)
   (by rw [MakeChecks.laidMetH_plain _ _ _ (by kernel_rfl)]; exact laidMet_laidAll _ (by kernel_rfl) (by kernel_rfl))) ?_
 intro W base args ds gs before hval0 hW _ _ hL _
 have hval : ∀ (j : Nat) t v, Tryz.f5.params[j]? = some t → args[j]? = some v → Value.okWide Tryz.prog W .any base t v := hval0
 have hW' := hW
 obtain ⟨p, q, hA0, hV, rfl, hfz, hnd⟩ := hW
 have hA : DataW.TrodAll enc Tryz.prog W 0 (fun _ => true) true Tryz.f5.params.toList args.toList ds p := hA0
 rw [Tryz.params5] at hA hval
 obtain ⟨v0, d0, rfl, rfl, h0⟩ := trodAll_one hA
 obtain ⟨rfl, rfl⟩ := trodVars_none hV
 obtain ⟨ρ1, q, x, es, hx, hs1, ho⟩ := f8H (hval 0 50 v0 rfl rfl) h0
 have hlt : ∀ x ∈ p, x.block < W.heap.size := fun x hx => by simpa using hW'.lt x (by simpa using hx)
 refine (g1t (Am.good_of Tryz.good) g6b (f6R ho) (f92 hx (o0 ρ1)) hs1 Tryz.func5 rfl).mono fun e W' ⟨he, hb⟩ => ?_
 subst he
 exact ⟨_, rfl, f72 hW' (fun _ _ _ => trodAll_mk1 (shut_bool Tryz.underlying4 true)) (trodAll_mk1 (Below.trod Tryz.laidOut (by kernel_rfl) (of_decide_eq_true (by kernel_rfl)) h0 hb hlt)) rfl hb⟩
theorem f5m : Rows.DirNamesSaid :=
 OpenClaim.holds_of_wide 5 Tryz.f5 rfl rfl rfl rfl rfl rfl rfl ⟨rfl, rfl, rfl, rfl, rfl⟩ rfl rfl rfl rfl rfl (by kernel_rfl) Tryz.func5 (by kernel_rfl)
  (of_decide_eq_true (by kernel_rfl)) (by unfold Func.isWrapper; first | (rw [if_pos (by decide +kernel)]; kernel_rfl) | (rw [if_neg (by decide +kernel)]; exact ⟨rfl, rfl⟩))
  (fun os started H enc _ => f4H os started H enc)
end Go.Proofs.YtooooiidpaecmaaGreatDoor
namespace Go.Proofs.YtooooiidpaecmaaGreatDoor
open Go Go.Am Go.ChangeShapes Go.WideShapes Go.ChangeAt Go.ChangeMaps Go.RowKit Go.Deep
theorem dirNames_card : Rows.DirNamesCardSaid :=
 Claim7.holds_tied_plain_at .later [] [.data, .pinned] true (true, "ddef3db846584d53f138c810d6efd84787f5f89495365acd8514a08512c391dd") false f5m (fun _ h => by cases h) (by kernel_rfl) (fun _ h => by cases h) dirNames_row_tie rfl ⟨rfl, rfl⟩ (by kernel_rfl) rfl
  (fun f fn hf hfn => by
   obtain rfl : f = 5 := Option.some.inj ((show Tryz.prog.funcNamed Rows.dirNamesRow.func = some 5 by kernel_rfl).symm.trans hf) |>.symm
   obtain rfl : fn = Tryz.f5 := (Option.some.inj (Tryz.func5.symm.trans hfn)).symm
   exact ⟨by kernel_rfl, fun j t ht => by
    rw [Tryz.params5] at ht
    have hm : t ∈ [50] := by simpa using Array.mem_of_getElem? ht
    have hall : ([50].all fun u => !Tryz.prog.wantsStandIn u) = true := by kernel_rfl
    exact (show Tryz.prog.wantsStandIn t = false by simpa using List.all_eq_true.1 hall t hm)⟩)
  (by kernel_rfl)
#print axioms dirNames_card
end Go.Proofs.YtooooiidpaecmaaGreatDoor
