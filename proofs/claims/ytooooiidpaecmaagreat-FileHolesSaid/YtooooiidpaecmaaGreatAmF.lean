import Derived.Test.YtooooiidpaecmaaGreatAmE
import Derived.Great.BuildSlice
/- The abstract machine: its operations and the model's, one by one. -/
namespace Go.Am
open Go Go.RowKit
section
variable {P : Program} {w0 : World} {ρ : Ren} {m : M} {w : World}
theorem parts_congr {p q : Nat → Option (Nat × Nat)} (h : ∀ i x, p i = some x → q i = some x) : ∀ (l : List (Nat × Operand)) (r : List (Nat × Nat × RO)), parts p l = some r → parts q l = some r
 | [], r, e => e
 | (i, x) :: l, r, e => by
  simp only [parts] at e ⊢
  split at e
  ·rename_i off size r' h1 h2
   rw [h i _ h1, parts_congr h l r' h2]; exact e
  ·cases e
theorem val_build_arr (h : Sim P w0 ρ m w) {t e n size : Nat} {zl : List AV} {ps : Array (Nat × Operand)} {qs : List (Nat × Nat × RO)} {a : Operand → Value} {fr : Fr} (hz : tzero P t = some zl) (hu : P.underlying t = some (.array n e)) (hs : tsize P e = some size)
  (hp : parts (fun i => some (i * size, size)) ps.toList = some qs) (ha : ∀ q ∈ ps.toList, conc ρ (ev (cO q.2) fr) = some (a q.2)) :
  Val P w0 (Instr.build t (ps.map fun (i, x) => (i, a x))) ρ w (rBuild zl qs fr m) := by
 intro x m' hr
 obtain ⟨out, ho, hr⟩ := ob_some hr
 cases hr
 obtain ⟨i, z, hi, hz', hall, hsz, rfl⟩ := tzero_some hz
 obtain ⟨ie, hie, rfl⟩ := tsize_some hs
 obtain ⟨outv, h1, h2, h3⟩ := fill_ok _ ps.toList qs _ out z.cells hp ha (concs_cv1 ρ _ hall) hall ho
 refine ⟨ρ, .agg outv, w, run_build w t _ outv ?_, ?_, Ren.le_refl ρ, h⟩
 ·unfold Program.built
  simp only [hi, hu, hz', hie, Array.toList_map]
  exact h1
 ·simp only [conc, h2, Option.bind_some, h3, if_true]
theorem mapM_places : ∀ (fs : List Field) (k : Nat) (f : Field) (n : Nat), (∀ f ∈ fs, ∃ n, tsize P f.type = some n) → fs[k]? = some f → tsize P f.type = some n →
  ∃ places, fs.mapM (fun f => (P.info? f.type).map fun i => (f.offset, i.size)) = some places ∧ places[k]? = some (f.offset, n)
 | [], k, f, n, _, e, _ => by simp at e
 | g :: fs, k, f, n, hall, e, hn => by
  obtain ⟨n0, h0⟩ := hall g (by simp)
  obtain ⟨i0, hi0, rfl⟩ := tsize_some h0
  have htail : ∃ pl, fs.mapM (fun f => (P.info? f.type).map fun i => (f.offset, i.size)) = some pl := by
   clear e hn
   induction fs with
   | nil => exact ⟨[], rfl⟩
   | cons g' fs ih =>
    obtain ⟨n1, h1⟩ := hall g' (by simp)
    obtain ⟨i1, hi1, _⟩ := tsize_some h1
    obtain ⟨pl, hpl⟩ := ih (fun f hf => hall f (by simp at hf ⊢; rcases hf with rfl | hf <;> simp [*]))
    exact ⟨(g'.offset, i1.size) :: pl, by simp [List.mapM_cons, hi1, hpl]⟩
  obtain ⟨pl, hpl⟩ := htail
  refine ⟨(g.offset, i0.size) :: pl, by simp [List.mapM_cons, hi0, hpl], ?_⟩
  cases k with
  | zero =>
   simp at e; subst e
   obtain ⟨i1, hi1, rfl⟩ := tsize_some hn
   rw [hi0] at hi1; cases hi1
   rfl
  | succ k =>
   simp at e
   obtain ⟨pl', h1, h2⟩ := mapM_places fs k f n (fun f hf => hall f (by simp [hf])) e hn
   rw [hpl] at h1; cases h1
   simpa using h2
theorem val_build_str (h : Sim P w0 ρ m w) {t : Nat} {fs : Array Field} {zl : List AV} {ps : Array (Nat × Operand)} {qs : List (Nat × Nat × RO)} {a : Operand → Value} {fr : Fr} (hz : tzero P t = some zl) (hu : P.underlying t = some (.struct fs))
  (hall' : fs.toList.all (fun f => (tsize P f.type).isSome) = true) (hp : parts (fun i => (fs[i]?).bind fun fd => (tsize P fd.type).map (fd.offset, ·)) ps.toList = some qs) (ha : ∀ q ∈ ps.toList, conc ρ (ev (cO q.2) fr) = some (a q.2)) :
  Val P w0 (Instr.build t (ps.map fun (i, x) => (i, a x))) ρ w (rBuild zl qs fr m) := by
 intro x m' hr
 obtain ⟨out, ho, hr⟩ := ob_some hr
 cases hr
 obtain ⟨i, z, hi, hz', hall, hsz, rfl⟩ := tzero_some hz
 have hall2 : ∀ f ∈ fs.toList, ∃ n, tsize P f.type = some n := fun f hf => Option.isSome_iff_exists.1 ((List.all_eq_true.1 hall') f hf)
 have hex : ∃ places, fs.toList.mapM (fun f => (P.info? f.type).map fun i => (f.offset, i.size)) = some places := by
  cases hl : fs.toList with
  | nil => exact ⟨[], rfl⟩
  | cons f l =>
   obtain ⟨n, hn⟩ := hall2 f (by rw [hl]; simp)
   obtain ⟨pl, h1, _⟩ := mapM_places (P := P) fs.toList 0 f n hall2 (by rw [hl]; rfl) hn
   rw [hl] at h1
   exact ⟨pl, h1⟩
 obtain ⟨places, hpl⟩ := hex
 have hp2 := parts_congr (q := (places.toArray[·]?)) (fun k q hq => by
  simp only [Option.bind_eq_some_iff, Option.map_eq_some_iff] at hq
  obtain ⟨f, hf, n, hn, rfl⟩ := hq
  obtain ⟨pl, h1, h2⟩ := mapM_places (P := P) fs.toList k f n hall2 (by simpa using hf) hn
  rw [hpl] at h1; cases h1
  simpa using h2) _ _ hp
 obtain ⟨outv, h1, h2, h3⟩ := fill_ok _ ps.toList qs _ out z.cells hp2 ha (concs_cv1 ρ _ hall) hall ho
 refine ⟨ρ, .agg outv, w, run_build w t _ outv ?_, ?_, Ren.le_refl ρ, h⟩
 ·unfold Program.built
  simp only [hi, hu, hz', hpl, Array.toList_map]
  exact h1
 ·simp only [conc, h2, Option.bind_some, h3, if_true]
theorem repl_get (zl : List AV) : ∀ (k i : Nat), 0 < zl.length → i < k * zl.length → (repl k zl)[i]? = zl[i % zl.length]?
 | 0, i, _, h => by simp at h
 | k + 1, i, h0, h => by
  simp only [repl]
  by_cases hi : i < zl.length
  ·rw [List.getElem?_append_left hi, Nat.mod_eq_of_lt hi]
  ·rw [List.getElem?_append_right (by omega), repl_get zl k _ h0 (by rw [Nat.succ_mul] at h; omega)]
   congr 1
   rw [← Nat.mod_eq_sub_mod (by omega)]
theorem repl_length (zl : List AV) : ∀ k, (repl k zl).length = k * zl.length
 | 0 => by simp [repl]
 | k + 1 => by simp only [repl, List.length_append, repl_length zl k, Nat.succ_mul]; omega
theorem val_bslice (h : Sim P w0 ρ m w) {t e len size : Nat} {zl : List AV} {ps : Array (Nat × Operand)} {qs : List (Nat × Nat × RO)} {a : Operand → Value} {fr : Fr} (hu : telem P t = some e) (hs : tsize P e = some size) (hz : tzero P e = some zl)
  (hb : Nat.ble (len * size) 16777216 = true) (hp : parts (fun i => some (i * size, size)) ps.toList = some qs) (ha : ∀ q ∈ ps.toList, conc ρ (ev (cO q.2) fr) = some (a q.2)) :
  Val P w0 (Instr.buildSlice t len (ps.map fun (i, x) => (i, a x))) ρ w (rBSlice e len (len * size) zl qs fr m) := by
 intro x m' hr
 obtain ⟨out, ho, hr⟩ := ob_some hr
 cases hr
 obtain ⟨i, z, hi, hz', hall, hsz, rfl⟩ := tzero_some hz
 obtain ⟨i', hi', rfl⟩ := tsize_some hs
 rw [hi] at hi'; cases hi'
 have hb : len * i.size ≤ 16777216 := Nat.le_of_ble_eq_true hb
 have hu := telem_some hu
 have hA : concs ρ (repl len (z.cells.toList.map cv1)) = some ((Array.range (len * i.size)).map (fun j => z.cells[j % z.cells.size]!)).toList := by
  refine concs_of_get (by rw [repl_length]; simp [hsz]) ?_
  intro j h1 h2
  rw [repl_length] at h1
  have hpos : 0 < z.cells.size := by
   rcases Nat.eq_zero_or_pos z.cells.size with h0 | h0
   ·simp [h0] at h1
   ·exact h0
  have hj := repl_get (z.cells.toList.map cv1) len j (by simpa using hpos) h1
  rw [List.getElem?_eq_getElem (by rw [repl_length]; exact h1)] at hj
  have hlt : j % z.cells.size < z.cells.size := Nat.mod_lt _ hpos
  simp only [List.length_map, Array.length_toList, List.getElem?_map, Array.getElem?_toList, Array.getElem?_eq_getElem hlt, Option.map_some, Option.some.injEq] at hj
  rw [hj, conc_cv1 ρ _ ((List.all_eq_true.1 hall) _ (by simp))]
  simp [hlt]
 have hAll : ((Array.range (len * i.size)).map (fun j => z.cells[j % z.cells.size]!)).toList.all Value.oneCell' = true := by
  rw [List.all_eq_true]
  intro u hu'
  simp only [Array.toList_map, List.mem_map] at hu'
  obtain ⟨j, hj, rfl⟩ := hu'
  by_cases h0 : z.cells.size = 0
  ·rw [hsz] at h0; simp [h0] at hj
  ·have hlt : j % z.cells.size < z.cells.size := Nat.mod_lt _ (by omega)
   simp only [hlt, getElem!_pos]
   exact (List.all_eq_true.1 hall) _ (by simp)
 obtain ⟨outv, h1, h2, h3⟩ := fill_ok _ ps.toList qs _ out _ hp ha hA hAll ho
 have hlen : out.length = len * i.size := by
  have key : ∀ (l : List (Nat × Nat × AV)) (c o : List AV), fillA l c = some o → o.length = c.length := by
   intro l
   induction l with
   | nil => intro c o e; simp only [fillA, Option.some.injEq] at e; rw [e]
   | cons q l ih =>
    obtain ⟨off, size, v⟩ := q
    intro c o e
    simp only [fillA] at e
    obtain ⟨cs, _, e⟩ := ob_some e
    obtain ⟨hb, e⟩ := bc_some e
    simp only [Bool.and_eq_true] at hb
    have b1 := Nat.eq_of_beq_eq_true hb.1
    have b2 := Nat.le_of_ble_eq_true hb.2
    rw [ih _ _ e]; simp; omega
  rw [key _ _ _ ho, repl_length]; simp [hsz]
 have hnew := h.newList e out outv.toList outv [] true 0 h2 h3 (fun i _ => by simp) (by simp) (fun _ => rfl) (fun q => by cases q) (len * i.size) hlen.symm
 refine ⟨_, _, _, ?_, newSl, hnew.2, hnew.1⟩
 have h24 : ¬ (16777216 < len * i.size) := by omega
 by_cases h0 : len * i.size = 0
 ·have hr0 : ∀ f : Nat → Value, Array.map f (Array.range 0) = #[] := fun f => by rw [Array.range_zero']; simp
  have h1' : Instr.fill (fun k => some (k * i.size, i.size)) #[] (List.map (fun q => (q.fst, a q.snd)) ps.toList) = some outv := by rw [h0, hr0] at h1; exact h1
  simp [Instr.buildSlice, run_underlying hu, sizeOf, typeInfo, zeroValue, hi, h0, hr0, h1', newRow]
 ·simp [Instr.buildSlice, run_underlying hu, sizeOf, typeInfo, zeroValue, hi, hz', h0, h24, h1, newRow]
theorem Addr.add_mk (b o n : Nat) : (⟨b, o, none⟩ : Addr).add n = ⟨b, o + n, none⟩ := by unfold Addr.add; split <;> simp_all
theorem val_load (h : Sim P w0 ρ m w) {t : Nat} {x : RO} {fr : Fr} {v : Value} (ht : tagg P t = some false) (hv : conc ρ (ev x fr) = some v) : Val P w0 (Instr.loadAt t v) ρ w (rLoad x fr m) := by
 intro y m' hr
 obtain ⟨b, off, hx, hr⟩ := elPtr_none hr
 obtain ⟨z, hz, hr⟩ := ob_some hr
 cases hr
 rw [hx] at hv
 obtain ⟨r, hr1, rfl⟩ := conc_ptr hv
 obtain ⟨r', u, hr2, q1, _, q2⟩ := h.rd hz
 rw [hr1] at hr2; cases hr2
 exact ⟨ρ, u, w, by simp [Instr.loadAt, Instr.sureAddr, loadVar, tagg_some ht, q2], q1, Ren.le_refl ρ, h⟩
theorem val_loadN (h : Sim P w0 ρ m w) {t n : Nat} {x : RO} {fr : Fr} {v : Value} (ht : tagg P t = some true) (hs : tsize P t = some n) (hv : conc ρ (ev x fr) = some v) : Val P w0 (Instr.loadAt t v) ρ w (rLoadN n x fr m) := by
 intro y m' hr
 obtain ⟨b, off, hx, hr⟩ := elPtr_none hr
 obtain ⟨l, hl, hr⟩ := ob_some hr
 cases hr
 rw [hx] at hv
 obtain ⟨r, hr1, rfl⟩ := conc_ptr hv
 obtain ⟨r', us, hr2, q1, q2, q3, q4⟩ := h.rdN hl
 rw [hr1] at hr2; cases hr2
 have hload := run_loadCells_list (P := P) w ⟨r.blk, r.sh + off, none⟩ us (fun j u hj => by rw [Addr.add_mk]; exact q4 j u hj)
 rw [q2] at hload
 exact ⟨ρ, .agg us.toArray, w, by simp [Instr.loadAt, Instr.sureAddr, loadVar, tagg_some ht, run_sizeOf' hs, hload], by simp only [conc, q1, Option.bind_some, q3, if_true], Ren.le_refl ρ, h⟩
theorem val_store (h : Sim P w0 ρ m w) {t n : Nat} {a x : RO} {fr : Fr} {va vx : Value} (hs : tsize P t = some n) (ha : conc ρ (ev a fr) = some va) (hv : conc ρ (ev x fr) = some vx) {y : AV} {m' : M} (hr : rStore n a x fr m = some (y, m')) :
  y = .undef ∧ ∃ w', (Instr.storeAt t va vx).run P w = .ok () w' ∧ Sim P w0 ρ m' w' := by
 obtain ⟨b, off, hx, hr⟩ := elPtr_none hr
 obtain ⟨cs, hcs, hr⟩ := ob_some hr
 obtain ⟨hb, hr⟩ := bc_some hr
 obtain ⟨m2, hm, hr⟩ := ob_some hr
 cases hr
 refine ⟨rfl, ?_⟩
 rw [hx] at ha
 obtain ⟨r, hr1, rfl⟩ := conc_ptr ha
 obtain ⟨q1, q2⟩ := cellsO_some hv hcs
 obtain ⟨r', w', hr2, p1, p2⟩ := h.wr hm q1 q2
 rw [hr1] at hr2; cases hr2
 have hlen := concs_length q1
 have hb := Nat.eq_of_beq_eq_true hb
 simp only [Array.length_toList] at hlen
 have hsz : ¬ (vx.cells.size ≠ n) := by omega
 exact ⟨w', by simp [Instr.storeAt, Instr.sureAddr, storeVar, run_sizeOf' hs, hsz, p1], p2⟩
theorem val_fa (h : Sim P w0 ρ m w) {t i n : Nat} {fd : Field} {x : RO} {fr : Fr} {v : Value} (hf : tfield P t i = some fd) (hn : tsize P fd.type = some n) (h0 : Nat.beq n 0 = false) (hv : conc ρ (ev x fr) = some v) : Val P w0 (Instr.fieldAt t v i) ρ w (rFa fd.offset x fr m) := by
 intro y m' hr
 obtain ⟨b, off, hx, hr⟩ := elPtr_none hr
 rw [fc_eq] at hr
 cases hr
 rw [hx] at hv
 obtain ⟨r, hr1, rfl⟩ := conc_ptr hv
 unfold tfield at hf
 split at hf
 ·rename_i fs hu
  have h0 : n ≠ 0 := fun e => by subst e; simp at h0
  refine ⟨ρ, _, w, ?_, mk_ptr hr1, Ren.le_refl ρ, h⟩
  simp [Instr.fieldAt, run_underlying hu, hf, Instr.sureAddr, fieldPlace, run_sizeOf' hn, h0, Addr.add_mk, Nat.add_assoc]
 ·cases hf
theorem natOf_ok {ρ : Ren} {x : AV} {k : Nat} {v : Value} (h : natOf x = some k) (hv : conc ρ x = some v) : ∃ q, v = .int q (k : Int) := by
 unfold natOf at h
 by_cases hn : ∃ a, x = .n a
 ·obtain ⟨a, rfl⟩ := hn
  cases h
  rw [conc_n] at hv
  cases hv
  exact ⟨_, rfl⟩
 ·have h2 : (match toI x with | some (_, .ofNat a) => some a | _ => none) = some k := by
   cases x <;> first | exact absurd ⟨_, rfl⟩ hn | exact h
  split at h2
  ·rename_i q a hq
   cases h2
   exact ⟨q, toI_conc hq hv⟩
  ·cases h2
theorem val_iaS (h : Sim P w0 ρ m w) {t e size : Nat} {x i : RO} {fr : Fr} {v vi : Value} (hu : P.underlying t = some (.slice e)) (hs : tsize P e = some size) (hv : conc ρ (ev x fr) = some v) (hi : conc ρ (ev i fr) = some vi) : Val P w0 (Instr.indexAt t v vi) ρ w (rIaS size x i fr m) := by
 intro y m' hr
 obtain ⟨b, off, len, cap, lim, hx, hr⟩ := elSl_none hr
 obtain ⟨k, hk, hr⟩ := ob_some hr
 obtain ⟨hb, hr⟩ := bc_some hr
 rw [fc_eq] at hr
 cases hr
 rw [hx] at hv
 obtain ⟨q, rfl⟩ := natOf_ok hk hi
 obtain ⟨r, hr1, rfl⟩ := conc_sl hv
 have hb : k + 1 ≤ len := Nat.le_of_ble_eq_true hb
 have hlt : k < len := by omega
 refine ⟨ρ, _, w, ?_, mk_ptr hr1, Ren.le_refl ρ, h⟩
 simp [Instr.indexAt, run_underlying hu, asIntOf, hlt, run_sizeOf' hs, Addr.add_mk, Nat.add_assoc]
theorem val_iaA (h : Sim P w0 ρ m w) {t e len size : Nat} {x i : RO} {fr : Fr} {v vi : Value} (hu : P.underlying t = some (.array len e)) (hs : tsize P e = some size) (hv : conc ρ (ev x fr) = some v) (hi : conc ρ (ev i fr) = some vi) : Val P w0 (Instr.indexAt t v vi) ρ w (rIaA len size x i fr m) := by
 intro y m' hr
 obtain ⟨b, off, hx, hr⟩ := elPtr_none hr
 obtain ⟨k, hk, hr⟩ := ob_some hr
 obtain ⟨hb, hr⟩ := bc_some hr
 rw [fc_eq] at hr
 cases hr
 rw [hx] at hv
 obtain ⟨q, rfl⟩ := natOf_ok hk hi
 obtain ⟨r, hr1, rfl⟩ := conc_ptr hv
 have hb : k + 1 ≤ len := Nat.le_of_ble_eq_true hb
 have hlt : k < len := by omega
 refine ⟨ρ, _, w, ?_, mk_ptr hr1, Ren.le_refl ρ, h⟩
 simp [Instr.indexAt, run_underlying hu, asIntOf, hlt, run_sizeOf' hs, Addr.add_mk, Nat.add_assoc, Instr.sureAddr]
theorem val_fld (h : Sim P w0 ρ m w) {t i : Nat} {fd : Field} {x : RO} {fr : Fr} {v : Value} (hf : tfield P t i = some fd) (ha : tagg P fd.type = some false) (hv : conc ρ (ev x fr) = some v) : Val P w0 (Instr.field t v i) ρ w (rFld fd.offset x fr m) := by
 intro y m' hr
 obtain ⟨cs, hx, hr⟩ := elAgg_none hr
 obtain ⟨z, hz, hr⟩ := ob_some hr
 cases hr
 rw [hx] at hv
 simp only [conc, Option.bind_eq_some_iff] at hv
 obtain ⟨vs, hvs, hv⟩ := hv
 split at hv
 ·cases hv
  unfold tfield at hf
  split at hf
  ·rename_i fs hu
   obtain ⟨u, q1, q2⟩ := concs_get hvs _ _ hz
   exact ⟨ρ, u, w, by simp [Instr.field, run_underlying hu, hf, asAgg, part, tagg_some ha, q1], q2, Ren.le_refl ρ, h⟩
  ·cases hf
 ·cases hv
theorem val_fldN (h : Sim P w0 ρ m w) {t i n : Nat} {fd : Field} {x : RO} {fr : Fr} {v : Value} (hf : tfield P t i = some fd) (ha : tagg P fd.type = some true) (hn : tsize P fd.type = some n) (hv : conc ρ (ev x fr) = some v) : Val P w0 (Instr.field t v i) ρ w (rFldN fd.offset n x fr m) := by
 intro y m' hr
 obtain ⟨cs, hx, hr⟩ := elAgg_none hr
 cases hr
 rw [hx] at hv
 simp only [conc, Option.bind_eq_some_iff] at hv
 obtain ⟨vs, hvs, hv⟩ := hv
 split at hv
 ·rename_i hall
  cases hv
  unfold tfield at hf
  split at hf
  ·rename_i fs hu
   refine ⟨ρ, .agg ((vs.drop fd.offset).take n).toArray, w, ?_, ?_, Ren.le_refl ρ, h⟩
   ·simp only [Instr.field, Sem.run_bind, run_underlying hu, Result.andThen_ok, hf, asAgg, part, tagg_some ha, run_sizeOf' hn, Sem.run_pure, if_true]
    congr 2
    apply Array.ext'
    simp [List.extract_eq_take_drop, Nat.add_sub_cancel_left]
   ·simp only [conc, concs_take n (concs_drop fd.offset hvs), Option.bind_some]
    rw [if_pos]
    rw [List.all_eq_true] at hall ⊢
    exact fun u hu => hall u (List.mem_of_mem_drop (List.mem_of_mem_take hu))
  ·cases hf
 ·cases hv
theorem val_ixS (h : Sim P w0 ρ m w) {t : Nat} {x i : RO} {fr : Fr} {v vi : Value} (hu : P.underlying t = some .string) (hv : conc ρ (ev x fr) = some v) (hi : conc ρ (ev i fr) = some vi) : Val P w0 (Instr.index t v vi) ρ w (rIxS x i fr m) := by
 intro y m' hr
 obtain ⟨k, hk, hr⟩ := ob_some hr
 obtain ⟨s, hs, hr⟩ := ob_some hr
 obtain ⟨c, hc, hr⟩ := ob_some hr
 cases hr
 have := toS_conc hs hv; subst this
 obtain ⟨q, rfl⟩ := natOf_ok hk hi
 have hc' : s[k]? = some c := by
  have hlt : k < s.data.size := by simpa using (List.getElem?_eq_some_iff.1 hc).1
  have hcc : s.data[k] = c := by simpa using (List.getElem?_eq_some_iff.1 hc).2
  rw [getElem?_pos s k hlt]
  exact congrArg some hcc
 refine ⟨ρ, .int .u8 (c.toNat : Int), w, ?_, conc_y _, Ren.le_refl ρ, h⟩
 simp [Instr.index, run_underlying hu, asIntOf, hc']
theorem val_ext (h : Sim P w0 ρ m w) {i : Nat} {x : RO} {fr : Fr} {v : Value} (hv : conc ρ (ev x fr) = some v) : Val P w0 (Instr.extract v i) ρ w (rExt i x fr m) := by
 intro y m' hr
 obtain ⟨cs, hx, hr⟩ := elTup_none hr
 obtain ⟨z, hz, hr⟩ := ob_some hr
 cases hr
 rw [hx] at hv
 simp only [conc, Option.map_eq_some_iff] at hv
 obtain ⟨vs, hvs, rfl⟩ := hv
 obtain ⟨u, q1, q2⟩ := concs_get hvs _ _ hz
 exact ⟨ρ, u, w, by simp [Instr.extract, q1], q2, Ren.le_refl ρ, h⟩
end
end Go.Am
