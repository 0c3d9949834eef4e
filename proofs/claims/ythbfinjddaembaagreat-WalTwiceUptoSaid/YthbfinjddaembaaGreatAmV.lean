import Derived.Test.YthbfinjddaembaaGreatAmS
import Derived.Lib.SlMapMerge
import Derived.Maps.RangeWalk
/- The abstract machine: maps.Copy, whose result is known ahead (the kit's shelf). -/
namespace Go.Am
open Go Go.RowKit Go.MapKept Go.WideShapes
section
variable {P : Program} {w0 : World} {ρ : Ren} {m : M} {w : World}
/-- How a value reads: as itself. -/
def selfR (v : Value) : Option (DataW Value × List MemPlace) := some (.held v, [])
/-- The function g is maps.Copy; kt: the keys' type, an int. -/
structure CopyMaps (P : Program) (g : FuncId) (kt : TypeId) : Prop where
  key : P.underlying kt = some (.int .i64)
  enters : ∀ (args : Array Value) (w : World), (callFunc g args).run P w = .ok (.enter g args) w
  copy : ∀ (bd nd : Nat) (bs ns : Nat) (Dd Ds : DataW Value) (W : World), W.ownsMap P kt selfR bd nd Dd → W.ownsMap P kt selfR bs ns Ds → bd ≠ bs → nd + Maps.size Ds ≤ maxLen →
    Calls P g #[.map (some bd), .map (some bs)] W fun e w' => e = .returned (.tuple #[]) ∧ w'.ownsMap P kt selfR bd (nd + Maps.size Ds) (Lib.mergeD Dd Ds) ∧ W.grownBy w' (some bd)
/-! ### Lists of keys and values -/
def intV (v : Value) : Int := match v with
  | .int _ i => i
  | _ => 0
def pickP (ks : List Int) (q : Value × Value) : Bool := ks.all fun k => !decide (k = intV q.1)
noncomputable section
def pickN (ks : List Int) : List (AV × AV) → List (AV × AV)
  | [] => []
  | e :: l => match keyI e.1 with
    | some i => bc (ks.all fun k => !decide (k = i)) (e :: pickN ks l) (pickN ks l)
    | none => pickN ks l
/-- What is copied, and what stays of the map that it is copied to. -/
def mergeA (ed es : List (AV × AV)) : Option (List (AV × AV)) := ob (keysI es) fun ks => ob (keysI ed) fun kd => bc (ks.all inI64 && (kd.all inI64 && (Nat.ble ks.length 1000000 && Nat.ble kd.length 1000000))) (some (es ++ pickN ks ed)) none
def copyIt (args : List AV) (m : M) : Option R := match args with
  | [.map bd, .map bs] => some (bc (Nat.beq bd bs) none (ob (m.mapF bd) fun q => ob (m.mapF bs) fun s => ob (mergeA q.1 s.1) fun es => some (.tuple [], m.put bd (.obj (.map es none)))))
  | _ => none
end
theorem keyI_int {x : AV} {i : Int} {v : Value} (h : keyI x = some i) (hv : conc ρ x = some v) : intV v = i := by rw [keyI_conc h hv]; rfl
theorem pickN_ok {ks : List Int} : ∀ {ed : List (AV × AV)} {kd : List Int} {kvs : List (Value × Value)}, keysI ed = some kd → concs ρ (ed.map (·.1)) = some (kvs.map (·.1)) → concs ρ (ed.map (·.2)) = some (kvs.map (·.2)) →
    concs ρ ((pickN ks ed).map (·.1)) = some ((kvs.filter (pickP ks)).map (·.1)) ∧ concs ρ ((pickN ks ed).map (·.2)) = some ((kvs.filter (pickP ks)).map (·.2))
  | [], kd, kvs, _, h1, _ => by
    cases kvs with
    | nil => exact ⟨concs_nil ρ, concs_nil ρ⟩
    | cons a l => simp [concs_nil] at h1
  | e :: ed, kd, [], _, h1, _ => by
    obtain ⟨_, _, _, _, h⟩ := concs_cons.1 h1
    simp at h
  | e :: ed, kd, (d1, d2) :: kvs, hk, h1, h2 => by
    obtain ⟨u, us, p1, p2, p3⟩ := concs_cons.1 h1
    obtain ⟨x, xs, q1, q2, q3⟩ := concs_cons.1 h2
    simp only [List.map_cons, List.cons.injEq] at p3 q3
    obtain ⟨rfl, rfl⟩ := p3
    obtain ⟨rfl, rfl⟩ := q3
    unfold keysI at hk
    split at hk
    · rename_i i r hi hr
      obtain ⟨ih1, ih2⟩ := pickN_ok (ks := ks) hr p2 q2
      have hiv := keyI_int hi p1
      have hp : pickP ks (d1, d2) = ks.all fun k => !decide (k = i) := by unfold pickP; rw [hiv]
      unfold pickN
      simp only [hi]
      rw [List.filter_cons, hp]
      cases ks.all fun k => !decide (k = i) with
      | true => exact ⟨concs_cons.2 ⟨_, _, p1, ih1, rfl⟩, concs_cons.2 ⟨_, _, q1, ih2, rfl⟩⟩
      | false => exact ⟨ih1, ih2⟩
    · cases hk
def kvE (e : MapEntry) : Value × Value := (e.key, e.val)
def inv (p : Lit × DataW Value) : Value × Value := (match p.1 with | .int q i => .int q i | _ => undef, match p.2 with | .held v => v | _ => undef)
/-- Ds laid into Dd: as lists. -/
theorem merge_perm : ∀ (s l : List (Lit × DataW Value)), s.Pairwise (fun p q => p.1 ≠ q.1) → ∃ l', s.foldl (fun D p => DataW.put D p.1 p.2) (.map l) = .map l' ∧ l'.Perm (s ++ l.filter fun p => s.all fun q => !p.1.sameKey q.1)
  | [], l, _ => ⟨l, rfl, by
    have : (l.filter fun p => ([] : List (Lit × DataW Value)).all fun q => !p.1.sameKey q.1) = l := List.filter_eq_self.2 fun _ _ => rfl
    rw [this]; exact .refl _⟩
  | a :: s, l, hp => by
    obtain ⟨h1, h2⟩ := List.pairwise_cons.1 hp
    obtain ⟨l', h3, h4⟩ := merge_perm s (DataW.insert (a.1, a.2) (l.filter fun p => !p.1.sameKey a.1)) h2
    refine ⟨l', h3, h4.trans ?_⟩
    have e1 := (insert_perm (a.1, a.2) (l.filter fun p => !p.1.sameKey a.1)).filter (fun p => s.all fun q => !p.1.sameKey q.1)
    have e2 : (s.all fun q => !a.1.sameKey q.1) = true := by
      rw [List.all_eq_true]
      intro q hq
      rw [Maps.sameKey_ne (h1 q hq)]
      rfl
    rw [List.filter_cons_of_pos (by exact e2), List.filter_filter] at e1
    have e3 : (l.filter fun p => (s.all fun q => !p.1.sameKey q.1) && !p.1.sameKey a.1) = l.filter fun p => (a :: s).all fun q => !p.1.sameKey q.1 := by
      congr 1
      funext p
      rw [List.all_cons, Bool.and_comm]
    rw [e3] at e1
    refine (List.Perm.append_left s e1).trans ?_
    exact List.perm_middle
/-! ### The table: slices.Sorted over maps' keys, and maps.Copy -/
noncomputable def libTb (P : Program) (g et : Nat) (kfs cps : List Nat) : Tb := ⟨tabOf P, fun g' args m => bc (Nat.beq g' g) (sortedOf et args m kfs) (bc (cps.any (Nat.beq g')) (copyIt args m) none)⟩
end
end Go.Am
