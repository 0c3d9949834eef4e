import Derived.Test.YtooooiidpaecmaaGreatAmZ
/- The abstract machine: how each operation goes, where values are not known. -/
namespace Go.Am
open Go Go.RowKit
section
variable {P : Program} {T : Tb} {fr : Fr} {m : M}
theorem fnAt_of {g : FuncId} {fn : Func} {c : Code} {cc : CC} {nt : Nat} {rs : List ResultVar} (hT : T.fs = tabOf P) (hf : P.funcs[g]? = some fn) (hb : fn.body = some c) (hc : comp P c = cc) (hs : slotsB fn.ntmps c = true) (hn : fn.ntmps = nt) (hr : fn.results.toList = rs) : FnAt P T g cc nt rs :=
 ⟨fn, c, by rw [hT]; exact tab_get hf, hb, hc, hs, hn, hr⟩
theorem v_elB {β : Type} (d : β) (k : Bool → β) (c : Bool) : elB d k (.b c) = k c := rfl
theorem v_elPtr {β : Type} (d : β) (k : Nat → Nat → β) (b o : Nat) : elPtr d k (.ptr b o) = k b o := rfl
theorem v_elTup {β : Type} (d : β) (k : List AV → β) (l : List AV) : elTup d k (.tuple l) = k l := rfl
theorem v_elAgg {β : Type} (d : β) (k : List AV → β) (l : List AV) : elAgg d k (.agg l) = k l := rfl
theorem v_ob {α β : Type} (a : α) (k : α → Option β) : ob (some a) k = k a := rfl
theorem v_rto (v : AV) : rto m (some v) = some (v, m) := rfl
theorem cells_iv (i : Int) : cellsO (iv i) = some [iv i] := by cases i <;> rfl
theorem cells_tv (l : List UInt8) : cellsO (tv l) = some [tv l] := rfl
theorem cells_agg (l : List AV) : cellsO (.agg l) = some l := rfl
theorem cells_ptr (b o : Nat) : cellsO (.ptr b o) = some [.ptr b o] := rfl
theorem cells_b (c : Bool) : cellsO (.b c) = some [.b c] := rfl
theorem cells_nilp : cellsO nilp = some [nilp] := rfl
theorem want_b (w c : Bool) : wantV w (.b c) = some (bc c w (!w)) := rfl
theorem want_undef (w : Bool) : wantV w AV.undef = some false := rfl
theorem putD_none (v : AV) (fr : Fr) : putD none v fr = fr := rfl
theorem putD_some (t : Nat) (v : AV) (fr : Fr) : putD (some (pth t)) v fr = fset t v fr := rfl
theorem o_mv (x : RO) : run (.mv x) fr m = some (ev x fr, m) := rfl
theorem o_pick (c x y : RO) : run (.pick c x y) fr m = elB none (fun c => bc c (some (ev x fr, m)) (some (ev y fr, m))) (ev c fr) := rfl
theorem o_alloc (e n : Nat) (z : List AV) : run (.alloc e n z) fr m = some (.ptr m.next 0, m.addZ e n z) := rfl
theorem o_box (e : TypeId) (x : RO) : run (.box e x) fr m = ob (cellsO (ev x fr)) fun cs => some (.ptr m.next 0, m.addL e cs.length cs) := rfl
theorem o_build (z : List AV) (ps : List (Nat × Nat × RO)) : run (.build z ps) fr m = ob (fillA (partVals ps fr) z) fun l => some (.agg l, m) := rfl
theorem o_bslice (e len n : Nat) (z : List AV) (ps : List (Nat × Nat × RO)) : run (.bslice e len n z ps) fr m = ob (fillA (partVals ps fr) (repl len z)) fun l => some (.slice m.next 0 len len false, m.addL e n l) := rfl
theorem pv_nil : partVals [] fr = [] := rfl
theorem pv_cons (a b : Nat) (x : RO) (l : List (Nat × Nat × RO)) : partVals ((a, b, x) :: l) fr = (a, b, ev x fr) :: partVals l fr := rfl
theorem fillA_nil (l : List AV) : fillA [] l = some l := rfl
theorem fillA_cons (off size : Nat) (v : AV) (rest : List (Nat × Nat × AV)) (cells : List AV) : fillA ((off, size, v) :: rest) cells = ob (cellsO v) fun cs => bc (Nat.beq cs.length size && Nat.ble (off + size) cells.length) (fillA rest (cells.take off ++ cs ++ cells.drop (off + size))) none := rfl
theorem repl_1 (z : List AV) : repl 1 z = z := by show z ++ [] = z; simp
theorem repl_2 (z : List AV) : repl 2 z = z ++ z := by show z ++ (z ++ []) = _; simp
theorem o_load (x : RO) : run (.load x) fr m = elPtr none (fun b off => rto m (m.rd b off)) (ev x fr) := rfl
theorem o_loadN (n : Nat) (x : RO) : run (.loadN n x) fr m = elPtr none (fun b off => ob (m.rdN b off n) fun l => some (.agg l, m)) (ev x fr) := rfl
theorem o_store (n : Nat) (a x : RO) : run (.store n a x) fr m = elPtr none (fun b off => ob (cellsO (ev x fr)) fun cs => bc (Nat.beq cs.length n) (ob (m.wr b off cs) fun m => some (.undef, m)) none) (ev a fr) := rfl
theorem o_nil (x : RO) : run (.nil x) fr m = rNil (.cst (ev x fr)) .leaf m := rfl
theorem v_nil (b o : Nat) : rNil (.cst (.ptr b o)) .leaf m = some (.ptr b o, m) := rfl
theorem o_add (t : TypeId) (x y : RO) : run (.add (binS P .add t) x y) fr m = rto m (binS P .add t (ev x fr) (ev y fr)) := quick_add
theorem o_sub (t : TypeId) (x y : RO) : run (.sub (binS P .sub t) x y) fr m = rto m (binS P .sub t (ev x fr) (ev y fr)) := quick_sub
theorem o_mul (t : TypeId) (x y : RO) : run (.mul (binS P .mul t) x y) fr m = rto m (binS P .mul t (ev x fr) (ev y fr)) := quick_mul
theorem o_quo (t : TypeId) (x y : RO) : run (.quo (binS P .quo t) x y) fr m = rto m (binS P .quo t (ev x fr) (ev y fr)) := quick_quo
theorem o_rem (t : TypeId) (x y : RO) : run (.rem (binS P .rem t) x y) fr m = rto m (binS P .rem t (ev x fr) (ev y fr)) := quick_rem
theorem o_lt (t : TypeId) (x y : RO) : run (.lt (binS P .lss t) x y) fr m = rto m (binS P .lss t (ev x fr) (ev y fr)) := quick_lt
theorem o_le (t : TypeId) (x y : RO) : run (.le (binS P .leq t) x y) fr m = rto m (binS P .leq t (ev x fr) (ev y fr)) := quick_le
theorem o_gt (t : TypeId) (x y : RO) : run (.gt (binS P .gtr t) x y) fr m = rto m (binS P .gtr t (ev x fr) (ev y fr)) := quick_gt
theorem o_ge (t : TypeId) (x y : RO) : run (.ge (binS P .geq t) x y) fr m = rto m (binS P .geq t (ev x fr) (ev y fr)) := quick_ge
theorem o_eq (t : TypeId) (x y : RO) : run (.eq (binS P .eql t) x y) fr m = rto m (binS P .eql t (ev x fr) (ev y fr)) := quick_eq
theorem o_ne (t : TypeId) (x y : RO) : run (.ne (binS P .neq t) x y) fr m = rto m (binS P .neq t (ev x fr) (ev y fr)) := quick_ne
theorem o_eqp (neg : Bool) (sl : SL) (x y : RO) : run (.eqp neg sl x y) fr m = rEqP neg sl (.cst (ev x fr)) (.cst (ev y fr)) .leaf m := rfl
theorem v_eqp_n (neg : Bool) (sl : SL) (b o : Nat) : rEqP neg sl (.cst (.ptr b o)) (.cst nilp) .leaf m = rto m (sl (.ptr b o) nilp) := rfl
theorem v_eqp_nn (neg : Bool) (sl : SL) : rEqP neg sl (.cst nilp) (.cst nilp) .leaf m = rto m (sl nilp nilp) := rfl
theorem v_eqp_same (neg : Bool) (sl : SL) (b o o' : Nat) : rEqP neg sl (.cst (.ptr b o)) (.cst (.ptr b o')) .leaf m = rto m (sl (.ptr b o) (.ptr b o')) := by
 show bc (Nat.beq b b) _ _ = _
 rw [Nat.beq_refl]; rfl
theorem o_un (op : UnOp) (x : RO) : run (.un op x) fr m = rto m (unS op (ev x fr)) := rfl
theorem v_not (c : Bool) : unS .not (.b c) = some (.b (!c)) := rfl
noncomputable def slsV (x : AV) (lo hi : Option AV) (m : M) : R := ob (toS x) fun s => ob (bnd hi s.size s.size) fun h => ob (bnd lo 0 h) fun l => some (.p (.string ⟨((s.data.toList.take h).drop l).toArray⟩), m)
theorem o_sls (x : RO) (lo hi : Option RO) : run (.sls x lo hi) fr m = slsV (ev x fr) (evo lo fr) (evo hi fr) m := rfl
theorem o_take (sz : Nat) (x h : RO) : run (.sl sz false x none (some h) none) fr m = rSl sz false (.cst (ev x fr)) none (some (.cst (ev h fr))) none .leaf m := rfl
theorem o_drop (sz : Nat) (x l : RO) : run (.sl sz false x (some l) none none) fr m = rSl sz false (.cst (ev x fr)) (some (.cst (ev l fr))) none none .leaf m := rfl
noncomputable def faV (off : Nat) (x : AV) (m : M) : R := elPtr none (fun b o => fc (Nat.add o off) fun o => some (.ptr b o, m)) x
theorem o_fa (off : Nat) (x : RO) : run (.fa off x) fr m = faV off (ev x fr) m := rfl
theorem v_fa (off b o : Nat) : faV off (.ptr b o) m = some (.ptr b (o + off), m) := by unfold faV; rw [v_elPtr, fc_eq]; rfl
theorem o_iaS (sz : Nat) (x i : RO) : run (.iaS sz x i) fr m = rIaS sz (.cst (ev x fr)) (.cst (ev i fr)) .leaf m := rfl
theorem v_iaS (sz b off len cap : Nat) (lim : Bool) {k : Nat} (h : k < len) : rIaS sz (.cst (.slice b off len cap lim)) (.cst (iv (k : Int))) .leaf m = some (.ptr b (off + k * sz), m) := by
 show bc (Nat.ble (Nat.succ k) len) (fc (Nat.add off (Nat.mul k sz)) fun o => some (AV.ptr b o, m)) none = _
 rw [nble, decide_eq_true (by omega), bc_true, fc_eq]; rfl
theorem o_ext (i : Nat) (x : RO) : run (.ext i x) fr m = elTup none (fun vs => rto m vs[i]?) (ev x fr) := rfl
theorem o_len (s : Bool) (x : RO) : run (.len s x) fr m = ob (lenK s (ev x fr)) fun n => some (iv (n : Int), m) := rfl
theorem len_tv (l : List UInt8) : lenK true (tv l) = some l.length := by
 show some (ByteArray.mk l.toArray).data.size = _
 simp
theorem len_sl (b off len cap : Nat) (lim : Bool) : lenK false (.slice b off len cap lim) = some len := rfl
theorem len_nils : lenK false nils = some 0 := rfl
theorem o_app (e sz bytes : Nat) (z : List AV) (s x : RO) : run (.app e sz bytes z s x) fr m = rApp e sz bytes z (.cst (ev s fr)) (.cst (ev x fr)) .leaf m := rfl
theorem o_min (x y : RO) : run (.min x y) fr m = rMin (.cst (ev x fr)) (.cst (ev y fr)) .leaf m := rfl
theorem o_max (x y : RO) : run (.max x y) fr m = rMax (.cst (ev x fr)) (.cst (ev y fr)) .leaf m := rfl
theorem v_min (a b : Int) : rMin (.cst (iv a)) (.cst (iv b)) .leaf m = some (iv (min a b), m) := by
 show (ob (toI (iv a)) fun a => ob (toI (iv b)) fun b => some (ofI a.1 (if b.2 < a.2 then b.2 else a.2), m)) = _
 rw [toI_iv, toI_iv]
 show some (iv (if b < a then b else a), m) = _
 congr 3
 omega
theorem v_max (a b : Int) : rMax (.cst (iv a)) (.cst (iv b)) .leaf m = some (iv (max a b), m) := by
 show (ob (toI (iv a)) fun a => ob (toI (iv b)) fun b => some (ofI a.1 (if b.2 > a.2 then b.2 else a.2), m)) = _
 rw [toI_iv, toI_iv]
 show some (iv (if b > a then b else a), m) = _
 congr 3
 omega
theorem binS_iv (op : BinOp) (t : TypeId) (a b : Int) : binS P op t (iv a) (iv b) = intAll op .i64 a .i64 b := by
 unfold binS
 rw [toI_iv, toI_iv]
theorem b_add (t : TypeId) {a b : Int} (h1 : -9223372036854775808 ≤ a + b) (h2 : a + b ≤ 9223372036854775807) : binS P .add t (iv a) (iv b) = some (iv (a + b)) := by
 rw [binS_iv]
 show some (iv (IntKind.i64.wrap (a + b))) = _
 rw [IntWalk.i64_in _ ⟨h1, h2⟩]
theorem b_sub (t : TypeId) {a b : Int} (h1 : -9223372036854775808 ≤ a - b) (h2 : a - b ≤ 9223372036854775807) : binS P .sub t (iv a) (iv b) = some (iv (a - b)) := by
 rw [binS_iv]
 show some (iv (IntKind.i64.wrap (a - b))) = _
 rw [IntWalk.i64_in _ ⟨h1, h2⟩]
theorem b_quo (t : TypeId) {a b : Nat} (h : 0 < b) (h2 : a ≤ 9223372036854775807) : binS P .quo t (iv (a : Int)) (iv (b : Int)) = some (iv ((a / b : Nat) : Int)) := by
 rw [binS_iv]
 show (if (b : Int) = 0 then none else some (iv (IntKind.i64.wrap ((a : Int).tdiv (b : Int))))) = _
 rw [if_neg (by omega)]
 have e : (a : Int).tdiv (b : Int) = ((a / b : Nat) : Int) := rfl
 have hle : a / b ≤ a := Nat.div_le_self a b
 rw [e]
 generalize a / b = q at hle
 rw [IntWalk.i64_in _ (by omega)]
theorem b_lt (t : TypeId) (a b : Int) : binS P .lss t (iv a) (iv b) = some (.b (decide (a < b))) := by rw [binS_iv]; rfl
theorem b_le (t : TypeId) (a b : Int) : binS P .leq t (iv a) (iv b) = some (.b (decide (a ≤ b))) := by rw [binS_iv]; rfl
theorem b_gt (t : TypeId) (a b : Int) : binS P .gtr t (iv a) (iv b) = some (.b (decide (b < a))) := by rw [binS_iv]; rfl
theorem b_ge (t : TypeId) (a b : Int) : binS P .geq t (iv a) (iv b) = some (.b (decide (b ≤ a))) := by rw [binS_iv]; rfl
theorem b_eq (t : TypeId) (a b : Int) : binS P .eql t (iv a) (iv b) = some (.b (decide (a = b))) := by
 rw [binS_iv]
 show some (AV.b (a == b)) = _
 congr 2
theorem b_ne (t : TypeId) (a b : Int) : binS P .neq t (iv a) (iv b) = some (.b (!decide (a = b))) := by
 rw [binS_iv]
 show some (AV.b (a != b)) = _
 congr 2
theorem lbeq_dec : ∀ (a b : List UInt8), lbeq a b = decide (a = b)
 | [], [] => rfl
 | [], _ :: _ => rfl
 | _ :: _, [] => rfl
 | x :: a, y :: b => by
  show (Nat.beq x.toNat y.toNat && lbeq a b) = _
  rw [lbeq_dec a b, nbeq]
  by_cases h : x = y
  ·subst h; simp
  ·have : ¬ x.toNat = y.toNat := fun e => h (UInt8.toNat_inj.1 e)
   simp [h, this]
theorem binS_tv (op : BinOp) (t : TypeId) (a b : List UInt8) : binS P op t (tv a) (tv b) = strOp op ⟨a.toArray⟩ ⟨b.toArray⟩ := rfl
theorem bs_eq (t : TypeId) (a b : List UInt8) : binS P .eql t (tv a) (tv b) = some (.b (decide (a = b))) := by
 rw [binS_tv]
 show some (AV.b (lbeq a b)) = _
 rw [lbeq_dec]
theorem bs_ne (t : TypeId) (a b : List UInt8) : binS P .neq t (tv a) (tv b) = some (.b (!decide (a = b))) := by
 rw [binS_tv]
 show some (AV.b (!lbeq a b)) = _
 rw [lbeq_dec]
theorem aq_iv (i : Int) : aveq 40 (iv i) (iv i) = true := by cases i <;> simp [iv, cv1, aveq, veq]
theorem aq_tv (l : List UInt8) : aveq 40 (tv l) (tv l) = true := by
 show lbeq l l = true
 rw [lbeq_dec]; simp
theorem SlAt.aq {e sz : Nat} {x : AV} {len : Nat} {cells : List AV} {o : Option Nat} (h : SlAt m e sz x len cells o) : aveq 40 x x = true := by
 cases h with
 | nil => rfl
 | row => simp [aveq, Nat.beq_refl]
theorem ares1 {t : Nat} {fr : Fr} {m : M} : ares P ⟨fr, m, [], none⟩ [.tmp t] = some [ev (tm t) fr] := rfl
theorem ares2 {t u : Nat} {fr : Fr} {m : M} : ares P ⟨fr, m, [], none⟩ [.tmp t, .tmp u] = some [ev (tm t) fr, ev (tm u) fr] := rfl
theorem one_0 : one [] = .tuple [] := rfl
theorem one_1 (v : AV) : one [v] = v := rfl
theorem one_2 (u v : AV) : one [u, v] = .tuple [u, v] := rfl
theorem room_of {need bytes : Nat} (h : need ≤ 4000000000000) (hb : bytes ≤ 35) : room need bytes = true := by
 unfold room
 rw [nble, nble, nble, decide_eq_true, decide_eq_true (by omega), decide_eq_true (by omega)]
 ·rfl
 ·have := Nat.mul_le_mul h hb
  show need * bytes ≤ 140737488355328
  omega
theorem WpOC.to {g : FuncId} {args : List AV} {m : M} {d : Option (List Bool)} {l : List CO} {fr : Fr} {Q : Fr → M → Prop} (h : WpF P T g args m fun v m1 => WpO P T l (putD d v fr) m1 Q) : WpOC P T g args m d l fr Q := WpOC.of h fun _ _ h => h
theorem WpTC.to {g : FuncId} {args : List AV} {m : M} {d : Option (List Bool)} {l : List CO} {fr : Fr} {H : List T3} {Q : List T3 → Prop} (h : WpF P T g args m fun v m1 => WpT P T l (putD d v fr) m1 (H ++ [⟨fr, m, v⟩]) Q) : WpTC P T g args m d l fr H Q := WpTC.of h fun _ _ h => h
theorem want_none : want none fr = some true := rfl
theorem o_toU (x : RO) : run (.toU x) fr m = rToU (.cst (ev x fr)) .leaf m := rfl
theorem o_frU (u s : Nat) (x : RO) : run (.frU u s x) fr m = rFrU u s (.cst (ev x fr)) .leaf m := rfl
theorem o_usd (x : RO) : run (.usd x) fr m = rUsd (.cst (ev x fr)) .leaf m := rfl
theorem o_ust (u : TypeId) (x n : RO) : run (.ust u x n) fr m = rUst u (.cst (ev x fr)) (.cst (ev n fr)) .leaf m := rfl
noncomputable def ycells (l : List UInt8) : List AV := l.map fun c => .y c.toNat
theorem bytesUp_y (l : List UInt8) : bytesUp (ycells l) = some l := by
 induction l with
 | nil => rfl
 | cons c l ih =>
  show (bytesUp (ycells l)).map (UInt8.ofNat c.toNat :: ·) = _
  rw [ih]
  simp
theorem src_tv (m : M) (l : List UInt8) : Rds m (tv l) 1 l.length (ycells l) := by
 refine ⟨?_, ?_, by simp [ycells]⟩
 ·show some (ByteArray.mk l.toArray).data.size = _
  simp
 ·show bc (Nat.beq 1 1) (some ((l.toArray.toList.take l.length).map fun c => AV.y c.toNat)) none = _
  simp [bc_true, ycells]
end
end Go.Am
