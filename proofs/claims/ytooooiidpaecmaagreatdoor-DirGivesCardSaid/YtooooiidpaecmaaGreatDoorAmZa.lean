import Derived.Test.YtooooiidpaecmaaGreatDoorAmZ
/- The abstract machine: how each operation goes, where values are not known. -/
namespace Go.Am
open Go Go.RowKit
section
variable {P : Program} {T : Tb} {fr : Fr} {m : M}
theorem i9 {g : FuncId} {fn : Func} {c : Code} {cc : CC} {nt : Nat} {rs : List ResultVar} (hT : T.fs = O2 P) (hf : P.funcs[g]? = some fn) (hb : fn.body = some c) (hc : j6 P c = cc) (hs : t8 fn.ntmps c = true) (hn : fn.ntmps = nt) (hr : fn.results.toList = rs) : FnAt P T g cc nt rs :=
 ⟨fn, c, by rw [hT]; exact Z9 hf, hb, hc, hs, hn, hr⟩
theorem e5T {β : Type} (d : β) (k : Bool → β) (c : Bool) : elB d k (.b c) = k c := rfl
theorem a0a {β : Type} (d : β) (k : Nat → Nat → β) (b o : Nat) : elPtr d k (.ptr b o) = k b o := rfl
theorem c2r {β : Type} (d : β) (k : List AV → β) (l : List AV) : elTup d k (.tuple l) = k l := rfl
theorem c2f {β : Type} (d : β) (k : List AV → β) (l : List AV) : elAgg d k (.agg l) = k l := rfl
theorem A8 {α β : Type} (a : α) (k : α → Option β) : ob (some a) k = k a := rfl
theorem e5P (v : AV) : rto m (some v) = some (v, m) := rfl
theorem b8r (i : Int) : A3 (iv i) = some [iv i] := by cases i <;> rfl
theorem b8f (l : List UInt8) : A3 (tv l) = some [tv l] := rfl
theorem a75 (l : List AV) : A3 (.agg l) = some l := rfl
theorem b68 (b o : Nat) : A3 (.ptr b o) = some [.ptr b o] := rfl
theorem c3g (c : Bool) : A3 (.b c) = some [.b c] := rfl
theorem b6A : A3 l9 = some [l9] := rfl
theorem d9J (w c : Bool) : D6 w (.b c) = some (bc c w (!w)) := rfl
theorem b6i (w : Bool) : D6 w AV.undef = some false := rfl
theorem b6K (v : AV) (fr : Fr) : l6 none v fr = fr := rfl
theorem a1M (t : Nat) (v : AV) (fr : Fr) : l6 (some (pth t)) v fr = B6 t v fr := rfl
theorem e81 (x : RO) : run (.mv x) fr m = some (ev x fr, m) := rfl
theorem d21 (c x y : RO) : run (.pick c x y) fr m = elB none (fun c => bc c (some (ev x fr, m)) (some (ev y fr, m))) (ev c fr) := rfl
theorem a9w (e n : Nat) (z : List AV) : run (.alloc e n z) fr m = some (.ptr m.next 0, m.addZ e n z) := rfl
theorem e50 (e : TypeId) (x : RO) : run (.box e x) fr m = ob (A3 (ev x fr)) fun cs => some (.ptr m.next 0, m.addL e cs.length cs) := rfl
theorem b9u (z : List AV) (ps : List (Nat × Nat × RO)) : run (.build z ps) fr m = ob (F6 (M3 ps fr) z) fun l => some (.agg l, m) := rfl
theorem b7M (e len n : Nat) (z : List AV) (ps : List (Nat × Nat × RO)) : run (.bslice e len n z ps) fr m = ob (F6 (M3 ps fr) (y4 len z)) fun l => some (.slice m.next 0 len len false, m.addL e n l) := rfl
theorem d9s : M3 [] fr = [] := rfl
theorem c0m (a b : Nat) (x : RO) (l : List (Nat × Nat × RO)) : M3 ((a, b, x) :: l) fr = (a, b, ev x fr) :: M3 l fr := rfl
theorem b60 (l : List AV) : F6 [] l = some l := rfl
theorem b6a (off size : Nat) (v : AV) (rest : List (Nat × Nat × AV)) (cells : List AV) : F6 ((off, size, v) :: rest) cells = ob (A3 v) fun cs => bc (Nat.beq cs.length size && Nat.ble (off + size) cells.length) (F6 rest (cells.take off ++ cs ++ cells.drop (off + size))) none := rfl
theorem d6a (z : List AV) : y4 1 z = z := by show z ++ [] = z; simp
theorem d7f (z : List AV) : y4 2 z = z ++ z := by show z ++ (z ++ []) = _; simp
theorem d26 (x : RO) : run (.load x) fr m = elPtr none (fun b off => rto m (m.rd b off)) (ev x fr) := rfl
theorem c2Q (n : Nat) (x : RO) : run (.loadN n x) fr m = elPtr none (fun b off => ob (m.rdN b off n) fun l => some (.agg l, m)) (ev x fr) := rfl
theorem a8Q (n : Nat) (a x : RO) : run (.store n a x) fr m = elPtr none (fun b off => ob (A3 (ev x fr)) fun cs => bc (Nat.beq cs.length n) (ob (m.wr b off cs) fun m => some (.undef, m)) none) (ev a fr) := rfl
theorem e6x (x : RO) : run (.nil x) fr m = a3i (.cst (ev x fr)) .leaf m := rfl
theorem e6X (b o : Nat) : a3i (.cst (.ptr b o)) .leaf m = some (.ptr b o, m) := rfl
theorem e5X (t : TypeId) (x y : RO) : run (.add (d7 P .add t) x y) fr m = rto m (d7 P .add t (ev x fr) (ev y fr)) := b7i
theorem e6r (t : TypeId) (x y : RO) : run (.sub (d7 P .sub t) x y) fr m = rto m (d7 P .sub t (ev x fr) (ev y fr)) := b62
theorem e58 (t : TypeId) (x y : RO) : run (.mul (d7 P .mul t) x y) fr m = rto m (d7 P .mul t (ev x fr) (ev y fr)) := b6Z
theorem e6O (t : TypeId) (x y : RO) : run (.quo (d7 P .quo t) x y) fr m = rto m (d7 P .quo t (ev x fr) (ev y fr)) := b7e
theorem e6u (t : TypeId) (x y : RO) : run (.rem (d7 P .rem t) x y) fr m = rto m (d7 P .rem t (ev x fr) (ev y fr)) := b65
theorem e7a (t : TypeId) (x y : RO) : run (.lt (d7 P .lss t) x y) fr m = rto m (d7 P .lss t (ev x fr) (ev y fr)) := b76
theorem e7u (t : TypeId) (x y : RO) : run (.le (d7 P .leq t) x y) fr m = rto m (d7 P .leq t (ev x fr) (ev y fr)) := b8s
theorem e8a (t : TypeId) (x y : RO) : run (.gt (d7 P .gtr t) x y) fr m = rto m (d7 P .gtr t (ev x fr) (ev y fr)) := b7R
theorem e7U (t : TypeId) (x y : RO) : run (.ge (d7 P .geq t) x y) fr m = rto m (d7 P .geq t (ev x fr) (ev y fr)) := b74
theorem e7g (t : TypeId) (x y : RO) : run (.eq (d7 P .eql t) x y) fr m = rto m (d7 P .eql t (ev x fr) (ev y fr)) := b8w
theorem e7A (t : TypeId) (x y : RO) : run (.ne (d7 P .neq t) x y) fr m = rto m (d7 P .neq t (ev x fr) (ev y fr)) := b79
theorem e5R (neg : Bool) (sl : SL) (x y : RO) : run (.eqp neg sl x y) fr m = J4 neg sl (.cst (ev x fr)) (.cst (ev y fr)) .leaf m := rfl
theorem b8X (neg : Bool) (sl : SL) (b o : Nat) : J4 neg sl (.cst (.ptr b o)) (.cst l9) .leaf m = rto m (sl (.ptr b o) l9) := rfl
theorem b77 (neg : Bool) (sl : SL) : J4 neg sl (.cst l9) (.cst l9) .leaf m = rto m (sl l9 l9) := rfl
theorem b6s (neg : Bool) (sl : SL) (b o o' : Nat) : J4 neg sl (.cst (.ptr b o)) (.cst (.ptr b o')) .leaf m = rto m (sl (.ptr b o) (.ptr b o')) := by
 show bc (Nat.beq b b) _ _ = _
 rw [Nat.beq_refl]; rfl
theorem e7c (op : UnOp) (x : RO) : run (.un op x) fr m = rto m (unS op (ev x fr)) := rfl
theorem e6i (c : Bool) : unS .not (.b c) = some (.b (!c)) := rfl
noncomputable def a3q (x : AV) (lo hi : Option AV) (m : M) : R := ob (toS x) fun s => ob (bnd hi s.size s.size) fun h => ob (bnd lo 0 h) fun l => some (.p (.string ⟨((s.data.toList.take h).drop l).toArray⟩), m)
theorem e6J (x : RO) (lo hi : Option RO) : run (.sls x lo hi) fr m = a3q (ev x fr) (evo lo fr) (evo hi fr) m := rfl
theorem c8v (l : List UInt8) : (ByteArray.mk l.toArray).size = l.length := by show l.toArray.size = l.length; simp
theorem b8j (l : List UInt8) {b : Nat} (h2 : b ≤ l.length) : a3q (tv l) none (some (iv (b : Int))) m = some (tv (l.take b), m) := by
 unfold a3q
 rw [d8T, A8, c8v, M9 h2, A8]; rfl
theorem f47 (l : List UInt8) {a : Nat} (h1 : a ≤ l.length) : a3q (tv l) (some (iv (a : Int))) none m = some (tv (l.drop a), m) := by
 unfold a3q
 rw [d8T, A8, c8v, a3W, A8, M9 h1]
 show some (AV.p (.string ⟨((l.take l.length).drop a).toArray⟩), m) = _
 rw [List.take_length]; rfl
theorem d1g (sz : Nat) (x h : RO) : run (.sl sz false x none (some h) none) fr m = rSl sz false (.cst (ev x fr)) none (some (.cst (ev h fr))) none .leaf m := rfl
theorem e1C (sz : Nat) (x l : RO) : run (.sl sz false x (some l) none none) fr m = rSl sz false (.cst (ev x fr)) (some (.cst (ev l fr))) none none .leaf m := rfl
noncomputable def faV (off : Nat) (x : AV) (m : M) : R := elPtr none (fun b o => fc (Nat.add o off) fun o => some (.ptr b o, m)) x
theorem e7o (off : Nat) (x : RO) : run (.fa off x) fr m = faV off (ev x fr) m := rfl
theorem e7l (off b o : Nat) : faV off (.ptr b o) m = some (.ptr b (o + off), m) := by unfold faV; rw [a0a, u9]; rfl
theorem e6q (sz : Nat) (x i : RO) : run (.iaS sz x i) fr m = a1z sz (.cst (ev x fr)) (.cst (ev i fr)) .leaf m := rfl
theorem B9 (sz b off len cap : Nat) (lim : Bool) {k : Nat} (h : k < len) : a1z sz (.cst (.slice b off len cap lim)) (.cst (iv (k : Int))) .leaf m = some (.ptr b (off + k * sz), m) := by
 show bc (Nat.ble (Nat.succ k) len) (fc (Nat.add off (Nat.mul k sz)) fun o => some (AV.ptr b o, m)) none = _
 rw [v7, decide_eq_true (by omega), l5, u9]; rfl
theorem e6F (i : Nat) (x : RO) : run (.ext i x) fr m = elTup none (fun vs => rto m vs[i]?) (ev x fr) := rfl
theorem e6A (s : Bool) (x : RO) : run (.len s x) fr m = ob (H0 s (ev x fr)) fun n => some (iv (n : Int), m) := rfl
theorem d6o (l : List UInt8) : H0 true (tv l) = some l.length := by
 show some (ByteArray.mk l.toArray).data.size = _
 simp
theorem b0h (b off len cap : Nat) (lim : Bool) : H0 false (.slice b off len cap lim) = some len := rfl
theorem b8u : H0 false i7 = some 0 := rfl
theorem e6l (e sz bytes : Nat) (z : List AV) (s x : RO) : run (.app e sz bytes z s x) fr m = X9 e sz bytes z (.cst (ev s fr)) (.cst (ev x fr)) .leaf m := rfl
theorem e6Q (x y : RO) : run (.min x y) fr m = a1A (.cst (ev x fr)) (.cst (ev y fr)) .leaf m := rfl
theorem e6e (x y : RO) : run (.max x y) fr m = a1w (.cst (ev x fr)) (.cst (ev y fr)) .leaf m := rfl
theorem e6p (a b : Int) : a1A (.cst (iv a)) (.cst (iv b)) .leaf m = some (iv (min a b), m) := by
 show (ob (toI (iv a)) fun a => ob (toI (iv b)) fun b => some (ofI a.1 (if b.2 < a.2 then b.2 else a.2), m)) = _
 rw [V5, V5]
 show some (iv (if b < a then b else a), m) = _
 congr 3
 omega
theorem e5V (a b : Int) : a1w (.cst (iv a)) (.cst (iv b)) .leaf m = some (iv (max a b), m) := by
 show (ob (toI (iv a)) fun a => ob (toI (iv b)) fun b => some (ofI a.1 (if b.2 > a.2 then b.2 else a.2), m)) = _
 rw [V5, V5]
 show some (iv (if b > a then b else a), m) = _
 congr 3
 omega
theorem G4 (op : BinOp) (t : TypeId) (a b : Int) : d7 P op t (iv a) (iv b) = a2t op .i64 a .i64 b := by
 unfold d7
 rw [V5, V5]
theorem e5Q (t : TypeId) {a b : Int} (h1 : -9223372036854775808 ≤ a + b) (h2 : a + b ≤ 9223372036854775807) : d7 P .add t (iv a) (iv b) = some (iv (a + b)) := by
 rw [G4]
 show some (iv (IntKind.i64.wrap (a + b))) = _
 rw [IntWalk.i64_in _ ⟨h1, h2⟩]
theorem e6h (t : TypeId) {a b : Int} (h1 : -9223372036854775808 ≤ a - b) (h2 : a - b ≤ 9223372036854775807) : d7 P .sub t (iv a) (iv b) = some (iv (a - b)) := by
 rw [G4]
 show some (iv (IntKind.i64.wrap (a - b))) = _
 rw [IntWalk.i64_in _ ⟨h1, h2⟩]
theorem N9 (t : TypeId) {a b : Nat} (h : 0 < b) (h2 : a ≤ 9223372036854775807) : d7 P .quo t (iv (a : Int)) (iv (b : Int)) = some (iv ((a / b : Nat) : Int)) := by
 rw [G4]
 show (if (b : Int) = 0 then none else some (iv (IntKind.i64.wrap ((a : Int).tdiv (b : Int))))) = _
 rw [if_neg (by omega)]
 have e : (a : Int).tdiv (b : Int) = ((a / b : Nat) : Int) := rfl
 have hle : a / b ≤ a := Nat.div_le_self a b
 rw [e]
 generalize a / b = q at hle
 rw [IntWalk.i64_in _ (by omega)]
theorem e7d (t : TypeId) (a b : Int) : d7 P .lss t (iv a) (iv b) = some (.b (decide (a < b))) := by rw [G4]; rfl
theorem e8W (t : TypeId) (a b : Int) : d7 P .leq t (iv a) (iv b) = some (.b (decide (a ≤ b))) := by rw [G4]; rfl
theorem e8N (t : TypeId) (a b : Int) : d7 P .gtr t (iv a) (iv b) = some (.b (decide (b < a))) := by rw [G4]; rfl
theorem e7K (t : TypeId) (a b : Int) : d7 P .geq t (iv a) (iv b) = some (.b (decide (b ≤ a))) := by rw [G4]; rfl
theorem e8L (t : TypeId) (a b : Int) : d7 P .eql t (iv a) (iv b) = some (.b (decide (a = b))) := by
 rw [G4]
 show some (AV.b (a == b)) = _
 congr 2
theorem e63 (t : TypeId) (a b : Int) : d7 P .neq t (iv a) (iv b) = some (.b (!decide (a = b))) := by
 rw [G4]
 show some (AV.b (a != b)) = _
 congr 2
theorem a1T : ∀ (a b : List UInt8), D9 a b = decide (a = b)
 | [], [] => rfl
 | [], _ :: _ => rfl
 | _ :: _, [] => rfl
 | x :: a, y :: b => by
  show (Nat.beq x.toNat y.toNat && D9 a b) = _
  rw [a1T a b, x9]
  by_cases h : x = y
  ·subst h; simp
  ·have : ¬ x.toNat = y.toNat := fun e => h (UInt8.toNat_inj.1 e)
   simp [h, this]
theorem c6i (op : BinOp) (t : TypeId) (a b : List UInt8) : d7 P op t (tv a) (tv b) = a5S op ⟨a.toArray⟩ ⟨b.toArray⟩ := rfl
theorem e6n (t : TypeId) (a b : List UInt8) : d7 P .eql t (tv a) (tv b) = some (.b (decide (a = b))) := by
 rw [c6i]
 show some (AV.b (D9 a b)) = _
 rw [a1T]
theorem e5Z (t : TypeId) (a b : List UInt8) : d7 P .neq t (tv a) (tv b) = some (.b (!decide (a = b))) := by
 rw [c6i]
 show some (AV.b (!D9 a b)) = _
 rw [a1T]
theorem e6g (i : Int) : o8 40 (iv i) (iv i) = true := by cases i <;> simp [iv, cv1, o8, veq]
theorem e6S (l : List UInt8) : o8 40 (tv l) (tv l) = true := by
 show D9 l l = true
 rw [a1T]; simp
theorem g1T {n : Nat} {i : Int} : o8 (n + 1) (iv i) (iv i) = true := by cases i <;> simp [iv, cv1, o8, veq]
theorem g2i {n : Nat} {l : List UInt8} : o8 (n + 1) (tv l) (tv l) = true := by
 show D9 l l = true
 rw [a1T]; simp
theorem SlAt.aq {e sz : Nat} {x : AV} {len : Nat} {cells : List AV} {o : Option Nat} (h : SlAt m e sz x len cells o) : o8 40 x x = true := by
 cases h with
 | nil => rfl
 | row => simp [o8, Nat.beq_refl]
theorem g0k {t : Nat} {fr : Fr} {m : M} : C1 P ⟨fr, m, [], none⟩ [.tmp t] = some [ev (tm t) fr] := rfl
theorem e6w {t u : Nat} {fr : Fr} {m : M} : C1 P ⟨fr, m, [], none⟩ [.tmp t, .tmp u] = some [ev (tm t) fr, ev (tm u) fr] := rfl
theorem e6G : one [] = .tuple [] := rfl
theorem e6V (v : AV) : one [v] = v := rfl
theorem b2e (u v : AV) : one [u, v] = .tuple [u, v] := rfl
theorem a0c {need bytes : Nat} (h : need ≤ 4000000000000) (hb : bytes ≤ 35) : E2 need bytes = true := by
 unfold E2
 rw [v7, v7, v7, decide_eq_true, decide_eq_true (by omega), decide_eq_true (by omega)]
 ·rfl
 ·have := Nat.mul_le_mul h hb
  show need * bytes ≤ 140737488355328
  omega
theorem WpOC.to {g : FuncId} {args : List AV} {m : M} {d : Option (List Bool)} {l : List CO} {fr : Fr} {Q : Fr → M → Prop} (h : WpF P T g args m fun v m1 => WpO P T l (l6 d v fr) m1 Q) : WpOC P T g args m d l fr Q := WpOC.of h fun _ _ h => h
theorem WpTC.to {g : FuncId} {args : List AV} {m : M} {d : Option (List Bool)} {l : List CO} {fr : Fr} {H : List T3} {Q : List T3 → Prop} (h : WpF P T g args m fun v m1 => WpT P T l (l6 d v fr) m1 (H ++ [⟨fr, m, v⟩]) Q) : WpTC P T g args m d l fr H Q := WpTC.of h fun _ _ h => h
theorem b7v : G9 none fr = some true := rfl
theorem e6L (x : RO) : run (.toU x) fr m = a3o (.cst (ev x fr)) .leaf m := rfl
theorem e55 (u s : Nat) (x : RO) : run (.frU u s x) fr m = a3e u s (.cst (ev x fr)) .leaf m := rfl
theorem e6Y (x : RO) : run (.usd x) fr m = a1y (.cst (ev x fr)) .leaf m := rfl
theorem e6K (u : TypeId) (x n : RO) : run (.ust u x n) fr m = b2z u (.cst (ev x fr)) (.cst (ev n fr)) .leaf m := rfl
noncomputable def i5 (l : List UInt8) : List AV := l.map fun c => .y c.toNat
theorem f2Y (l : List UInt8) : M4 (i5 l) = some l := by
 induction l with
 | nil => rfl
 | cons c l ih =>
  show (M4 (i5 l)).map (UInt8.ofNat c.toNat :: ·) = _
  rw [ih]
  simp
theorem d9d (m : M) (l : List UInt8) : Rds m (tv l) 1 l.length (i5 l) := by
 refine ⟨?_, ?_, by simp [i5]⟩
 ·show some (ByteArray.mk l.toArray).data.size = _
  simp
 ·show bc (Nat.beq 1 1) (some ((l.toArray.toList.take l.length).map fun c => AV.y c.toNat)) none = _
  simp [l5, i5]
end
end Go.Am
