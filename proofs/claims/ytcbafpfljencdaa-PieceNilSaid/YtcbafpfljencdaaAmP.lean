import Derived.Test.YtcbafpfljencdaaAmO
/- The abstract machine: code and calls. -/
namespace Go.Am
open Go Go.RowKit
section
variable {P : Program} {w0 : World}

/-! ### Steps -/
section
variable {B : Frame} {tmps : Array Value} {k : List Item} {cs : List Frame} {w : World}
theorem st_skip : step P (lone (mk B tmps (.code .skip :: k)) cs w) = .next (lone (mk B tmps k) cs w) := step_lone_go (by simp [stepG, stepG.exec, mk])
theorem st_label {l : Nat} : step P (lone (mk B tmps (.code (.label l) :: k)) cs w) = .next (lone (mk B tmps k) cs w) := step_lone_go (by simp [stepG, stepG.exec, mk])
theorem st_inBlock {id : Nat} : step P (lone (mk B tmps (.inBlock id :: k)) cs w) = .next (lone (mk B tmps k) cs w) := step_lone_go (by simp [stepG, stepG.exec, mk])
theorem st_inScope {c : Code} : step P (lone (mk B tmps (.inScope c :: k)) cs w) = .next (lone (mk B tmps k) cs w) := step_lone_go (by simp [stepG, stepG.exec, mk])
theorem st_seq {x y : Code} : step P (lone (mk B tmps (.code (.seq x y) :: k)) cs w) = .next (lone (mk B tmps (.code x :: .code y :: k)) cs w) := step_lone_go (by simp [stepG, stepG.exec, mk])
theorem st_cond {c : Operand} {x y : Code} {t : Bool} (h : (mk B tmps (.code (.cond c x y) :: k)).eval c = .bool t) :
    step P (lone (mk B tmps (.code (.cond c x y) :: k)) cs w) = .next (lone (mk B tmps (.code (if t then x else y) :: k)) cs w) :=
  step_lone_go (by simp only [mk] at h; simp [stepG, stepG.exec, mk, h])
theorem st_block {id : Nat} {c : Code} : step P (lone (mk B tmps (.code (.block id c) :: k)) cs w) = .next (lone (mk B tmps (.code c :: .inBlock id :: k)) cs w) := step_lone_go (by simp [stepG, stepG.exec, mk])
theorem st_loop {c : Code} : step P (lone (mk B tmps (.code (.loop c) :: k)) cs w) = .next (lone (mk B tmps (.code c :: .inLoop c :: k)) cs w) := step_lone_go (by simp [stepG, stepG.exec, mk])
theorem st_inLoop {c : Code} : step P (lone (mk B tmps (.inLoop c :: k)) cs w) = .next (lone (mk B tmps (.code c :: .inLoop c :: k)) cs w) := step_lone_go (by simp [stepG, stepG.exec, mk])
theorem st_scope {c : Code} : step P (lone (mk B tmps (.code (.scope c) :: k)) cs w) = .next (lone (mk B tmps (.code c :: .inScope c :: k)) cs w) := step_lone_go (by simp [stepG, stepG.exec, mk])
theorem st_exit {id : Nat} {k' : List Item} (h : exitTo id k = some k') : step P (lone (mk B tmps (.code (.exit id) :: k)) cs w) = .next (lone (mk B tmps k') cs w) := step_lone_go (by simp [stepG, stepG.exec, mk, h])
theorem st_goto {l : Nat} {k' : List Item} (h : gotoIn l k = some k') : step P (lone (mk B tmps (.code (.goto l) :: k)) cs w) = .next (lone (mk B tmps k') cs w) := step_lone_go (by simp [stepG, stepG.exec, mk, h])
theorem st_region {id : Nat} {ops : Array Oper} : step P (lone (mk B tmps (.code (.region id ops false) :: k)) cs w) = .next (lone (mk B tmps (.inRegion ops (List.range ops.size) :: k)) cs w) := step_lone_go (by simp [stepG, stepG.exec, mk])
theorem st_region_draw {id : Nat} {ops : Array Oper} : step P (lone (mk B tmps (.code (.region id ops true) :: k)) cs w) = .next (lone (mk B tmps (.inRegion ops (Region.schedule (P.follows .mixedOrders) ops (w.tape w.drawn (.order B.fn id))) :: k)) cs { w with drawn := w.drawn + 1 }) :=
  step_lone_go (by simp [stepG, stepG.exec, mk, choose, Sem.run, Question.forced, Question.cut])
theorem st_region_end {ops : Array Oper} : step P (lone (mk B tmps (.inRegion ops [] :: k)) cs w) = .next (lone (mk B tmps k) cs w) := step_lone_go (by simp [stepG, stepG.exec, mk])
theorem st_end (h : B.roundOf = none) : step P (lone (mk B tmps []) cs w) = .next (lone { mk B tmps [] with mode := .returning } cs w) := step_lone_go (by simp [stepG, stepG.exec, mk, h])
theorem st_ret (h : B.roundOf = none) : step P (lone (mk B tmps (.code .ret :: k)) cs w) = .next (lone { mk B tmps (.code .ret :: k) with mode := .returning } cs w) := step_lone_go (by simp [stepG, stepG.exec, mk, h])
end

/-! ### Code -/
def items : K → List Item
  | .c c => [.code c]
  | .sc body rest => [.code rest, .inScope body]
def slotsK (n : Nat) : K → Bool
  | .c c => slotsB n c
  | .sc body rest => slotsB n body && slotsB n rest
/-- What a part's end leaves to do, with k behind it. -/
def Arr (k : List Item) : X → List Item → Prop
  | .normal, todo => todo = k
  | .exit id, todo => ∃ s, todo = .code (.exit id) :: s ∧ exitTo id s = exitTo id k
  | .goto l, todo => ∃ s, todo = .code (.goto l) :: s ∧ gotoIn l s = gotoIn l k
  | .ret, todo => ∃ s, todo = .code .ret :: s

/-- What a part comes to. -/
def Lands (P : Program) (w0 : World) (N : Nat) (B : Frame) (cs : List Frame) (ρ : Ren) (m : Machine) (k : List Item) (x : X) (st : St) : Prop :=
  ∃ ρ' tmps' w' todo', Steps P m (lone (mk B tmps' todo') cs w') ∧ Arr k x todo' ∧ FrRel ρ' st.fr tmps' ∧ tmps'.size = N ∧ ρ.le ρ' ∧ Sim P w0 ρ' st.m w'
def ExOk (P : Program) (w0 : World) (ih : Ex) : Prop :=
  ∀ (N : Nat) (K : K) (st : St) (x : X) (st' : St), ih K st = some (x, st') → slotsK N K = true → ∀ (B : Frame) (k : List Item) (cs : List Frame) (ρ : Ren) (w : World) (tmps : Array Value),
    Sim P w0 ρ st.m w → FrRel ρ st.fr tmps → tmps.size = N → Lands P w0 N B cs ρ (lone (mk B tmps (items K ++ k)) cs w) k x st'

theorem Lands.head {N : Nat} {B : Frame} {cs : List Frame} {ρ ρ' : Ren} {m m' : Machine} {k : List Item} {x : X} {st : St} (h : Steps P m m') (hle : ρ.le ρ') (hl : Lands P w0 N B cs ρ' m' k x st) : Lands P w0 N B cs ρ m k x st := by
  obtain ⟨ρ2, t, w', todo, h1, h2, h3, h4, h5, h6⟩ := hl
  exact ⟨ρ2, t, w', todo, h.trans h1, h2, h3, h4, Ren.le_trans hle h5, h6⟩
theorem Lands.stay {N : Nat} {B : Frame} {cs : List Frame} {ρ : Ren} {k : List Item} {x : X} {st : St} {tmps : Array Value} {w : World} {todo : List Item} {m : Machine} (hs : Steps P m (lone (mk B tmps todo) cs w)) (ha : Arr k x todo) (h : Sim P w0 ρ st.m w) (hf : FrRel ρ st.fr tmps) (hn : tmps.size = N) : Lands P w0 N B cs ρ m k x st :=
  ⟨ρ, tmps, w, todo, hs, ha, hf, hn, ρ.le_refl, h⟩
/-- Behind a part comes an item that jumps pass by. -/
theorem Arr.pass {it : Item} {k : List Item} {x : X} {todo : List Item} (h : Arr (it :: k) x todo) (hx : x ≠ .normal) (he : ∀ id, x = .exit id → exitTo id (it :: k) = exitTo id k) (hg : ∀ l, x = .goto l → gotoIn l (it :: k) = gotoIn l k) : Arr k x todo := by
  cases x with
  | normal => exact absurd rfl hx
  | exit id => obtain ⟨s, h1, h2⟩ := h; exact ⟨s, h1, h2.trans (he id rfl)⟩
  | goto l => obtain ⟨s, h1, h2⟩ := h; exact ⟨s, h1, h2.trans (hg l rfl)⟩
  | ret => exact h

theorem Lands.again {N : Nat} {B : Frame} {cs : List Frame} {ρ : Ren} {k : List Item} {x : X} {st : St} {t : Array Value} {b : Code} {w : World} (h : Lands P w0 N B cs ρ (lone (mk B t (.code (.loop b) :: k)) cs w) k x st) : Lands P w0 N B cs ρ (lone (mk B t (.inLoop b :: k)) cs w) k x st := by
  obtain ⟨ρ2, t2, w', todo, ⟨n, hn⟩, h2, h3, h4, h5, h6⟩ := h
  cases n with
  | zero =>
    have e : (.code (.loop b) :: k) = todo := by
      simp only [runN, Stepped.next.injEq] at hn
      have e2 := congrArg (fun m : Machine => (m.gs[0]?).map fun g => g.frame.todo) hn
      simpa [lone, mk] using e2
    subst e
    cases x with
    | normal => exact absurd h2 (by intro e; have := congrArg List.length e; simp at this)
    | exit id => obtain ⟨s, e, _⟩ := h2; cases e
    | goto l => obtain ⟨s, e, _⟩ := h2; cases e
    | ret => obtain ⟨s, e⟩ := h2; cases e
  | succ n =>
    refine ⟨ρ2, t2, w', todo, ⟨n + 1, ?_⟩, h2, h3, h4, h5, h6⟩
    unfold runN at hn ⊢
    rw [st_loop] at hn
    rw [st_inLoop]
    exact hn

theorem opsOk {N : Nat} {id : Nat} {ops : Array Oper} {d : Bool} (h : slotsB N (.region id ops d) = true) : OpsOk N ops.toList := by
  simp only [slotsB, List.all_eq_true, Bool.and_eq_true] at h
  intro o ho
  obtain ⟨h1, h2⟩ := h o ho
  refine ⟨fun d hd => ?_, h2⟩
  rw [hd] at h1
  exact Nat.le_of_ble_eq_true h1
theorem region_ok (hP : Good P) {cf : CF} (hcf : CfOk P w0 cf) {N id : Nat} {ops : Array Oper} {d : Bool} (hsl : slotsB N (.region id ops d) = true) {st : St} {fr' : Fr} {m' : M}
    (hr : bc d (runDrawn P cf ops st.fr st.m) (runOps cf (cOpers P ops.toList ops.toList) st.fr st.m) = some (fr', m')) {B : Frame} {k : List Item} {cs : List Frame} {ρ : Ren} {w : World} {tmps : Array Value}
    (h : Sim P w0 ρ st.m w) (hf : FrRel ρ st.fr tmps) (hn : tmps.size = N) : Lands P w0 N B cs ρ (lone (mk B tmps (.code (.region id ops d) :: k)) cs w) k .normal ⟨fr', m'⟩ := by
  have hall := opsOk hsl
  cases d with
  | false =>
    obtain ⟨ρ', tmps', w', hs, hf', hn', hle, hsim⟩ := lex_ok hcf (B := B) (k := k) (cs := cs) (n := N) hall ops.toList 0 ρ st.m w tmps st.fr fr' m' rfl h hf hn hr
    refine ⟨ρ', tmps', w', k, ?_, rfl, hf', hn', hle, hsim⟩
    refine .head st_region ?_
    rw [List.range_eq_range']
    have : ops.toList.length = ops.size := by simp
    rw [this] at hs
    exact hs.trans (.one st_region_end)
  | true =>
    obtain ⟨ρ', tmps', w', hs, hf', hn', hle, hsim⟩ := drawn_ok hcf (B := B) (k := k) (cs := cs) (n := N) hall (h.heap (w' := { w with drawn := w.drawn + 1 }) rfl rfl rfl rfl) hf hn hr (w.tape w.drawn (.order B.fn id))
    refine ⟨ρ', tmps', w', k, ?_, rfl, hf', hn', hle, hsim⟩
    refine .head st_region_draw ?_
    rw [hP.mixed]
    simp only [Region.schedule, Bool.true_or, if_true]
    exact hs.trans (.one st_region_end)

theorem andThen_some {r : O} {k : St → O} {x : X} {s : St} (h : andThen r k = some (x, s)) : (∃ s1, r = some (.normal, s1) ∧ k s1 = some (x, s)) ∨ (x ≠ .normal ∧ r = some (x, s)) := by
  obtain ⟨⟨x1, s1⟩, h1, h2⟩ := ob_some h
  cases x1 with
  | normal => exact .inl ⟨s1, h1, h2⟩
  | exit id =>
    have h2 : r = some (x, s) := h2
    rw [h1] at h2; cases h2
    exact .inr ⟨by simp, h1⟩
  | goto id =>
    have h2 : r = some (x, s) := h2
    rw [h1] at h2; cases h2
    exact .inr ⟨by simp, h1⟩
  | ret =>
    have h2 : r = some (x, s) := h2
    rw [h1] at h2; cases h2
    exact .inr ⟨by simp, h1⟩

theorem findLabel_slots {N l : Nat} : ∀ {c rest : Code}, findLabel c l = some rest → slotsB N c = true → slotsB N rest = true
  | .seq a b, rest, h, hs => by
    simp only [slotsB, Bool.and_eq_true] at hs
    simp only [findLabel] at h
    split at h
    · rename_i r hr
      cases h
      simp only [slotsB, Bool.and_eq_true]
      exact ⟨findLabel_slots hr hs.1, hs.2⟩
    · exact findLabel_slots h hs.2
  | .label l', rest, h, hs => by
    simp only [findLabel] at h
    split at h
    · cases h; rfl
    · cases h
  | .skip, _, h, _ => by cases h
  | .region .., _, h, _ => by cases h
  | .cond .., _, h, _ => by cases h
  | .block .., _, h, _ => by cases h
  | .loop .., _, h, _ => by cases h
  | .rangeFunc .., _, h, _ => by cases h
  | .exit .., _, h, _ => by cases h
  | .scope .., _, h, _ => by cases h
  | .goto .., _, h, _ => by cases h
  | .ret, _, h, _ => by cases h
  | .refuse .., _, h, _ => by cases h

theorem elB_some {β : Type} {k : Bool → Option β} {x : AV} {r : β} (h : elB none k x = some r) : ∃ c, x = .b c ∧ k c = some r := by
  cases x <;> simp only [elB, reduceCtorEq] at h
  exact ⟨_, rfl, h⟩

/-- One layer of the executor. -/
theorem aStep_ok (hP : Good P) {ih : Ex} (h : ExOk P w0 ih) (hcf : CfOk P w0 (acall P (tabOf P) ih)) : ExOk P w0 (aStep P (tabOf P) ih) := by
  intro N K st x st' hr hsl B k cs ρ w tmps hsim hf hn
  cases K with
  | sc body rest =>
    simp only [slotsK, Bool.and_eq_true] at hsl
    have hr : onGoto body ih (ih (.c rest) st) = some (x, st') := hr
    obtain ⟨⟨x1, s1⟩, h1, h2⟩ := ob_some hr
    obtain ⟨ρ1, t1, w1, todo1, q1, q2, q3, q4, q5, q6⟩ := h N (.c rest) st x1 s1 h1 hsl.2 B (.inScope body :: k) cs ρ w tmps hsim hf hn
    cases x1 with
    | normal =>
      have h2 : ih (.c rest) st = some (x, st') := h2
      rw [h1] at h2; cases h2
      cases q2
      exact ⟨ρ1, t1, w1, k, q1.trans (.one st_inScope), rfl, q3, q4, q5, q6⟩
    | exit id =>
      have h2 : ih (.c rest) st = some (x, st') := h2
      rw [h1] at h2; cases h2
      exact ⟨ρ1, t1, w1, todo1, q1, q2.pass (by simp) (fun _ _ => rfl) (fun _ e => by cases e), q3, q4, q5, q6⟩
    | ret =>
      have h2 : ih (.c rest) st = some (x, st') := h2
      rw [h1] at h2; cases h2
      exact ⟨ρ1, t1, w1, todo1, q1, q2.pass (by simp) (fun _ e => by cases e) (fun _ e => by cases e), q3, q4, q5, q6⟩
    | goto l =>
      have h2 : Option.rec (motive := fun _ => O) (ih (.c rest) st) (fun rest => ih (.sc body rest) s1) (findLabel body l) = some (x, st') := h2
      obtain ⟨s, e1, e2⟩ := q2
      cases hfl : findLabel body l with
      | none =>
        rw [hfl] at h2
        have h2 : ih (.c rest) st = some (x, st') := h2
        rw [h1] at h2; cases h2
        refine ⟨ρ1, t1, w1, todo1, q1, ⟨s, e1, e2.trans ?_⟩, q3, q4, q5, q6⟩
        simp only [gotoIn, hfl]
      | some r2 =>
        rw [hfl] at h2
        have h2 : ih (.sc body r2) s1 = some (x, st') := h2
        subst e1
        have hg : gotoIn l s = some (.code r2 :: .inScope body :: k) := by rw [e2]; simp only [gotoIn, hfl]
        refine Lands.head (q1.trans (.one (st_goto hg))) q5 ?_
        exact h N (.sc body r2) s1 x st' h2 (by simp only [slotsK, Bool.and_eq_true]; exact ⟨hsl.1, findLabel_slots hfl hsl.1⟩) B k cs ρ1 w1 t1 q6 q3 q4
  | c c =>
    have hr : aCode c P (tabOf P) ih st = some (x, st') := hr
    have hsl : slotsB N c = true := hsl
    cases c with
    | skip =>
      have hr : some (X.normal, st) = some (x, st') := hr
      cases hr
      exact .stay (.one st_skip) rfl hsim hf hn
    | label l =>
      have hr : some (X.normal, st) = some (x, st') := hr
      cases hr
      exact .stay (.one st_label) rfl hsim hf hn
    | region id ops d =>
      have hr : (ob (bc d (runDrawn P (acall P (tabOf P) ih) ops st.fr st.m) (runOps (acall P (tabOf P) ih) (cOpers P ops.toList ops.toList) st.fr st.m)) fun q => some (X.normal, St.mk q.1 q.2)) = some (x, st') := hr
      obtain ⟨⟨fr', m'⟩, h1, h2⟩ := ob_some hr
      cases h2
      exact region_ok hP hcf hsl h1 hsim hf hn
    | seq a b =>
      simp only [slotsB, Bool.and_eq_true] at hsl
      have hr : andThen (ih (.c a) st) (ih (.c b)) = some (x, st') := hr
      rcases andThen_some hr with ⟨s1, h1, h2⟩ | ⟨hx, h1⟩
      · obtain ⟨ρ1, t1, w1, todo1, q1, q2, q3, q4, q5, q6⟩ := h N (.c a) st .normal s1 h1 hsl.1 B (.code b :: k) cs ρ w tmps hsim hf hn
        cases q2
        exact Lands.head (.head st_seq q1) q5 (h N (.c b) s1 x st' h2 hsl.2 B k cs ρ1 w1 t1 q6 q3 q4)
      · obtain ⟨ρ1, t1, w1, todo1, q1, q2, q3, q4, q5, q6⟩ := h N (.c a) st x st' h1 hsl.1 B (.code b :: k) cs ρ w tmps hsim hf hn
        exact ⟨ρ1, t1, w1, todo1, .head st_seq q1, q2.pass hx (fun _ _ => rfl) (fun _ _ => rfl), q3, q4, q5, q6⟩
    | cond c a b =>
      simp only [slotsB, Bool.and_eq_true] at hsl
      have hr : elB none (fun t => bc t (ih (.c a) st) (ih (.c b) st)) (ev (cO c) st.fr) = some (x, st') := hr
      obtain ⟨t, h1, h2⟩ := elB_some hr
      have hv := hf.opd B (.code (.cond c a b) :: k) c hsl.1
      rw [h1, conc_b] at hv
      refine Lands.head (.one (st_cond (Option.some.inj hv).symm)) ρ.le_refl ?_
      cases t with
      | true => exact h N (.c a) st x st' h2 hsl.2.1 B k cs ρ w tmps hsim hf hn
      | false => exact h N (.c b) st x st' h2 hsl.2.2 B k cs ρ w tmps hsim hf hn
    | block id b =>
      simp only [slotsB] at hsl
      have hr : onExit id (ih (.c b) st) = some (x, st') := hr
      obtain ⟨⟨x1, s1⟩, h1, h2⟩ := ob_some hr
      obtain ⟨ρ1, t1, w1, todo1, q1, q2, q3, q4, q5, q6⟩ := h N (.c b) st x1 s1 h1 hsl B (.inBlock id :: k) cs ρ w tmps hsim hf hn
      cases x1 with
      | normal =>
        have h2 : ih (.c b) st = some (x, st') := h2
        rw [h1] at h2; cases h2
        cases q2
        exact ⟨ρ1, t1, w1, k, .head st_block (q1.trans (.one st_inBlock)), rfl, q3, q4, q5, q6⟩
      | goto l =>
        have h2 : ih (.c b) st = some (x, st') := h2
        rw [h1] at h2; cases h2
        exact ⟨ρ1, t1, w1, todo1, .head st_block q1, q2.pass (by simp) (fun _ e => by cases e) (fun _ _ => rfl), q3, q4, q5, q6⟩
      | ret =>
        have h2 : ih (.c b) st = some (x, st') := h2
        rw [h1] at h2; cases h2
        exact ⟨ρ1, t1, w1, todo1, .head st_block q1, q2.pass (by simp) (fun _ e => by cases e) (fun _ e => by cases e), q3, q4, q5, q6⟩
      | exit i =>
        have h2 : bc (Nat.beq i id) (some (X.normal, s1)) (ih (.c b) st) = some (x, st') := h2
        obtain ⟨s, e1, e2⟩ := q2
        cases hb : Nat.beq i id with
        | true =>
          rw [hb, bc_true] at h2
          cases h2
          have hid := Nat.eq_of_beq_eq_true hb
          subst hid e1
          refine ⟨ρ1, t1, w1, k, .head st_block (q1.trans (.one (st_exit ?_))), rfl, q3, q4, q5, q6⟩
          rw [e2]
          simp [exitTo]
        | false =>
          rw [hb, bc_false, h1] at h2
          cases h2
          refine ⟨ρ1, t1, w1, todo1, .head st_block q1, ⟨s, e1, e2.trans ?_⟩, q3, q4, q5, q6⟩
          have hne : ¬ id = i := fun e => by subst e; rw [Nat.beq_refl] at hb; cases hb
          simp [exitTo, hne]
    | loop b =>
      have hsl' : slotsB N b = true := hsl
      have hr : andThen (ih (.c b) st) (ih (.c (.loop b))) = some (x, st') := hr
      rcases andThen_some hr with ⟨s1, h1, h2⟩ | ⟨hx, h1⟩
      · obtain ⟨ρ1, t1, w1, todo1, q1, q2, q3, q4, q5, q6⟩ := h N (.c b) st .normal s1 h1 hsl' B (.inLoop b :: k) cs ρ w tmps hsim hf hn
        cases q2
        have hl := h N (.c (.loop b)) s1 x st' h2 hsl B k cs ρ1 w1 t1 q6 q3 q4
        exact Lands.head (.head st_loop q1) q5 hl.again
      · obtain ⟨ρ1, t1, w1, todo1, q1, q2, q3, q4, q5, q6⟩ := h N (.c b) st x st' h1 hsl' B (.inLoop b :: k) cs ρ w tmps hsim hf hn
        exact ⟨ρ1, t1, w1, todo1, .head st_loop q1, q2.pass hx (fun _ _ => rfl) (fun _ _ => rfl), q3, q4, q5, q6⟩
    | rangeFunc f ps a b =>
      have hr : none = some (x, st') := hr
      cases hr
    | exit id =>
      have hr : some (X.exit id, st) = some (x, st') := hr
      cases hr
      exact .stay (.refl _ _) ⟨k, rfl, rfl⟩ hsim hf hn
    | scope b =>
      have hsl' : slotsB N b = true := hsl
      have hr : ih (.sc b b) st = some (x, st') := hr
      refine Lands.head (.one st_scope) ρ.le_refl ?_
      exact h N (.sc b b) st x st' hr (by simp only [slotsK, hsl', Bool.and_self]) B k cs ρ w tmps hsim hf hn
    | goto l =>
      have hr : some (X.goto l, st) = some (x, st') := hr
      cases hr
      exact .stay (.refl _ _) ⟨k, rfl, rfl⟩ hsim hf hn
    | ret =>
      have hr : some (X.ret, st) = some (x, st') := hr
      cases hr
      exact .stay (.refl _ _) ⟨k, rfl⟩ hsim hf hn
    | refuse s =>
      have hr : none = some (x, st') := hr
      cases hr

/-! ### Calls -/
theorem get_tab {P : Program} {g : FuncId} {fn : Func} (h : getP (pth g) (tabOf P) = some fn) : P.funcs[g]? = some fn := by
  unfold tabOf at h
  rw [get_fill] at h
  split at h
  · simpa using h
  · cases hg : pth g <;> rw [hg] at h <;> cases h
def resF (tmps : Array Value) : ResultVar → Sem Value
  | .tmp t => pure (tmps.getD t undef)
  | .cell a t => do loadVar t (← asAddr (tmps.getD a undef))
theorem resF_cons {P : Program} {tmps : Array Value} {r : ResultVar} {l : List ResultVar} {w : World} {u : Value} {us : List Value} (h : (resF tmps r).run P w = .ok u w) (h' : (l.mapM (resF tmps)).run P w = .ok us w) : ((r :: l).mapM (resF tmps)).run P w = .ok (u :: us) w := by
  simp only [List.mapM_cons, Sem.run_bind, h, Result.andThen_ok, h', Sem.run_pure]
theorem ares_ok {st : St} {ρ : Ren} {w : World} {tmps : Array Value} (h : Sim P w0 ρ st.m w) (hf : FrRel ρ st.fr tmps) : ∀ (l : List ResultVar) (xs : List AV), ares P st l = some xs →
    ∃ us, concs ρ xs = some us ∧ (l.mapM (resF tmps)).run P w = .ok us w
  | [], xs, hr => by
    cases hr
    exact ⟨[], concs_nil ρ, by simp⟩
  | .tmp t :: l, xs, hr => by
    obtain ⟨ys, h1, h2⟩ := ob_some hr
    cases h2
    obtain ⟨us, h3, h4⟩ := ares_ok h hf l ys h1
    exact ⟨_, concs_cons.2 ⟨_, _, hf t, h3, rfl⟩, resF_cons rfl h4⟩
  | .cell a t :: l, xs, hr => by
    obtain ⟨⟨y, m1⟩, h0, hr⟩ := ob_some hr
    obtain ⟨ys, h1, h2⟩ := ob_some hr
    cases h2
    obtain ⟨us, h3, h4⟩ := ares_ok h hf l ys h1
    have hcell : ∃ u, conc ρ y = some u ∧ (resF tmps (.cell a t)).run P w = .ok u w := by
      unfold resF
      split at h0
      · rename_i n ht hs
        obtain ⟨b, off, hx, h0⟩ := elPtr_none h0
        obtain ⟨z, hz, h0⟩ := ob_some h0
        cases h0
        have hv := hf a
        rw [ev_tmp] at hx
        rw [hx] at hv
        obtain ⟨r, hr1, e⟩ := conc_ptr hv
        obtain ⟨r', us, hr2, q1, q2, q3, q4⟩ := h.rdN hz
        rw [hr1] at hr2; cases hr2
        have hload := run_loadCells_list (P := P) w ⟨r.blk, r.sh + off, none⟩ us (fun j u hj => by rw [Addr.add_mk]; exact q4 j u hj)
        rw [q2] at hload
        exact ⟨.agg us.toArray, by simp only [conc, q1, Option.bind_some, q3, if_true], by simp only [e]; simp [asAddr, loadVar, tagg_some ht, run_sizeOf' hs, hload]⟩
      · rename_i n ht hs
        obtain ⟨b, off, hx, h0⟩ := elPtr_none h0
        obtain ⟨z, hz, h0⟩ := ob_some h0
        cases h0
        have hv := hf a
        rw [ev_tmp] at hx
        rw [hx] at hv
        obtain ⟨r, hr1, e⟩ := conc_ptr hv
        obtain ⟨r', u, hr2, q1, _, q2⟩ := h.rd hz
        rw [hr1] at hr2; cases hr2
        exact ⟨u, q1, by simp only [e]; simp [asAddr, loadVar, tagg_some ht, q2]⟩
      · cases h0
    obtain ⟨u, h5, h6⟩ := hcell
    exact ⟨_, concs_cons.2 ⟨_, _, h5, h3, rfl⟩, resF_cons h6 h4⟩
theorem one_ok {ρ : Ren} {xs : List AV} {us : List Value} (h : concs ρ xs = some us) : conc ρ (one xs) = some (if h : us.toArray.size = 1 then us.toArray[0] else .tuple us.toArray) := by
  cases xs with
  | nil => rw [concs_nil] at h; cases h; simp [one, conc, concs]
  | cons x xs =>
    obtain ⟨v, vs, h1, h2, rfl⟩ := concs_cons.1 h
    cases xs with
    | nil => rw [concs_nil] at h2; cases h2; simpa [one] using h1
    | cons y ys =>
      obtain ⟨v2, vs2, h3, h4, rfl⟩ := concs_cons.1 h2
      simp [one, conc, concs, h1, h3, h4]
theorem results_ok {fn : Func} {st : St} {ρ : Ren} {w : World} {tmps : Array Value} (h : Sim P w0 ρ st.m w) (hf : FrRel ρ st.fr tmps) {xs : List AV} (hr : ares P st fn.results.toList = some xs) :
    ∃ u, conc ρ (one xs) = some u ∧ (results fn tmps).run P w = .ok u w := by
  obtain ⟨us, h1, h2⟩ := ares_ok h hf fn.results.toList xs hr
  refine ⟨_, one_ok h1, ?_⟩
  have e0 : results fn tmps = (do let vs ← fn.results.mapM (resF tmps); pure (if h : vs.size = 1 then vs[0] else .tuple vs)) := by
    unfold results
    congr 1
  have e : (fn.results.mapM (resF tmps)).run P w = .ok us.toArray w := by
    rw [Array.mapM_eq_mapM_toList]
    simp [h2]
  rw [e0, Sem.run_bind, e, Result.andThen_ok, Sem.run_pure]

theorem isEnd_some {r : O} {s : St} (h : isEnd r = some s) : r = some (.normal, s) ∨ r = some (.ret, s) := by
  obtain ⟨⟨x, s1⟩, h1, h2⟩ := ob_some h
  cases x with
  | normal => cases h2; exact .inl h1
  | ret => cases h2; exact .inr h1
  | exit id => cases h2
  | goto l => cases h2
theorem acall_ok (hP : Good P) {ih : Ex} (h : ExOk P w0 ih) : CfOk P w0 (acall P (tabOf P) ih) := by
  intro ρ m w g args v m' vs cs hr hv hsim
  obtain ⟨fn, h1, hr⟩ := ob_some hr
  have hfn := get_tab h1
  cases hb : fn.body with
  | none =>
    rw [hb] at hr
    have hr : (ob (ext fn.name args) fun v => some (v, m)) = some (v, m') := hr
    obtain ⟨z, h2, h3⟩ := ob_some hr
    cases h3
    obtain ⟨u, h4, h5⟩ := hP.ext g fn args v hfn hb h2 ρ vs w hv
    exact ⟨ρ, u, w, h5, ρ.le_refl, hsim, .inl h4⟩
  | some c =>
    rw [hb] at hr
    have hr : bc (slotsB fn.ntmps c && Nat.ble args.length fn.ntmps) (ob (isEnd (ih (.c c) ⟨fillP args (nat_lit 0) .leaf, m⟩)) fun s => ob (ares P s fn.results.toList) fun l => some (one l, s.m)) none = some (v, m') := hr
    obtain ⟨h2, hr⟩ := bc_some hr
    obtain ⟨s, h3, hr⟩ := ob_some hr
    obtain ⟨xs, h4, hr⟩ := ob_some hr
    cases hr
    simp only [Bool.and_eq_true] at h2
    have hlen := concs_length hv
    have hle := Nat.le_of_ble_eq_true h2.2
    have hinit : FrRel ρ (fillP args (nat_lit 0) .leaf) (vs.toArray ++ Array.replicate (fn.ntmps - vs.toArray.size) undef) := by
      intro t
      rw [gtmp_eq, get_fill]
      by_cases ht : t < args.length
      · rw [if_pos ⟨Nat.zero_le _, by simpa using ht⟩]
        obtain ⟨u, h5, h6⟩ := concs_get hv t args[t] (List.getElem?_eq_getElem ht)
        simp only [Nat.sub_zero, List.getElem?_eq_getElem ht, Option.getD_some, h6]
        have : t < vs.length := by omega
        obtain ⟨_, h7⟩ := List.getElem?_eq_some_iff.1 h5
        simp [Array.getElem?_append, this, h7]
      · rw [if_neg (by simpa using ht)]
        have e0 : (getP (pth t) (Tr.leaf : Tr AV)).getD .undef = AV.undef := by cases pth t <;> rfl
        rw [e0, conc_undef]
        have : ¬ t < vs.length := by omega
        simp only [Array.getD_eq_getD_getElem?, Array.getElem?_append, List.size_toArray, this, if_false, Array.getElem?_replicate]
        split <;> rfl
    have hmk : Frame.enter P g vs.toArray .normal = mk (Frame.enter P g vs.toArray .normal) (vs.toArray ++ Array.replicate (fn.ntmps - vs.toArray.size) undef) (items (.c c) ++ []) := by
      simp [Frame.enter, mk, hfn, hb, items]
    have hsize : (vs.toArray ++ Array.replicate (fn.ntmps - vs.toArray.size) undef).size = fn.ntmps := by simp; omega
    have hne : fn.name ≠ "runtime.NumGoroutine" := by
      intro e
      have := hP.name g fn hfn
      rw [e] at this
      simp at this
    have hent : (callFunc g vs.toArray).run P w = .ok (.enter g vs.toArray) w := by
      simp [callFunc, hfn, hne, hb]
    have go : ∀ (x : X), (x = .normal ∨ x = .ret) → ih (.c c) ⟨fillP args (nat_lit 0) .leaf, m⟩ = some (x, s) → CallRes P w0 ρ w g vs cs (one xs) s.m := by
      intro x hx hrun
      obtain ⟨ρ1, t1, w1, todo1, q1, q2, q3, q4, q5, q6⟩ := h fn.ntmps (.c c) _ x s hrun h2.1 (Frame.enter P g vs.toArray .normal) [] cs ρ w _ hsim hinit hsize
      rw [← hmk] at q1
      obtain ⟨u, h6, h7⟩ := results_ok (fn := fn) q6 q3 h4
      refine ⟨ρ1, u, w1, h6, q5, q6, .inr ⟨hent, { mk (Frame.enter P g vs.toArray .normal) t1 todo1 with mode := .returning }, ?_, rfl, rfl, rfl, rfl, fn, hfn, h7⟩⟩
      rcases hx with rfl | rfl
      · cases q2
        exact q1.trans (.one (st_end rfl))
      · obtain ⟨s', rfl⟩ := q2
        exact q1.trans (.one (st_ret rfl))
    rcases isEnd_some h3 with h5 | h5
    · exact go _ (.inl rfl) h5
    · exact go _ (.inr rfl) h5

theorem aexec_ok (hP : Good P) : ∀ n, ExOk P w0 (aexec P (tabOf P) n)
  | 0 => by intro N K st x st' hr; cases hr
  | n + 1 => aStep_ok hP (aexec_ok hP n) (acall_ok hP (aexec_ok hP n))

/-- A run of the abstract machine is a run of the model. -/
theorem arun_calls (hP : Good P) {n : Nat} {g : FuncId} {args : List AV} {m m' : M} {v : AV} (hr : arun P (tabOf P) n g args m = some (v, m')) {ρ : Ren} {vs : List Value} {w : World} (hv : concs ρ args = some vs) (h : Sim P w0 ρ m w)
    {fn : Func} {c : Code} (hfn : P.funcs[g]? = some fn) (hb : fn.body = some c) :
    Calls P g vs.toArray w fun e w' => ∃ u ρ', e = .returned u ∧ conc ρ' v = some u ∧ ρ.le ρ' ∧ Sim P w0 ρ' m' w' := by
  intro cs
  obtain ⟨ρ', u, w', h1, h2, h3, h4⟩ := acall_ok hP (aexec_ok (w0 := w0) hP n) ρ m w g args v m' vs cs hr hv h
  rcases h4 with h4 | ⟨_, fr, h5, h6, h7⟩
  · have hne : fn.name ≠ "runtime.NumGoroutine" := by
      intro e
      have := hP.name g fn hfn
      rw [e] at this
      simp at this
    simp [callFunc, hfn, hne, hb] at h4
  · exact ⟨.returned u, w', fr, ⟨u, ρ', rfl, h1, h2, h3⟩, h5, h6, h7⟩
end
end Go.Am
