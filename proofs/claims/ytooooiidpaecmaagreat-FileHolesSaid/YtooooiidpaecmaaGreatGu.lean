import Derived.Test.YtooooiidpaecmaaGreatGr
import Derived.Test.YtooooiidpaecmaaGreatAmSt
set_option linter.unusedVariables false
set_option linter.unusedSimpArgs false
/- What lies in memory behind the making of a table. -/
namespace Go.Proofs.YtooooiidpaecmaaGreat
open Go Go.Am
def t32 : Bk := 3 :: List.replicate 63 0
def t33 : Bk := 255 :: 255 :: 255 :: 255 :: 31 :: List.replicate 59 0
def n32 (k : UInt8) : Bk := k :: 0 :: 1 :: List.replicate 29 0
def t35 (k : UInt8) : Bk := n32 1 ++ n32 k
def yl (k : Nat) : List AV := .y k :: .y 0 :: .y 1 :: List.replicate 29 (.y 0)
noncomputable def ckF (r : R) (k : Nat) (opn : AV) (kd : Nat) : Bool × Option Blk × AV := match r with
 | some (v, m) => (bc (ltT m.tab m.next) (bc (ckRow m (175 + k) 97 true [.ptr (2 + k) 0, .ptr (127 + k) 0, .ptr (171 + k) 0, .n 64, .n 90, .n 6, .n 30, .n 2, .n 32, .n 1, .n 33, .n 1, .n 34, .n 3, .n 37, .map (418 + k), .map (174 + k), opn])
   (bc (ckRow m (127 + k) 159 true [.ptr (2 + k) 0, .n 64, .n 90, .n 6, .n 30, .n 2, .n 32, .n 1, .n 33, .n 1, .n 34, .n 3, .n 37, .n 1, .n 0, .n 0, .map (126 + k), .b false])
   (bc (ckMap m (126 + k) []) (bc (ckMap m (174 + k) []) (bc (ckMap m (418 + k) [(32, .slice (194 + k) 0 64 64 false), (33, .slice (273 + k) 0 64 64 false), (35, .slice (413 + k) 0 64 64 false)])
   (bc (ckRow m (194 + k) 5 false (.y 3 :: List.replicate 63 (.y 0))) (bc (ckRow m (273 + k) 5 false (.y 255 :: .y 255 :: .y 255 :: .y 255 :: .y 31 :: List.replicate 59 (.y 0))) (bc (ckRow m (413 + k) 5 false (yl 1 ++ yl kd))
   (bc (ckRow m (177 + k) 117 true [.ptr (175 + k) 0, .n 64, .n 90, .n 6, .n 30, .n 2, .n 32, .n 1, .n 33, .n 1, .n 34, .n 3, .n 37, .n 33, .n 512, .n 32, .n 512])
   (ckRow m (179 + k) 102 true [.ptr (177 + k) 0, .n 64, .n 90, .n 6, .n 30, .n 2, .n 32, .n 1, .n 33, .n 1, .n 34, .n 3, .n 37, .n 32]) false) false) false) false) false) false) false) false) false) false, m.get 0, v)
 | none => (false, none, .undef)
set_option maxRecDepth 100000 in
theorem fr1 (o : Option Blk) : ckF (arun Tryz.prog tbA 100000 9 [smallV] (mS o)) 1 nilp 1 = (true, o, .tuple [.ptr 176 0, .ptr 178 0, .ptr 180 0]) := by kernel_rfl
structure G0 (m : M) (A : Ad) (S : PS) (own : Nat → Prop) : Prop where
 g : At m A.g ty_group_Group true [.ptr A.d 0, .ptr A.l 0, .ptr A.c 0, iv 64, iv 90, iv 6, iv 30, iv 2, iv 32, iv 1, iv 33, iv 1, iv 34, iv 3, iv 37, .map A.gl, .map A.gf, nilp]
 l : At m A.l ty_wal_Log true [.ptr A.d 0, iv 64, iv 90, iv 6, iv 30, iv 2, iv 32, iv 1, iv 33, iv 1, iv 34, iv 3, iv 37, iv 1, iv 0, iv 0, .map A.lp, .b false]
 lp : MpAt m A.lp []
 gf : MpAt m A.gf []
 nm : [A.gl, A.gf, A.lp].Nodup
 ow : ∀ b, own b → kd m b (ty_uint8 + 1)
 gl : BmAt m A.gl S.rd own
 kp : ∀ b, S.kp b = false
 hi : ∀ b, 37 ≤ b → S.rd b = none
section
variable {m m' : M} {A : Ad} {S : PS} {own : Nat → Prop}
theorem BmAt.none {m : M} {b : Nat} {own : Nat → Prop} (h : MpAt m b []) : BmAt m b (fun _ => Option.none) own := ⟨[], h, List.nodup_nil, fun k => ⟨fun _ => rfl, fun t e => by cases e⟩⟩
end
def rd0 (k : UInt8) : Nat → Option Bk := fun b => if b = 32 then some t32 else if b = 33 then some t33 else if b = 35 then some (t35 k) else none
def S0 (k : UInt8) : PS := ⟨rd0 k, fun _ => false⟩
def x0 (k : Nat) : Ino := ⟨k, 1, 0, List.replicate 10 0⟩
def X0 (k : Nat) : Nat → Ino := fun i => if i = 3 then x0 k else x0 1
theorem enc0 (k : Nat) (h : k = 1 ∨ k = 2) : enc (x0 k) = n32 (UInt8.ofNat k) := by rcases h with rfl | rfl <;> decide +kernel
theorem ps0 (k i j : Nat) : (X0 k i).ps.getD j 0 = 0 := by
 have e : (X0 k i).ps = List.replicate 10 0 := by unfold X0 x0; split <;> rfl
 rw [e, List.getD_eq_getElem?_getD, List.getElem?_replicate]
 split <;> rfl
theorem nd0 (S : PS) (k i : Nat) : ∀ p : Pa, nd S (X0 k i) p = 0
 | .r j => ps0 k i j
 | .s j a => by show ptz S _ a = 0; rw [ps0, ptz_0]
 | .t a b => by show ptz S (ptz S _ a) b = 0; rw [ps0, ptz_0, ptz_0]
theorem x0_ok {k : Nat} (h : k = 1 ∨ k = 2) : (x0 k).Ok := ⟨by show 1 ≤ k; omega, by show k ≤ 2; omega, by show 1 < 65536; omega, by show 0 < 4294967296; omega, List.length_replicate, fun p hp => by have := List.eq_of_mem_replicate hp; omega⟩
theorem inv0 {k : Nat} (h : k = 1 ∨ k = 2) : Inv (S0 (UInt8.ofNat k)) I2 (X0 k) := {
 ino := fun i hi => by
  have hi : i = 2 ∨ i = 3 := by simpa [I2] using hi
  rcases hi with rfl | rfl
  ·refine ⟨by omega, ⟨t35 (UInt8.ofNat k), rfl, rfl, ?_⟩, x0_ok (.inl rfl)⟩
   show _ = enc (x0 1)
   rw [enc0 1 (.inl rfl)]
   rcases h with rfl | rfl <;> decide +kernel
  ·refine ⟨by omega, ⟨t35 (UInt8.ofNat k), rfl, rfl, ?_⟩, x0_ok h⟩
   show _ = enc (x0 k)
   rw [enc0 k h]
   rcases h with rfl | rfl <;> decide +kernel
 bm := ⟨t33, rfl, by decide +kernel, fun i _ p _ h0 => absurd (nd0 _ k i p) h0⟩
 inj := fun i _ j _ p q _ _ h0 => absurd (nd0 _ k i p) h0
 blk := fun i _ p _ _ h0 => absurd (nd0 _ k i p) h0
 }
def own0 (k : Nat) : Nat → Prop := fun b => b = 194 + k ∨ b = 273 + k ∨ b = 413 + k
theorem bt_row {m : M} {b : Nat} {xt : Bool} {cells : List AV} {t : Bk} (h : At m b 5 xt cells) (ht : cells = ycells t) (hl : t.length = 64) : BtU m (.slice b 0 64 64 false) t b := by
 subst ht
 have h2 : (ycells t).length = 64 := by simp [ycells, hl]
 have := BsAt.row (off := 0) (cap := 64) (lim := false) (l := t) h.r (by omega) (by rw [List.drop_zero, hl, List.take_of_length_le (by omega)])
 rw [hl] at this
 exact ⟨this, h.kd⟩
theorem gl_at {m : M} {gl a b c : Nat} {kd : UInt8} {own : Nat → Prop} (h : MpAt m gl [(32, .slice a 0 64 64 false), (33, .slice b 0 64 64 false), (35, .slice c 0 64 64 false)]) (ha : BtU m (.slice a 0 64 64 false) t32 a) (hb : BtU m (.slice b 0 64 64 false) t33 b) (hc : BtU m (.slice c 0 64 64 false) (t35 kd) c)
  (oa : own a) (ob : own b) (oc : own c) : BmAt m gl (rd0 kd) own := by
 refine ⟨_, h, (by decide : [32, 33, 35].Nodup), fun k => ⟨fun hk => ?_, fun t hk => ?_⟩⟩
 ·unfold rd0 at hk
  by_cases h1 : k = 32
  ·rw [if_pos h1] at hk; cases hk
  ·rw [if_neg h1] at hk
   by_cases h2 : k = 33
   ·rw [if_pos h2] at hk; cases hk
   ·rw [if_neg h2] at hk
    by_cases h3 : k = 35
    ·rw [if_pos h3] at hk; cases hk
    ·exact (if_neg (Ne.symm h1)).trans ((if_neg (Ne.symm h2)).trans (if_neg (Ne.symm h3)))
 ·unfold rd0 at hk
  by_cases h1 : k = 32
  ·rw [if_pos h1] at hk; cases hk; subst h1
   exact ⟨by decide +kernel, _, a, rfl, ha, oa⟩
  ·rw [if_neg h1] at hk
   by_cases h2 : k = 33
   ·rw [if_pos h2] at hk; cases hk; subst h2
    exact ⟨by decide +kernel, _, b, rfl, hb, ob⟩
   ·rw [if_neg h2] at hk
    by_cases h3 : k = 35
    ·rw [if_pos h3] at hk; cases hk; subst h3
     exact ⟨rfl, _, c, rfl, hc, oc⟩
    ·rw [if_neg h3] at hk; cases hk
structure Fr (m : M) (k : Nat) (opn : AV) (kd : Nat) : Prop where
 wf : Wf m
 g : At m (175 + k) ty_group_Group true [.ptr (2 + k) 0, .ptr (127 + k) 0, .ptr (171 + k) 0, iv 64, iv 90, iv 6, iv 30, iv 2, iv 32, iv 1, iv 33, iv 1, iv 34, iv 3, iv 37, .map (418 + k), .map (174 + k), opn]
 l : At m (127 + k) ty_wal_Log true [.ptr (2 + k) 0, iv 64, iv 90, iv 6, iv 30, iv 2, iv 32, iv 1, iv 33, iv 1, iv 34, iv 3, iv 37, iv 1, iv 0, iv 0, .map (126 + k), .b false]
 lp : MpAt m (126 + k) []
 gf : MpAt m (174 + k) []
 gl : BmAt m (418 + k) (rd0 (UInt8.ofNat kd)) (own0 k)
 t : TAt m (179 + k) (177 + k) (175 + k)
 ow : ∀ b, own0 k b → Am.kd m b (ty_uint8 + 1)
theorem ckF_ok {r : R} {k kd : Nat} {opn : AV} {o : Option Blk} {v : AV} (hk : kd = 1 ∨ kd = 2) (h : ckF r k opn kd = (true, o, v)) : ∃ m, r = some (v, m) ∧ Fr m k opn kd ∧ m.get 0 = o := by
 unfold ckF at h
 split at h
 ·rename_i v' m
  simp only [Prod.mk.injEq] at h
  obtain ⟨h, h0, hv⟩ := h
  obtain ⟨h1, h⟩ := bc_and h
  obtain ⟨h2, h⟩ := bc_and h
  obtain ⟨h3, h⟩ := bc_and h
  obtain ⟨h4, h⟩ := bc_and h
  obtain ⟨h5, h⟩ := bc_and h
  obtain ⟨h6, h⟩ := bc_and h
  obtain ⟨h7, h⟩ := bc_and h
  obtain ⟨h8, h⟩ := bc_and h
  obtain ⟨h9, h⟩ := bc_and h
  obtain ⟨h10, h11⟩ := bc_and h
  have b1 := bt_row (t := t32) (ckRow_ok h7) (by kernel_rfl) rfl
  have b2 := bt_row (t := t33) (ckRow_ok h8) (by kernel_rfl) rfl
  have b3 := bt_row (t := t35 (UInt8.ofNat kd)) (ckRow_ok h9) (by rcases hk with rfl | rfl <;> kernel_rfl) rfl
  refine ⟨m, by rw [hv], ⟨wf_of h1, ckRow_ok h2, ckRow_ok h3, ckMap_ok h4, ckMap_ok h5, gl_at (ckMap_ok h6) b1 b2 b3 (.inl rfl) (.inr (.inl rfl)) (.inr (.inr rfl)), ⟨ckRow_ok h11, ckRow_ok h10⟩, fun b hb => ?_⟩, h0⟩
  rcases hb with rfl | rfl | rfl
  ·exact b1.kd
  ·exact b2.kd
  ·exact b3.kd
 ·cases h
end Go.Proofs.YtooooiidpaecmaaGreat
