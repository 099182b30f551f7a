/-
  Part of the abstract machine for this program.
-/
import Derived.Test.YtombnpednnngoaaDoorPG
import Derived.Test.YtombnpednnngoaaDoorPC

section
/-
  a ticket's frame: the program's
-/
namespace Go.Dn.Lf
open Go.Proofs Go.Dn.Ln
set_option maxHeartbeats 4000000
set_option maxRecDepth 100000
attribute [local irreducible] Hp.get Hp.set Hp.push dappend dcopy dstore cellsAt callD loopD guardL hideL backL

abbrev FC (t f s v : Int) : List Value := [.int .u8 0, .int .u8 t, .int .u16 f, .int .u32 s, .int .u32 v, .slice none 0 0]
abbrev frV (t f s v : Int) : Value := .agg #[.int .u8 0, .int .u8 t, .int .u16 f, .int .u32 s, .int .u32 v, .slice none 0 0]

theorem row_is {k : Nat} (h1 : 1 ≤ k) (h7 : k ≤ 7) : formRow k = [.int .i64 (sF k : Nat), .int .i64 (vF k : Nat), .bool (onceB k), .int .u8 (tK k), .int .u16 (fK k)] := by
  match k, h1, h7 with
  | 1, _, _ => rfl
  | 2, _, _ => rfl
  | 3, _, _ => rfl
  | 4, _, _ => rfl
  | 5, _, _ => rfl
  | 6, _, _ => rfl
  | 7, _, _ => rfl

theorem frame_bad {call : CallT} (lf : Nat) {A : Hp} (hw : A.wf) {k s v : Int} {g : Nat} (h : ∀ {A : Hp}, A.wf → LC A → ∃ A', call 63 [tkV k s v] A = some (errV g, A') ∧ Kp A A') (hC : LC A) (hCn : 44 ≤ A.next) :
    ∃ A', kfn Tryd.bk.E call (Tryd.bk.inf 51) lf Tryd.f51 [tkV k s v] A = some (.tuple #[frV 0 0 0 0, errV g], A') ∧ Kp A A' := by
  let A1 : Hp := A.push (.arr 29 (TC k s v) .own)
  have k1 : Kp A A1 := Kp.push hw _
  have n1 : A1.next = A.next + 1 := Hp.next_push _ _
  let A2 : Hp := A1.push (.arr 80 (FC 0 0 0 0) .own)
  have k2 : Kp A1 A2 := Kp.push k1.wf _
  have n2 : A2.next = A1.next + 1 := Hp.next_push _ _
  have g1 : A2.get A.next = some (.arr 29 (TC k s v) .own) := (k2.old _ (by omega)).trans (Hp.get_push_same _ _)
  have g2 : A2.get A1.next = some (.arr 80 (FC 0 0 0 0) .own) := Hp.get_push_same _ _
  obtain ⟨A3, r3, k3⟩ := h k2.wf (hC.keep fun j hj => (k1.trans k2).old j (by omega))
  have g3 : A3.get A1.next = some (.arr 80 (FC 0 0 0 0) .own) := (k3.old _ (by omega)).trans g2
  refine ⟨_, ?run, ((k1.trans k2).trans k3).set g3 (by omega) (.arr 80 (FC 0 0 0 0) .own)⟩
  case run =>
    conv => lhs; whnf
    refine bind_of (cellsAt_of g1 _ _) ?_
    conv => lhs; whnf
    refine bind_of r3 ?_
    conv => lhs; whnf
    refine bind_of (dstore_of g3 (t := 80) (o := 0) (cs' := FC 0 0 0 0) rfl) ?_
    conv => lhs; whnf
    refine bind_of (cellsAt_of (Hp.get_set_same _ _ _) _ _) ?_
    conv => lhs; whnf
    try rfl

theorem frame_okR {call : CallT} (lf : Nat) {A : Hp} (hw : A.wf) {k : Nat} (h7 : k ≤ 7) {s v t f r1 r2 : Int} {rb : Bool} (hrow : formRow k = [.int .i64 r1, .int .i64 r2, .bool rb, .int .u8 t, .int .u16 f]) (h : ∀ {A : Hp}, A.wf → LC A → ∃ A', call 63 [tkV k s v] A = some (.nilIface, A') ∧ Kp A A') (hC : LC A) (hCn : 44 ≤ A.next) :
    ∃ A', kfn Tryd.bk.E call (Tryd.bk.inf 51) lf Tryd.f51 [tkV k s v] A = some (.tuple #[frV t f s v, .nilIface], A') ∧ Kp A A' := by
  let A1 : Hp := A.push (.arr 29 (TC k s v) .own)
  have k1 : Kp A A1 := Kp.push hw _
  have n1 : A1.next = A.next + 1 := Hp.next_push _ _
  let A2 : Hp := A1.push (.arr 80 (FC 0 0 0 0) .own)
  have k2 : Kp A1 A2 := Kp.push k1.wf _
  have n2 : A2.next = A1.next + 1 := Hp.next_push _ _
  have g1 : A2.get A.next = some (.arr 29 (TC k s v) .own) := (k2.old _ (by omega)).trans (Hp.get_push_same _ _)
  have g2 : A2.get A1.next = some (.arr 80 (FC 0 0 0 0) .own) := Hp.get_push_same _ _
  obtain ⟨A3, r3, k3⟩ := h k2.wf (hC.keep fun j hj => (k1.trans k2).old j (by omega))
  have hn3 := k3.nx
  have g3 : A3.get A1.next = some (.arr 80 (FC 0 0 0 0) .own) := (k3.old _ (by omega)).trans g2
  have t3 : A3.get A.next = some (.arr 29 (TC k s v) .own) := (k3.old _ (by omega)).trans g1
  have k03 := (k1.trans k2).trans k3
  have hfo : A3.get 1 = some (.arr 115 formsC .ro) := (k03.old _ (by omega)).trans hC.forms
  let Z : List Value := [.int .i64 0, .int .i64 0, .bool false, .int .u8 0, .int .u16 0]
  let F : List Value := [.int .i64 r1, .int .i64 r2, .bool rb, .int .u8 t, .int .u16 f]
  have e3 : ((k : Nat) : Int) < ((8 : Nat) : Int) := by omega
  have cF : cellsIn formsC (0 + k * 5) 5 = some F := by rw [form_at (by omega), hrow]
  let A4 : Hp := A3.push (.arr 114 Z .own)
  have g4 : A4.get A3.next = some (.arr 114 Z .own) := Hp.get_push_same _ _
  let A5 : Hp := A4.set A3.next (some (.arr 114 F .own))
  have k5 : Kp A3 A5 := (Kp.push k3.wf _).set g4 (Nat.le_refl _) _
  have g5 : A5.get A3.next = some (.arr 114 F .own) := Hp.get_set_same _ _ _
  have t5 : A5.get A.next = some (.arr 29 (TC k s v) .own) := (k5.old _ (by omega)).trans t3
  have r5 : A5.get A1.next = some (.arr 80 (FC 0 0 0 0) .own) := (k5.old _ (by omega)).trans g3
  refine ⟨_, ?run, (k03.trans k5).set r5 (by omega) (.arr 80 (FC t f s v) .own)⟩
  case run =>
    conv => lhs; whnf
    refine bind_of (cellsAt_of g1 _ _) ?_
    conv => lhs; whnf
    refine bind_of r3 ?_
    conv => lhs; whnf
    refine bind_of (cellsAt_of t3 _ _) ?_
    conv => lhs; whnf
    rw [kdec e3]
    conv => lhs; whnf
    refine bind_of ((cellsAt_of hfo _ _).trans cF) ?_
    conv => lhs; whnf
    refine bind_of (dstore_of g4 (t := 114) (o := 0) (cs' := F) rfl) ?_
    conv => lhs; whnf
    refine bind_of (cellsAt_of g5 _ _) ?_
    conv => lhs; whnf
    refine bind_of (cellsAt_of g5 _ _) ?_
    conv => lhs; whnf
    refine bind_of (cellsAt_of t5 _ _) ?_
    conv => lhs; whnf
    refine bind_of (cellsAt_of t5 _ _) ?_
    conv => lhs; whnf
    refine bind_of (dstore_of r5 (t := 80) (o := 0) (cs' := FC t f s v) (by kernel_rfl)) ?_
    conv => lhs; whnf
    refine bind_of (cellsAt_of (Hp.get_set_same _ _ _) _ _) ?_
    conv => lhs; whnf
    try rfl

theorem frame_ok {call : CallT} (lf : Nat) {A : Hp} (hw : A.wf) {k : Nat} (h1 : 1 ≤ k) (h7 : k ≤ 7) {s v : Int} (h : ∀ {A : Hp}, A.wf → LC A → ∃ A', call 63 [tkV k s v] A = some (.nilIface, A') ∧ Kp A A') (hC : LC A) (hCn : 44 ≤ A.next) :
    ∃ A', kfn Tryd.bk.E call (Tryd.bk.inf 51) lf Tryd.f51 [tkV k s v] A = some (.tuple #[frV (tK k) (fK k) s v, .nilIface], A') ∧ Kp A A' := frame_okR lf hw h7 (row_is h1 h7) h hC hCn
end Go.Dn.Lf
end

section
/-
  frame.Check of a ticket's header
-/
namespace Go.Dn.Lf
open Go.Proofs Go.Dn.Ln
set_option maxHeartbeats 400000
set_option maxRecDepth 100000
attribute [local irreducible] Hp.get Hp.set Hp.push dappend dcopy dstore cellsAt callD loopD guardL hideL backL

def lawC (i0 i1 i2 i3 : Nat) : List Value := [.slice (some ⟨i0, 0, some 1⟩) 7 14, .slice (some ⟨i1, 0, some 1⟩) 7 14, .slice (some ⟨i2, 0, some 1⟩) 2 4, .slice (some ⟨i3, 0, some 1⟩) 1 2]
structure LW (N i0 i1 i2 i3 : Nat) (A : Hp) : Prop where
  law : A.get 8 = some (.arr 159 (lawC i0 i1 i2 i3) .ro)
  b1 : A.get i1 = some (.arr 75 (u16s [0, 1, 2, 4, 8, 5, 6]) .sh)
  b2 : A.get i2 = some (.arr 75 (u16s [1, 2]) .sh)
  b3 : A.get i3 = some (.arr 75 (u16s [0]) .sh)
  l1 : i1 < N
  l2 : i2 < N
  l3 : i3 < N
  l8 : 8 < N
theorem LW.keep {N i0 i1 i2 i3 : Nat} {A A' : Hp} (h : LW N i0 i1 i2 i3 A) (hk : ∀ j, j < N → A'.get j = A.get j) : LW N i0 i1 i2 i3 A' :=
  ⟨by rw [hk _ h.l8]; exact h.law, by rw [hk _ h.l1]; exact h.b1, by rw [hk _ h.l2]; exact h.b2, by rw [hk _ h.l3]; exact h.b3, h.l1, h.l2, h.l3, h.l8⟩

def HasOK (call : CallT) : Prop := ∀ {A : Hp} {a : Option Addr} {n c : Nat} {l : List Int}, BsAt A (.slice a n c) (u16s l) → n = l.length → ∀ x : Int, l.length ≤ 100 → call 96 [.slice a n c, .int .u16 x] A = some (.bool (l.any (· == x)), A)

theorem check_1 {call : CallT} (h : HasOK call) (lf : Nat) {A : Hp} (hw : A.wf) {N i0 i1 i2 i3 : Nat} (hL : LW N i0 i1 i2 i3 A) (hn : N ≤ A.next) {s v : Int} (hs : (s == 0) = false) (m : Int) :
    ∃ A', kfn Tryd.bk.E call (Tryd.bk.inf 53) lf Tryd.f53 [hdV 1 1 s v, .int .i64 m] A = some (.nilIface, A') ∧ Kp A A' := by
  let A1 : Hp := A.push (.arr 77 (HC 1 1 s v) .own)
  have k1 : Kp A A1 := Kp.push hw _
  have g1 : A1.get A.next = some (.arr 77 (HC 1 1 s v) .own) := Hp.get_push_same _ _
  have hL1 : LW N i0 i1 i2 i3 A1 := hL.keep fun j hj => k1.old j (by omega)
  have r1 := h (l := [0, 1, 2, 4, 8, 5, 6]) (BsAt.at i1 0 7 14 75 (u16s [0, 1, 2, 4, 8, 5, 6]) _ .sh hL1.b1 (by simp [u16s]) rfl (by omega)) rfl 1 (by simp)
  refine ⟨A1, ?run, k1⟩
  case run =>
    conv => lhs; whnf
    refine bind_of (cellsAt_of g1 _ _) ?_
    conv => lhs; whnf
    refine bind_of (cellsAt_of g1 _ _) ?_
    conv => lhs; whnf
    refine bind_of (cellsAt_of g1 _ _) ?_
    conv => lhs; whnf
    refine bind_of (cellsAt_of hL1.law _ _) ?_
    conv => lhs; whnf
    refine bind_of (cellsAt_of g1 _ _) ?_
    conv => lhs; whnf
    refine bind_of r1 ?_
    conv => lhs; whnf
    refine bind_of (cellsAt_of g1 _ _) ?_
    conv => lhs; whnf
    refine bind_of (cellsAt_of g1 _ _) ?_
    conv => lhs; whnf
    refine bind_of (cellsAt_of g1 _ _) ?_
    conv => lhs; whnf
    rw [hs]
    conv => lhs; whnf
    refine bind_of (cellsAt_of g1 _ _) ?_
    conv => lhs; whnf
    refine bind_of (cellsAt_of g1 _ _) ?_
    conv => lhs; whnf
    refine bind_of (cellsAt_of g1 _ _) ?_
    conv => lhs; whnf
    refine bind_of (cellsAt_of g1 _ _) ?_
    conv => lhs; whnf
    refine bind_of (cellsAt_of g1 _ _) ?_
    conv => lhs; whnf
    try rfl

theorem check_2 {call : CallT} (h : HasOK call) (lf : Nat) {A : Hp} (hw : A.wf) {N i0 i1 i2 i3 : Nat} (hL : LW N i0 i1 i2 i3 A) (hn : N ≤ A.next) {s v : Int} (hs : (s == 0) = false) (m : Int) :
    ∃ A', kfn Tryd.bk.E call (Tryd.bk.inf 53) lf Tryd.f53 [hdV 1 2 s v, .int .i64 m] A = some (.nilIface, A') ∧ Kp A A' := by
  let A1 : Hp := A.push (.arr 77 (HC 1 2 s v) .own)
  have k1 : Kp A A1 := Kp.push hw _
  have g1 : A1.get A.next = some (.arr 77 (HC 1 2 s v) .own) := Hp.get_push_same _ _
  have hL1 : LW N i0 i1 i2 i3 A1 := hL.keep fun j hj => k1.old j (by omega)
  have r1 := h (l := [0, 1, 2, 4, 8, 5, 6]) (BsAt.at i1 0 7 14 75 (u16s [0, 1, 2, 4, 8, 5, 6]) _ .sh hL1.b1 (by simp [u16s]) rfl (by omega)) rfl 2 (by simp)
  refine ⟨A1, ?run, k1⟩
  case run =>
    conv => lhs; whnf
    refine bind_of (cellsAt_of g1 _ _) ?_
    conv => lhs; whnf
    refine bind_of (cellsAt_of g1 _ _) ?_
    conv => lhs; whnf
    refine bind_of (cellsAt_of g1 _ _) ?_
    conv => lhs; whnf
    refine bind_of (cellsAt_of hL1.law _ _) ?_
    conv => lhs; whnf
    refine bind_of (cellsAt_of g1 _ _) ?_
    conv => lhs; whnf
    refine bind_of r1 ?_
    conv => lhs; whnf
    refine bind_of (cellsAt_of g1 _ _) ?_
    conv => lhs; whnf
    refine bind_of (cellsAt_of g1 _ _) ?_
    conv => lhs; whnf
    refine bind_of (cellsAt_of g1 _ _) ?_
    conv => lhs; whnf
    rw [hs]
    conv => lhs; whnf
    refine bind_of (cellsAt_of g1 _ _) ?_
    conv => lhs; whnf
    refine bind_of (cellsAt_of g1 _ _) ?_
    conv => lhs; whnf
    refine bind_of (cellsAt_of g1 _ _) ?_
    conv => lhs; whnf
    refine bind_of (cellsAt_of g1 _ _) ?_
    conv => lhs; whnf
    refine bind_of (cellsAt_of g1 _ _) ?_
    conv => lhs; whnf
    try rfl

theorem check_3 {call : CallT} (h : HasOK call) (lf : Nat) {A : Hp} (hw : A.wf) {N i0 i1 i2 i3 : Nat} (hL : LW N i0 i1 i2 i3 A) (hn : N ≤ A.next) {s v : Int} (hs : (s == 0) = false) (m : Int) :
    ∃ A', kfn Tryd.bk.E call (Tryd.bk.inf 53) lf Tryd.f53 [hdV 1 0 s v, .int .i64 m] A = some (.nilIface, A') ∧ Kp A A' := by
  let A1 : Hp := A.push (.arr 77 (HC 1 0 s v) .own)
  have k1 : Kp A A1 := Kp.push hw _
  have g1 : A1.get A.next = some (.arr 77 (HC 1 0 s v) .own) := Hp.get_push_same _ _
  have hL1 : LW N i0 i1 i2 i3 A1 := hL.keep fun j hj => k1.old j (by omega)
  have r1 := h (l := [0, 1, 2, 4, 8, 5, 6]) (BsAt.at i1 0 7 14 75 (u16s [0, 1, 2, 4, 8, 5, 6]) _ .sh hL1.b1 (by simp [u16s]) rfl (by omega)) rfl 0 (by simp)
  refine ⟨A1, ?run, k1⟩
  case run =>
    conv => lhs; whnf
    refine bind_of (cellsAt_of g1 _ _) ?_
    conv => lhs; whnf
    refine bind_of (cellsAt_of g1 _ _) ?_
    conv => lhs; whnf
    refine bind_of (cellsAt_of g1 _ _) ?_
    conv => lhs; whnf
    refine bind_of (cellsAt_of hL1.law _ _) ?_
    conv => lhs; whnf
    refine bind_of (cellsAt_of g1 _ _) ?_
    conv => lhs; whnf
    refine bind_of r1 ?_
    conv => lhs; whnf
    refine bind_of (cellsAt_of g1 _ _) ?_
    conv => lhs; whnf
    refine bind_of (cellsAt_of g1 _ _) ?_
    conv => lhs; whnf
    refine bind_of (cellsAt_of g1 _ _) ?_
    conv => lhs; whnf
    rw [hs]
    conv => lhs; whnf
    refine bind_of (cellsAt_of g1 _ _) ?_
    conv => lhs; whnf
    refine bind_of (cellsAt_of g1 _ _) ?_
    conv => lhs; whnf
    refine bind_of (cellsAt_of g1 _ _) ?_
    conv => lhs; whnf
    refine bind_of (cellsAt_of g1 _ _) ?_
    conv => lhs; whnf
    refine bind_of (cellsAt_of g1 _ _) ?_
    conv => lhs; whnf
    try rfl

theorem check_4 {call : CallT} (h : HasOK call) (lf : Nat) {A : Hp} (hw : A.wf) {N i0 i1 i2 i3 : Nat} (hL : LW N i0 i1 i2 i3 A) (hn : N ≤ A.next) {s v : Int} (hs : (s == 0) = false) (hv : (IntKind.i64.wrap v != 0) = false) (m : Int) :
    ∃ A', kfn Tryd.bk.E call (Tryd.bk.inf 53) lf Tryd.f53 [hdV 1 8 s v, .int .i64 m] A = some (.nilIface, A') ∧ Kp A A' := by
  let A1 : Hp := A.push (.arr 77 (HC 1 8 s v) .own)
  have k1 : Kp A A1 := Kp.push hw _
  have g1 : A1.get A.next = some (.arr 77 (HC 1 8 s v) .own) := Hp.get_push_same _ _
  have hL1 : LW N i0 i1 i2 i3 A1 := hL.keep fun j hj => k1.old j (by omega)
  have r1 := h (l := [0, 1, 2, 4, 8, 5, 6]) (BsAt.at i1 0 7 14 75 (u16s [0, 1, 2, 4, 8, 5, 6]) _ .sh hL1.b1 (by simp [u16s]) rfl (by omega)) rfl 8 (by simp)
  refine ⟨A1, ?run, k1⟩
  case run =>
    conv => lhs; whnf
    refine bind_of (cellsAt_of g1 _ _) ?_
    conv => lhs; whnf
    refine bind_of (cellsAt_of g1 _ _) ?_
    conv => lhs; whnf
    refine bind_of (cellsAt_of g1 _ _) ?_
    conv => lhs; whnf
    refine bind_of (cellsAt_of hL1.law _ _) ?_
    conv => lhs; whnf
    refine bind_of (cellsAt_of g1 _ _) ?_
    conv => lhs; whnf
    refine bind_of r1 ?_
    conv => lhs; whnf
    refine bind_of (cellsAt_of g1 _ _) ?_
    conv => lhs; whnf
    refine bind_of (cellsAt_of g1 _ _) ?_
    conv => lhs; whnf
    refine bind_of (cellsAt_of g1 _ _) ?_
    conv => lhs; whnf
    rw [hs]
    conv => lhs; whnf
    refine bind_of (cellsAt_of g1 _ _) ?_
    conv => lhs; whnf
    refine bind_of (cellsAt_of g1 _ _) ?_
    conv => lhs; whnf
    refine bind_of (cellsAt_of g1 _ _) ?_
    conv => lhs; whnf
    refine bind_of (cellsAt_of g1 _ _) ?_
    conv => lhs; whnf
    rw [hv]
    conv => lhs; whnf
    refine bind_of (cellsAt_of g1 _ _) ?_
    conv => lhs; whnf
    try rfl

theorem check_5 {call : CallT} (h : HasOK call) (lf : Nat) {A : Hp} (hw : A.wf) {N i0 i1 i2 i3 : Nat} (hL : LW N i0 i1 i2 i3 A) (hn : N ≤ A.next) {s v : Int} (hs : (s == 0) = true) (m : Int) :
    ∃ A', kfn Tryd.bk.E call (Tryd.bk.inf 53) lf Tryd.f53 [hdV 2 1 s v, .int .i64 m] A = some (.nilIface, A') ∧ Kp A A' := by
  let A1 : Hp := A.push (.arr 77 (HC 2 1 s v) .own)
  have k1 : Kp A A1 := Kp.push hw _
  have g1 : A1.get A.next = some (.arr 77 (HC 2 1 s v) .own) := Hp.get_push_same _ _
  have hL1 : LW N i0 i1 i2 i3 A1 := hL.keep fun j hj => k1.old j (by omega)
  have r1 := h (l := [1, 2]) (BsAt.at i2 0 2 4 75 (u16s [1, 2]) _ .sh hL1.b2 (by simp [u16s]) rfl (by omega)) rfl 1 (by simp)
  refine ⟨A1, ?run, k1⟩
  case run =>
    conv => lhs; whnf
    refine bind_of (cellsAt_of g1 _ _) ?_
    conv => lhs; whnf
    refine bind_of (cellsAt_of g1 _ _) ?_
    conv => lhs; whnf
    refine bind_of (cellsAt_of g1 _ _) ?_
    conv => lhs; whnf
    refine bind_of (cellsAt_of hL1.law _ _) ?_
    conv => lhs; whnf
    refine bind_of (cellsAt_of g1 _ _) ?_
    conv => lhs; whnf
    refine bind_of r1 ?_
    conv => lhs; whnf
    refine bind_of (cellsAt_of g1 _ _) ?_
    conv => lhs; whnf
    refine bind_of (cellsAt_of g1 _ _) ?_
    conv => lhs; whnf
    rw [hs]
    conv => lhs; whnf
    refine bind_of (cellsAt_of g1 _ _) ?_
    conv => lhs; whnf
    refine bind_of (cellsAt_of g1 _ _) ?_
    conv => lhs; whnf
    refine bind_of (cellsAt_of g1 _ _) ?_
    conv => lhs; whnf
    refine bind_of (cellsAt_of g1 _ _) ?_
    conv => lhs; whnf
    try rfl

theorem check_6 {call : CallT} (h : HasOK call) (lf : Nat) {A : Hp} (hw : A.wf) {N i0 i1 i2 i3 : Nat} (hL : LW N i0 i1 i2 i3 A) (hn : N ≤ A.next) {s v : Int} (hs : (s == 0) = true) (m : Int) :
    ∃ A', kfn Tryd.bk.E call (Tryd.bk.inf 53) lf Tryd.f53 [hdV 2 2 s v, .int .i64 m] A = some (.nilIface, A') ∧ Kp A A' := by
  let A1 : Hp := A.push (.arr 77 (HC 2 2 s v) .own)
  have k1 : Kp A A1 := Kp.push hw _
  have g1 : A1.get A.next = some (.arr 77 (HC 2 2 s v) .own) := Hp.get_push_same _ _
  have hL1 : LW N i0 i1 i2 i3 A1 := hL.keep fun j hj => k1.old j (by omega)
  have r1 := h (l := [1, 2]) (BsAt.at i2 0 2 4 75 (u16s [1, 2]) _ .sh hL1.b2 (by simp [u16s]) rfl (by omega)) rfl 2 (by simp)
  refine ⟨A1, ?run, k1⟩
  case run =>
    conv => lhs; whnf
    refine bind_of (cellsAt_of g1 _ _) ?_
    conv => lhs; whnf
    refine bind_of (cellsAt_of g1 _ _) ?_
    conv => lhs; whnf
    refine bind_of (cellsAt_of g1 _ _) ?_
    conv => lhs; whnf
    refine bind_of (cellsAt_of hL1.law _ _) ?_
    conv => lhs; whnf
    refine bind_of (cellsAt_of g1 _ _) ?_
    conv => lhs; whnf
    refine bind_of r1 ?_
    conv => lhs; whnf
    refine bind_of (cellsAt_of g1 _ _) ?_
    conv => lhs; whnf
    refine bind_of (cellsAt_of g1 _ _) ?_
    conv => lhs; whnf
    rw [hs]
    conv => lhs; whnf
    refine bind_of (cellsAt_of g1 _ _) ?_
    conv => lhs; whnf
    refine bind_of (cellsAt_of g1 _ _) ?_
    conv => lhs; whnf
    refine bind_of (cellsAt_of g1 _ _) ?_
    conv => lhs; whnf
    refine bind_of (cellsAt_of g1 _ _) ?_
    conv => lhs; whnf
    try rfl

theorem check_7 {call : CallT} (h : HasOK call) (lf : Nat) {A : Hp} (hw : A.wf) {N i0 i1 i2 i3 : Nat} (hL : LW N i0 i1 i2 i3 A) (hn : N ≤ A.next) {s v : Int} (hs : (s == 0) = true) (hv : ¬ IntKind.i64.wrap v > 2) (m : Int) :
    ∃ A', kfn Tryd.bk.E call (Tryd.bk.inf 53) lf Tryd.f53 [hdV 3 0 s v, .int .i64 m] A = some (.nilIface, A') ∧ Kp A A' := by
  let A1 : Hp := A.push (.arr 77 (HC 3 0 s v) .own)
  have k1 : Kp A A1 := Kp.push hw _
  have g1 : A1.get A.next = some (.arr 77 (HC 3 0 s v) .own) := Hp.get_push_same _ _
  have hL1 : LW N i0 i1 i2 i3 A1 := hL.keep fun j hj => k1.old j (by omega)
  have r1 := h (l := [0]) (BsAt.at i3 0 1 2 75 (u16s [0]) _ .sh hL1.b3 (by simp [u16s]) rfl (by omega)) rfl 0 (by simp)
  refine ⟨A1, ?run, k1⟩
  case run =>
    conv => lhs; whnf
    refine bind_of (cellsAt_of g1 _ _) ?_
    conv => lhs; whnf
    refine bind_of (cellsAt_of g1 _ _) ?_
    conv => lhs; whnf
    refine bind_of (cellsAt_of g1 _ _) ?_
    conv => lhs; whnf
    refine bind_of (cellsAt_of hL1.law _ _) ?_
    conv => lhs; whnf
    refine bind_of (cellsAt_of g1 _ _) ?_
    conv => lhs; whnf
    refine bind_of r1 ?_
    conv => lhs; whnf
    refine bind_of (cellsAt_of g1 _ _) ?_
    conv => lhs; whnf
    refine bind_of (cellsAt_of g1 _ _) ?_
    conv => lhs; whnf
    refine bind_of (cellsAt_of g1 _ _) ?_
    conv => lhs; whnf
    rw [hs]
    conv => lhs; whnf
    refine bind_of (cellsAt_of g1 _ _) ?_
    conv => lhs; whnf
    refine bind_of (cellsAt_of g1 _ _) ?_
    conv => lhs; whnf
    refine bind_of (cellsAt_of g1 _ _) ?_
    conv => lhs; whnf
    refine bind_of (cellsAt_of g1 _ _) ?_
    conv => lhs; whnf
    rw [kdecn hv]
    conv => lhs; whnf
    try rfl

end Go.Dn.Lf
end

section
/-
  which tickets may be
-/
namespace Go.Dn.Lf
open Go.Proofs Go.Dn.Ln
set_option maxHeartbeats 400000
set_option maxRecDepth 100000

theorem may_is {k s v : Int} (h : mayC k s v = 0) : 1 ≤ k ∧ k ≤ 7 ∧ (k ≤ 4 → s ≠ 0) ∧ (5 ≤ k → s = 0) ∧ ((k = 1 ∨ k = 2 ∨ k = 4) → v = 0) ∧ (k = 3 → v ≠ 0) ∧ (k = 7 → v ≤ 2) := by
  unfold mayC at h
  split at h
  · cases h
  · rename_i hk
    split at h
    · rename_i hs
      split at h
      · cases h
      · rename_i hv
        have hv1 : ∀ p : Prop, (k = 1 ∨ k = 2 ∨ k = 4) → v ≠ 0 → False := fun _ a b => hv (.inl ⟨a, b⟩)
        refine ⟨by omega, by omega, fun h4 h0 => ?_, fun h5 => ?_, fun a => Decidable.byContradiction fun b => hv (.inl ⟨a, b⟩), fun a b => hv (.inr (.inl ⟨a, b⟩)), fun a => Decidable.byContradiction fun b => hv (.inr (.inr ⟨a, by omega⟩))⟩
        · rw [h0, decide_eq_false (by omega)] at hs
          cases hs
        · rw [decide_eq_true (by omega)] at hs
          simpa using hs
    · cases h

theorem may_bad {k : Nat} (h1 : 1 ≤ k) (h7 : k ≤ 7) {s v : Int} : badT k s v = if mayC k s v = 0 then none else if mayC k s v = 15 then some 5 else some 10 := by
  match k, h1, h7 with
  | 1, _, _ => simp [badT, mayC, fitB, sF, vF]; split <;> simp_all
  | 2, _, _ => simp [badT, mayC, fitB, sF, vF]; split <;> simp_all
  | 3, _, _ => simp [badT, mayC, fitB, sF, vF]; split <;> simp_all
  | 4, _, _ => simp [badT, mayC, fitB, sF, vF]; split <;> simp_all
  | 5, _, _ => simp [badT, mayC, fitB, sF, vF]; split <;> simp_all
  | 6, _, _ => simp [badT, mayC, fitB, sF, vF]; split <;> simp_all
  | 7, _, _ => simp [badT, mayC, fitB, sF, vF]; split <;> simp_all
end Go.Dn.Lf
end

section
/-
  LaneFrames: run
-/
namespace Go.Dn.Lf
open Go.Proofs Go.Dn.Ln
set_option maxHeartbeats 400000
set_option maxRecDepth 100000
attribute [local irreducible] Hp.get Hp.set Hp.push dappend dcopy dstore cellsAt callD loopD guardL hideL backL

/-- the error's sentinel for a document's code -/
def gE (c : Int) : Nat := if c = 12 then 7 else if c = 15 then 5 else 10
structure FR (call : CallT) : Prop where
  wakes : ∀ A, call 15 [] A = some (.bool true, A)
  rbad : ∀ {A : Hp}, A.wf → ∀ {k s v : Int}, mayC k s v ≠ 0 → ∃ A', call 50 [tkV k s v] A = some (.tuple #[hdV 0 0 0 0, .int .i64 (mayC k s v)], A') ∧ Kp A A'
  rok : ∀ {A : Hp}, A.wf → ∀ {k s v : Int}, mayC k s v = 0 → ∃ A', call 50 [tkV k s v] A = some (.tuple #[hdV (tK k.toNat) (fK k.toNat) s v, .int .i64 0], A') ∧ Kp A A'
  pbad : ∀ {A : Hp}, A.wf → LC A → 44 ≤ A.next → ∀ {k s v : Int}, mayC k s v ≠ 0 → ∃ A', call 51 [tkV k s v] A = some (.tuple #[frV 0 0 0 0, errV (gE (mayC k s v))], A') ∧ Kp A A'
  pok : ∀ {A : Hp}, A.wf → LC A → 44 ≤ A.next → ∀ {k s v : Int}, mayC k s v = 0 → ∃ A', call 51 [tkV k s v] A = some (.tuple #[frV (tK k.toNat) (fK k.toNat) s v, .nilIface], A') ∧ Kp A A'
  code0 : ∀ A, call 28 [.nilIface] A = some (.int .i64 0, A)
  codeE : ∀ A {k s v : Int}, mayC k s v ≠ 0 → call 28 [errV (gE (mayC k s v))] A = some (.int .i64 (mayC k s v), A)

section
variable {call : CallT} (h : FR call) (lf : Nat) {A : Hp} (hw : A.wf) (hC : LC A) (hn : 44 ≤ A.next)
include h hw hC hn

/-- the first ticket may not be -/
theorem frames_bad1 {k s v kb sb vb m : Int} (hm : mayC k s v ≠ 0) :
    ∃ A', kfn Tryd.bk.E call (Tryd.bk.inf 11) lf Tryd.f11 [tkV k s v, tkV kb sb vb, .int .i64 m] A = some (.bool true, A') := by
  let A1 : Hp := A.push (.arr 29 (TC k s v) .own)
  have k1 : Kp A A1 := Kp.push hw _
  have n1 : A1.next = A.next + 1 := Hp.next_push _ _
  let A2 : Hp := A1.push (.arr 29 (TC kb sb vb) .own)
  have k2 : Kp A1 A2 := Kp.push k1.wf _
  have n2 : A2.next = A1.next + 1 := Hp.next_push _ _
  have k02 := k1.trans k2
  have g1 : A2.get A.next = some (.arr 29 (TC k s v) .own) := (k2.old _ (by omega)).trans (Hp.get_push_same _ _)
  have g2 : A2.get A1.next = some (.arr 29 (TC kb sb vb) .own) := Hp.get_push_same _ _
  obtain ⟨A3, r3, k3⟩ := h.rbad k02.wf hm
  have n3 := k3.nx
  let A4 : Hp := A3.push (.arr 77 (HC 0 0 0 0) .own)
  have z4 : A4.get A3.next = some (.arr 77 (HC 0 0 0 0) .own) := Hp.get_push_same _ _
  let A5 : Hp := A4.set A3.next (some (.arr 77 (HC 0 0 0 0) .own))
  have k5 : Kp A3 A5 := (Kp.push k3.wf _).set z4 (Nat.le_refl _) _
  have z5 : A5.get A3.next = some (.arr 77 (HC 0 0 0 0) .own) := Hp.get_set_same _ _ _
  have k35 := k3.trans k5
  have k05 := k02.trans k35
  have g15 : A5.get A.next = some (.arr 29 (TC k s v) .own) := (k35.old _ (by omega)).trans g1
  have n5 := k5.nx
  obtain ⟨A6, r6, k6⟩ := h.pbad k05.wf (hC.keep fun j hj => k05.old j (by omega)) (by omega) hm
  have n6 := k6.nx
  let A7 : Hp := A6.push (.arr 80 (FC 0 0 0 0) .own)
  have z7 : A7.get A6.next = some (.arr 80 (FC 0 0 0 0) .own) := Hp.get_push_same _ _
  let A8 : Hp := A7.set A6.next (some (.arr 80 (FC 0 0 0 0) .own))
  have k8 : Kp A6 A8 := (Kp.push k6.wf _).set z7 (Nat.le_refl _) _
  have z8 : A8.get A6.next = some (.arr 80 (FC 0 0 0 0) .own) := Hp.get_set_same _ _ _
  have z58 : A8.get A3.next = some (.arr 77 (HC 0 0 0 0) .own) := ((k6.trans k8).old _ (k5.wf.lt z5)).trans z5
  have k08 := k05.trans (k6.trans k8)
  have g28 : A8.get A1.next = some (.arr 29 (TC kb sb vb) .own) := ((k35.trans (k6.trans k8)).old _ (by omega)).trans g2
  have n8 := k08.nx
  obtain ⟨t', f', s', v', E', A9, r9, k9⟩ : ∃ t' f' s' v' : Int, ∃ E' A9, call 51 [tkV kb sb vb] A8 = some (.tuple #[frV t' f' s' v', E'], A9) ∧ Kp A8 A9 := by
    by_cases hb : mayC kb sb vb = 0
    · obtain ⟨A9, r, q⟩ := h.pok k08.wf (hC.keep fun j hj => k08.old j (by omega)) (by omega) hb
      exact ⟨_, _, _, _, _, A9, r, q⟩
    · obtain ⟨A9, r, q⟩ := h.pbad k08.wf (hC.keep fun j hj => k08.old j (by omega)) (by omega) hb
      exact ⟨_, _, _, _, _, A9, r, q⟩
  let B1 : Hp := A9.push (.arr 80 (FC 0 0 0 0) .own)
  have y1 : B1.get A9.next = some (.arr 80 (FC 0 0 0 0) .own) := Hp.get_push_same _ _
  refine ⟨?A9, ?run⟩
  case run =>
    conv => lhs; whnf
    refine bind_of (h.wakes _) ?_
    conv => lhs; whnf
    refine bind_of (cellsAt_of g1 _ _) ?_
    conv => lhs; whnf
    refine bind_of r3 ?_
    conv => lhs; whnf
    refine bind_of (dstore_of z4 (t := 77) (o := 0) (cs' := HC 0 0 0 0) rfl) ?_
    conv => lhs; whnf
    refine bind_of (cellsAt_of g15 _ _) ?_
    conv => lhs; whnf
    refine bind_of r6 ?_
    conv => lhs; whnf
    refine bind_of (dstore_of z7 (t := 80) (o := 0) (cs' := FC 0 0 0 0) rfl) ?_
    conv => lhs; whnf
    refine bind_of (h.codeE _ hm) ?_
    conv => lhs; whnf
    rw [show (mayC k s v != mayC k s v) = false by simp]
    conv => lhs; whnf
    refine bind_of (cellsAt_of z8 _ _) ?_
    conv => lhs; whnf
    refine bind_of (cellsAt_of z58 _ _) ?_
    conv => lhs; whnf
    refine bind_of (cellsAt_of z8 _ _) ?_
    conv => lhs; whnf
    refine bind_of (cellsAt_of g28 _ _) ?_
    conv => lhs; whnf
    refine bind_of r9 ?_
    conv => lhs; whnf
    refine bind_of (dstore_of y1 (t := 80) (o := 0) (cs' := FC t' f' s' v') rfl) ?_
    conv => lhs; whnf
    try rfl
end
end Go.Dn.Lf
end

section
/-
  LaneFrames: run
-/
namespace Go.Dn.Lf
open Go.Proofs Go.Dn.Ln
set_option maxHeartbeats 400000
set_option maxRecDepth 100000
attribute [local irreducible] Hp.get Hp.set Hp.push dappend dcopy dstore cellsAt callD loopD guardL hideL backL

theorem hd_eq (t f s v : Int) : deqF Tryd.bk.E 20 77 (hdV t f s v) (hdV t f s v) = some true := by
  have e77 : Tryd.bk.E.T 77 = some Go.Dn.Tryd.ti77 := rfl
  have i1 : ∀ (k : IntKind) (ty : Nat) (x : Int), (∃ i, Tryd.bk.E.T ty = some i ∧ i.d = TypeDesc.int k) → deqF Tryd.bk.E 19 ty (.int k x) (.int k x) = some true := fun k ty x ⟨i, h1, h2⟩ => by
    simp only [deqF, h1, Option.bind_some, h2, if_true, BEq.rfl]
  have a1 := i1 .u8 5 0 ⟨_, rfl, rfl⟩
  have a2 := i1 .u8 5 t ⟨_, rfl, rfl⟩
  have a3 := i1 .u16 75 f ⟨_, rfl, rfl⟩
  have a4 := i1 .u32 27 s ⟨_, rfl, rfl⟩
  have a5 := i1 .u32 27 v ⟨_, rfl, rfl⟩
  unfold deqF
  rw [e77]
  generalize deqF Tryd.bk.E 19 = D at a1 a2 a3 a4 a5
  show (D 5 (.int .u8 0) (.int .u8 0)).bind _ = _
  rw [a1]
  show (D 5 (.int .u8 t) (.int .u8 t)).bind _ = _
  rw [a2]
  show (D 75 (.int .u16 f) (.int .u16 f)).bind _ = _
  rw [a3]
  show (D 27 (.int .u32 s) (.int .u32 s)).bind _ = _
  rw [a4]
  show (D 27 (.int .u32 v) (.int .u32 v)).bind _ = _
  rw [a5]
  rfl
section
variable {call : CallT} (h : FR call) (lf : Nat) {A : Hp} (hw : A.wf) (hC : LC A) (hn : 44 ≤ A.next)
include h hw hC hn

/-- the second ticket may not be -/
theorem frames_bad2 {k s v kb sb vb m : Int} (hm : mayC k s v = 0) (hb : mayC kb sb vb ≠ 0) :
    ∃ A', kfn Tryd.bk.E call (Tryd.bk.inf 11) lf Tryd.f11 [tkV k s v, tkV kb sb vb, .int .i64 m] A = some (.bool true, A') := by
  let A1 : Hp := A.push (.arr 29 (TC k s v) .own)
  have k1 : Kp A A1 := Kp.push hw _
  have n1 : A1.next = A.next + 1 := Hp.next_push _ _
  let A2 : Hp := A1.push (.arr 29 (TC kb sb vb) .own)
  have k2 : Kp A1 A2 := Kp.push k1.wf _
  have n2 : A2.next = A1.next + 1 := Hp.next_push _ _
  have k02 := k1.trans k2
  have g1 : A2.get A.next = some (.arr 29 (TC k s v) .own) := (k2.old _ (by omega)).trans (Hp.get_push_same _ _)
  have g2 : A2.get A1.next = some (.arr 29 (TC kb sb vb) .own) := Hp.get_push_same _ _
  obtain ⟨A3, r3, k3⟩ := h.rok k02.wf hm
  have hp : ∀ {A : Hp}, A.wf → LC A → 44 ≤ A.next → ∃ A', call 51 [tkV k s v] A = some (.tuple #[frV (tK k.toNat) (fK k.toNat) s v, .nilIface], A') ∧ Kp A A' := fun a b c => h.pok a b c hm
  generalize tK k.toNat = t at r3 hp
  generalize fK k.toNat = f at r3 hp
  have n3 := k3.nx
  let A4 : Hp := A3.push (.arr 77 (HC 0 0 0 0) .own)
  have z4 : A4.get A3.next = some (.arr 77 (HC 0 0 0 0) .own) := Hp.get_push_same _ _
  let A5 : Hp := A4.set A3.next (some (.arr 77 (HC t f s v) .own))
  have k5 : Kp A3 A5 := (Kp.push k3.wf _).set z4 (Nat.le_refl _) _
  have z5 : A5.get A3.next = some (.arr 77 (HC t f s v) .own) := Hp.get_set_same _ _ _
  have k35 := k3.trans k5
  have k05 := k02.trans k35
  have g15 : A5.get A.next = some (.arr 29 (TC k s v) .own) := (k35.old _ (by omega)).trans g1
  have n5 := k5.nx
  obtain ⟨A6, r6, k6⟩ := hp k05.wf (hC.keep fun j hj => k05.old j (by omega)) (by omega)
  have n6 := k6.nx
  let A7 : Hp := A6.push (.arr 80 (FC 0 0 0 0) .own)
  have z7 : A7.get A6.next = some (.arr 80 (FC 0 0 0 0) .own) := Hp.get_push_same _ _
  let A8 : Hp := A7.set A6.next (some (.arr 80 (FC t f s v) .own))
  have k8 : Kp A6 A8 := (Kp.push k6.wf _).set z7 (Nat.le_refl _) _
  have z8 : A8.get A6.next = some (.arr 80 (FC t f s v) .own) := Hp.get_set_same _ _ _
  have z58 : A8.get A3.next = some (.arr 77 (HC t f s v) .own) := ((k6.trans k8).old _ (k5.wf.lt z5)).trans z5
  have k08 := k05.trans (k6.trans k8)
  have g28 : A8.get A1.next = some (.arr 29 (TC kb sb vb) .own) := ((k35.trans (k6.trans k8)).old _ (by omega)).trans g2
  have n8 := k08.nx
  obtain ⟨A9, r9, k9⟩ := h.pbad k08.wf (hC.keep fun j hj => k08.old j (by omega)) (by omega) hb
  let B1 : Hp := A9.push (.arr 80 (FC 0 0 0 0) .own)
  have y1 : B1.get A9.next = some (.arr 80 (FC 0 0 0 0) .own) := Hp.get_push_same _ _
  refine ⟨?A9, ?run⟩
  case run =>
    conv => lhs; whnf
    refine bind_of (h.wakes _) ?_
    conv => lhs; whnf
    refine bind_of (cellsAt_of g1 _ _) ?_
    conv => lhs; whnf
    refine bind_of r3 ?_
    conv => lhs; whnf
    refine bind_of (dstore_of z4 (t := 77) (o := 0) (cs' := HC t f s v) rfl) ?_
    conv => lhs; whnf
    refine bind_of (cellsAt_of g15 _ _) ?_
    conv => lhs; whnf
    refine bind_of r6 ?_
    conv => lhs; whnf
    refine bind_of (dstore_of z7 (t := 80) (o := 0) (cs' := FC t f s v) rfl) ?_
    conv => lhs; whnf
    refine bind_of (h.code0 _) ?_
    conv => lhs; whnf
    refine bind_of (cellsAt_of z8 _ _) ?_
    conv => lhs; whnf
    refine bind_of (cellsAt_of z58 _ _) ?_
    conv => lhs; whnf
    refine bind_of (a := Value.bool false) ?eq1 ?_
    case eq1 => exact congrArg (Option.map fun b => Value.bool !b) (hd_eq t f s v)
    conv => lhs; whnf
    refine bind_of (cellsAt_of z8 _ _) ?_
    conv => lhs; whnf
    refine bind_of (cellsAt_of g28 _ _) ?_
    conv => lhs; whnf
    refine bind_of r9 ?_
    conv => lhs; whnf
    refine bind_of (dstore_of y1 (t := 80) (o := 0) (cs' := FC 0 0 0 0) rfl) ?_
    conv => lhs; whnf
    try rfl
end
end Go.Dn.Lf
end

section
/-
  runs that end somewhere, with what is known there
-/
namespace Go.Dn
/-- a run ends with an answer of which Q -/
def Run {α : Type} (X : Option α) (Q : α → Prop) : Prop := ∃ r, X = some r ∧ Q r
theorem rb {α β : Type} {X : Option α} {a : α} {k : α → Option β} {Q : β → Prop} (h : X = some a) (h2 : Run (k a) Q) : Run (X.bind k) Q := by rw [h]; exact h2
theorem rbR {α β : Type} {X : Option α} {P : α → Prop} {k : α → Option β} {Q : β → Prop} (h : Run X P) (h2 : ∀ a, P a → Run (k a) Q) : Run (X.bind k) Q := by
  obtain ⟨a, e, p⟩ := h
  exact rb e (h2 a p)
theorem rfin {α : Type} {r : α} {Q : α → Prop} (h : Q r) : Run (some r) Q := ⟨r, rfl, h⟩
theorem Run.eq {α : Type} {X : Option α} {r : α} (h : Run X fun x => x = r) : X = some r := by
  obtain ⟨x, e, p⟩ := h
  rw [e, p]
theorem Run.mono {α : Type} {X : Option α} {P Q : α → Prop} (h : Run X P) (hq : ∀ a, P a → Q a) : Run X Q := by
  obtain ⟨x, e, p⟩ := h
  exact ⟨x, e, hq x p⟩
theorem rct {α : Type} {c : Bool} {a b : Option α} {Q : α → Prop} (h : c = true) (h2 : Run a Q) : Run (cond c a b) Q := by rw [h]; exact h2
theorem rcf {α : Type} {c : Bool} {a b : Option α} {Q : α → Prop} (h : c = false) (h2 : Run b Q) : Run (cond c a b) Q := by rw [h]; exact h2

theorem gpo {A : Hp} {i : Nat} {o x : Ob} (hw : A.wf) (g : A.get i = some x) : (A.push o).get i = some x := (Hp.get_push_ne _ _ (by have := hw.lt g; omega)).trans g
theorem gso {A : Hp} {i j : Nat} {x : Option Ob} {y : Option Ob} (h : i ≠ j) (g : A.get i = x) : (A.set j y).get i = x := (Hp.get_set_ne _ _ h).trans g

theorem elems_at {A : Hp} {b o n c sz : Nat} {T : TypeId} {cs us : List Value} {md : Md} (hg : A.get b = some (.arr T cs md)) (he : cellsIn cs o (n * sz) = some us) (hn : Nat.beq n 0 = false) : elemsOf A sz (.slice (some ⟨b, o, some sz⟩) n c) = some (n, us) := by
  simp only [elemsOf, if_true, hn, cond_false]
  rw [cellsAt_of hg, he]
  rfl
end Go.Dn
end

section
/-
  LaneFrames: run
-/
namespace Go.Dn.Ln
theorem Kp.keep {A B : Hp} (h : Kp A B) {i : Nat} {o : Ob} (hw : A.wf) (g : A.get i = some o) : B.get i = some o := (h.old _ (hw.lt g)).trans g
end Go.Dn.Ln
end

section
namespace Go.Dn.Lf
open Go.Proofs Go.Dn.Ln
set_option maxHeartbeats 4000000
set_option maxRecDepth 100000
attribute [local irreducible] Hp.get Hp.set Hp.push dappend dcopy dstore cellsAt callD loopD guardL hideL backL

def BytesK (call : CallT) : Prop := ∀ {A : Hp}, A.wf → ∀ t f s v : Int, t ≠ 0 → ∃ a c A', call 52 [frV t f s v] A = some (.tuple #[.slice a 12 c, .nilIface], A') ∧ Kp A A'
def CheckK (call : CallT) (N i0 i1 i2 i3 : Nat) (t f s v : Int) : Prop := ∀ {A : Hp}, A.wf → LW N i0 i1 i2 i3 A → N ≤ A.next → ∀ m : Int, ∃ A', call 53 [hdV t f s v, .int .i64 m] A = some (.nilIface, A') ∧ Kp A A'

section
variable {call : CallT} (h : FR call) (hby : BytesK call) (lf : Nat) {A : Hp} (hw : A.wf) (hC : LC A) {N i0 i1 i2 i3 : Nat} (hL : LW N i0 i1 i2 i3 A) (hn : N ≤ A.next) (hN : 44 ≤ N)
include h hby hw hC hn hL hN

theorem frames_both {k s v kb sb vb m t f tb fb : Int} {b : Bool} (hm : mayC k s v = 0) (hb : mayC kb sb vb = 0) (et : tK k.toNat = t) (ef : fK k.toNat = f) (etb : tK kb.toNat = tb) (efb : fK kb.toNat = fb) (t0 : t ≠ 0) (hck : CheckK call N i0 i1 i2 i3 t f s v)
    (q1 : deqF Tryd.bk.E 20 29 (tkV k s v) (tkV kb sb vb) = some b) (q2 : deqF Tryd.bk.E 20 77 (hdV t f s v) (hdV tb fb sb vb) = some b) :
    Run (kfn Tryd.bk.E call (Tryd.bk.inf 11) lf Tryd.f11 [tkV k s v, tkV kb sb vb, .int .i64 m] A) fun r => r.1 = .bool true := by
  have hpk : ∀ {A : Hp}, A.wf → LC A → 44 ≤ A.next → ∃ A', call 51 [tkV k s v] A = some (.tuple #[frV t f s v, .nilIface], A') ∧ Kp A A' := fun a b c => by rw [← et, ← ef]; exact h.pok a b c hm
  have hpb : ∀ {A : Hp}, A.wf → LC A → 44 ≤ A.next → ∃ A', call 51 [tkV kb sb vb] A = some (.tuple #[frV tb fb sb vb, .nilIface], A') ∧ Kp A A' := fun a b c => by rw [← etb, ← efb]; exact h.pok a b c hb
  have hr : ∀ {A : Hp}, A.wf → ∃ A', call 50 [tkV k s v] A = some (.tuple #[hdV t f s v, .int .i64 0], A') ∧ Kp A A' := fun a => by rw [← et, ← ef]; exact h.rok a hm
  clear et ef etb efb
  conv => lhs; whnf
  refine rb (h.wakes _) ?_
  conv => lhs; whnf
  refine rb (cellsAt_of (gpo (hw.push _) (Hp.get_push_same _ _)) _ _) ?_
  conv => lhs; whnf
  obtain ⟨A5, r5, k5⟩ := hr ((hw.push _).push _)
  refine rb r5 ?_
  have n5 := k5.nx
  simp only [Hp.next_push] at n5
  conv => lhs; whnf
  refine rb (dstore_of (Hp.get_push_same _ _) (t := 77) (o := 0) (cs' := [Go.Value.int Go.IntKind.u8 0, Go.Value.int Go.IntKind.u8 t, Go.Value.int Go.IntKind.u16 f, Go.Value.int Go.IntKind.u32 s, Go.Value.int Go.IntKind.u32 v]) (by kernel_rfl)) ?_
  conv => lhs; whnf
  have g6 := (k5.keep ((hw.push _).push _) (gpo (hw.push _) (Hp.get_push_same _ _)))
  refine rb (cellsAt_of (gso (by omega) (gpo k5.wf g6)) _ _) ?_
  conv => lhs; whnf
  have K7 := (((Kp.push hw _).trans (Kp.push (hw.push _) _)).trans k5)
  obtain ⟨A7, r7, k7⟩ := hpk ((K7.wf.push _).put (Hp.get_push_same _ _) _) (hC.keep fun j hj => ((K7.trans (Kp.push K7.wf _)).set (Hp.get_push_same _ _) (by omega) _).old j (by omega)) (by simp only [Hp.next_push, Hp.next_set]; omega)
  refine rb r7 ?_
  have n7 := k7.nx
  simp only [Hp.next_push, Hp.next_set] at n7
  conv => lhs; whnf
  refine rb (dstore_of (Hp.get_push_same _ _) (t := 80) (o := 0) (cs' := [Go.Value.int Go.IntKind.u8 0, Go.Value.int Go.IntKind.u8 t, Go.Value.int Go.IntKind.u16 f, Go.Value.int Go.IntKind.u32 s, Go.Value.int Go.IntKind.u32 v, Go.Value.slice Option.none 0 0]) (by kernel_rfl)) ?_
  conv => lhs; whnf
  refine rb (h.code0 _) ?_
  conv => lhs; whnf
  refine rb (cellsAt_of (Hp.get_set_same _ _ _) _ _) ?_
  conv => lhs; whnf
  have g9 := (k7.keep ((K7.wf.push _).put (Hp.get_push_same _ _) _) (Hp.get_set_same _ _ _))
  refine rb (cellsAt_of (gso (by omega) (gpo k7.wf g9)) _ _) ?_
  conv => lhs; whnf
  refine rb (congrArg (Option.map fun b => Value.bool !b) (hd_eq t f s v)) ?_
  conv => lhs; whnf
  refine rb (cellsAt_of (Hp.get_set_same _ _ _) _ _) ?_
  conv => lhs; whnf
  have g11 := (k7.keep ((K7.wf.push _).put (Hp.get_push_same _ _) _) (gso (by simp only [Hp.next_push]; omega) (gpo K7.wf (k5.keep ((hw.push _).push _) (Hp.get_push_same _ _)))))
  refine rb (cellsAt_of (gso (by simp only [Hp.next_push]; omega) (gpo k7.wf g11)) _ _) ?_
  conv => lhs; whnf
  have K12 := (((K7.trans (Kp.push K7.wf _)).set (Hp.get_push_same _ _) (by omega) _).trans k7)
  obtain ⟨A13, r13, k13⟩ := hpb ((K12.wf.push _).put (Hp.get_push_same _ _) _) (hC.keep fun j hj => ((K12.trans (Kp.push K12.wf _)).set (Hp.get_push_same _ _) (by omega) _).old j (by omega)) (by simp only [Hp.next_push, Hp.next_set]; omega)
  refine rb r13 ?_
  have n13 := k13.nx
  simp only [Hp.next_push, Hp.next_set] at n13
  conv => lhs; whnf
  refine rb (dstore_of (Hp.get_push_same _ _) (t := 80) (o := 0) (cs' := [Go.Value.int Go.IntKind.u8 0, Go.Value.int Go.IntKind.u8 tb, Go.Value.int Go.IntKind.u16 fb, Go.Value.int Go.IntKind.u32 sb, Go.Value.int Go.IntKind.u32 vb, Go.Value.slice Option.none 0 0]) (by kernel_rfl)) ?_
  conv => lhs; whnf
  have g14 := (k13.keep ((K12.wf.push _).put (Hp.get_push_same _ _) _) (Hp.get_set_same _ _ _))
  refine rb (cellsAt_of (gso (by omega) (gpo k13.wf g14)) _ _) ?_
  conv => lhs; whnf
  obtain ⟨a15, c15, A15, r15, k15⟩ := hby ((k13.wf.push _).put (Hp.get_push_same _ _) _) _ _ _ _ t0
  refine rb r15 ?_
  have n15 := k15.nx
  simp only [Hp.next_push, Hp.next_set] at n15
  conv => lhs; whnf
  have g16 := (k15.keep ((k13.wf.push _).put (Hp.get_push_same _ _) _) (gso (by omega) (gpo k13.wf g14)))
  refine rb (cellsAt_of g16 _ _) ?_
  conv => lhs; whnf
  have K17 := ((((((K12.trans (Kp.push K12.wf _)).set (Hp.get_push_same _ _) (by omega) _).trans k13).trans (Kp.push k13.wf _)).set (Hp.get_push_same _ _) (by omega) _).trans k15)
  obtain ⟨A17, r17, k17⟩ := hck K17.wf (hL.keep fun j hj => K17.old j (by omega)) (by omega) _
  refine rb r17 ?_
  have n17 := k17.nx
  conv => lhs; whnf
  have g18 := (k17.keep K17.wf (k15.keep ((k13.wf.push _).put (Hp.get_push_same _ _) _) (gso (by omega) (gpo k13.wf (k13.keep ((K12.wf.push _).put (Hp.get_push_same _ _) _) (gso (by omega) (gpo K12.wf (k7.keep ((K7.wf.push _).put (Hp.get_push_same _ _) _) (gso (by omega) (gpo K7.wf g6))))))))))
  refine rb (cellsAt_of g18 _ _) ?_
  conv => lhs; whnf
  have g19 := (k17.keep K17.wf (k15.keep ((k13.wf.push _).put (Hp.get_push_same _ _) _) (gso (by simp only [Hp.next_push]; omega) (gpo k13.wf (k13.keep ((K12.wf.push _).put (Hp.get_push_same _ _) _) (gso (by simp only [Hp.next_push]; omega) (gpo K12.wf g11)))))))
  refine rb (cellsAt_of g19 _ _) ?_
  conv => lhs; whnf
  refine rb (congrArg (Option.map fun b => Value.bool b) q1) ?_
  conv => lhs; whnf
  have g22 := (k17.keep K17.wf g16)
  refine rb (cellsAt_of g22 _ _) ?_
  conv => lhs; whnf
  have g23 := (k17.keep K17.wf (k15.keep ((k13.wf.push _).put (Hp.get_push_same _ _) _) (Hp.get_set_same _ _ _)))
  refine rb (cellsAt_of g23 _ _) ?_
  conv => lhs; whnf
  refine rb (congrArg (Option.map fun b => Value.bool b) q2) ?_
  conv => lhs; whnf
  refine rfin ?_
  simp [resV]
end
end Go.Dn.Lf
end

section
/-
  the document's lane (layer 11): lists of tickets as they lie; Find, Count
-/
namespace Go.Dn.Ln
open Go.Proofs
set_option maxHeartbeats 4000000
set_option maxRecDepth 100000
attribute [local irreducible] Hp.get Hp.set Hp.push dappend dcopy dstore cellsAt callD loopD

/-- a list of tickets of one's own -/
structure TsAt (A : Hp) (V : Value) (io : Option Nat) (ts : List Tk) : Prop where
  form : ∃ a c, V = .slice a ts.length c ∧ (ts ≠ [] → ∃ i, io = some i ∧ a = some ⟨i, 0, some 3⟩ ∧ A.get i = some (.arr 29 (ts.map tkc).flatten .own))
  sl : SlAt 29 3 A V io (ts.map tkc).flatten ts.length
theorem CanAt.ts {A : Hp} {V : Value} {io : Option Nat} {ts : List Tk} (h : CanAt 29 3 A V io (ts.map tkc).flatten ts.length) : TsAt A V io ts := by
  obtain ⟨a, c, rfl⟩ := h.sl3
  refine ⟨⟨a, c, rfl, fun hne => ?_⟩, h.slAt⟩
  obtain ⟨i, rfl⟩ := can_some h (fun e => hne (List.length_eq_zero_iff.1 e))
  obtain ⟨e, g, _⟩ := h.some_form
  simp only [Value.slice.injEq] at e
  exact ⟨i, rfl, e.1, g⟩
theorem TsAt.keep {A A' : Hp} {V : Value} {io : Option Nat} {ts : List Tk} (h : TsAt A V io ts) (hk : ∀ i, io = some i → A'.get i = A.get i) : TsAt A' V io ts := by
  obtain ⟨a, c, h1, h2⟩ := h.form
  refine ⟨⟨a, c, h1, fun hne => ?_⟩, h.sl.keep hk⟩
  obtain ⟨i, g1, g2, g3⟩ := h2 hne
  exact ⟨i, g1, g2, by rw [hk i g1]; exact g3⟩
theorem TsAt.lt {A : Hp} {V : Value} {i : Nat} {ts : List Tk} (h : TsAt A V (some i) ts) (hw : A.wf) : i < A.next := by
  obtain ⟨cs, hcs⟩ := h.sl.lt
  exact hw.lt hcs

theorem row_cells {cs : List Value} {o : Nat} {a b c : Value} (h : cellsIn cs o 3 = some [a, b, c]) : cellsIn cs o 1 = some [a] ∧ cellsIn cs (o + 1) 1 = some [b] ∧ cellsIn cs (o + 2) 1 = some [c] := by
  by_cases hl : o + 3 ≤ cs.length
  · have hb : Nat.ble (o + 3) cs.length = true := by simpa using hl
    unfold cellsIn at h
    rw [hb] at h
    simp only [cond_true, Option.some.injEq] at h
    have e1 : (cs.drop o)[0]? = some a := by
      have := congrArg (fun l => l[0]?) h
      simpa [List.getElem?_take] using this
    have e2 : (cs.drop o)[1]? = some b := by
      have := congrArg (fun l => l[1]?) h
      simpa [List.getElem?_take] using this
    have e3 : (cs.drop o)[2]? = some c := by
      have := congrArg (fun l => l[2]?) h
      simpa [List.getElem?_take] using this
    rw [List.getElem?_drop] at e1 e2 e3
    have one : ∀ j x, cs[j]? = some x → (cs.drop j).take 1 = [x] := fun j x hx => by
      obtain ⟨h1, h2⟩ := List.getElem?_eq_some_iff.1 hx
      rw [List.drop_eq_getElem_cons h1, h2]; rfl
    exact ⟨cellsIn_of (by omega) (one _ _ e1), cellsIn_of (by omega) (one _ _ e2), cellsIn_of (by omega) (one _ _ e3)⟩
  · have hb : Nat.ble (o + 3) cs.length = false := by
      cases h2 : Nat.ble (o + 3) cs.length with
      | false => rfl
      | true => exact absurd (by simpa using h2) hl
    unfold cellsIn at h
    rw [hb] at h
    cases h

theorem find_step {call : CallT} (lf : Nat) {A : Hp} {ts : List Tk} {it c i : Nat} (hg : A.get it = some (.arr 29 (ts.map tkc).flatten .own)) (k s : Int) {x : Tk} (hx : ts[i]? = some x) (hm : ts.length ≤ 100000000) :
    ∃ σ1 e, exec Tryd.bk.E call Tryd.f82.ntmps (Tryd.bk.inf 82) lf (loopOf Tryd.f82 0) [(0, .slice (some ⟨it, 0, some 3⟩) ts.length c), (1, .int .i64 k), (2, .int .u32 s), (6, .int .i64 0), (7, .int .i64 (i : Nat))] A = some (e, σ1, A) ∧
      ((wm k s x = false ∧ e = .normal ∧ keepSl (some [0, 1, 2, 6, 7]) σ1 = [(0, .slice (some ⟨it, 0, some 3⟩) ts.length c), (1, .int .i64 k), (2, .int .u32 s), (6, .int .i64 0), (7, .int .i64 (i + 1 : Nat))]) ∨
        (wm k s x = true ∧ e = .ret ∧ keepSl (some [0, 1, 2, 6, 7]) σ1 = [(0, .slice (some ⟨it, 0, some 3⟩) ts.length c), (1, .int .i64 k), (2, .int .u32 s), (6, .int .i64 (i : Nat)), (7, .int .i64 (i : Nat))])) := by
  have hi : i < ts.length := (List.getElem?_eq_some_iff.1 hx).1
  have e1 : ((i : Nat) : Int) < ((ts.length : Nat) : Int) := by omega
  have hw2 : IntKind.i64.wrap ((i : Int) + 1) = ((i + 1 : Nat) : Int) := by rw [w64 (by omega) (by omega)]; omega
  obtain ⟨xk, xs, xv⟩ := x
  obtain ⟨r0, r1, r2⟩ := row_cells (show cellsIn (ts.map tkc).flatten (0 + i * 3) 3 = some [.int .i64 (xk : Nat), .int .u32 xs, .int .u32 xv] from tick_row hx)
  by_cases hk : ((xk : Nat) : Int) = k
  · by_cases hs : xs = s
    · have hm : wm k s (xk, xs, xv) = true := by simp [wm, hk, hs]
      refine ⟨?s1, .ret, kexec_run ?run1, .inr ⟨hm, rfl, ?kp1⟩⟩
      case run1 =>
        conv => lhs; whnf
        rw [kdec e1]
        conv => lhs; whnf
        rw [kdec e1]
        conv => lhs; whnf
        refine bind_of ((cellsAt_of hg _ _).trans r0) ?_
        conv => lhs; whnf
        rw [show (((xk : Nat) : Int) == k) = true from beq_iff_eq.2 hk]
        conv => lhs; whnf
        rw [kdec e1]
        conv => lhs; whnf
        refine bind_of ((cellsAt_of hg _ _).trans r1) ?_
        conv => lhs; whnf
        rw [show (xs == s) = true from beq_iff_eq.2 hs]
        conv => lhs; whnf
        try rfl
      case kp1 => rfl
    · have hm : wm k s (xk, xs, xv) = false := by simp [wm, hs]
      refine ⟨?s2, .normal, kexec_run ?run2, .inl ⟨hm, rfl, ?kp2⟩⟩
      case run2 =>
        conv => lhs; whnf
        rw [kdec e1]
        conv => lhs; whnf
        rw [kdec e1]
        conv => lhs; whnf
        refine bind_of ((cellsAt_of hg _ _).trans r0) ?_
        conv => lhs; whnf
        rw [show (((xk : Nat) : Int) == k) = true from beq_iff_eq.2 hk]
        conv => lhs; whnf
        rw [kdec e1]
        conv => lhs; whnf
        refine bind_of ((cellsAt_of hg _ _).trans r1) ?_
        conv => lhs; whnf
        rw [show (xs == s) = false from beq_eq_false_iff_ne.2 hs]
        conv => lhs; whnf
        try rfl
      case kp2 =>
        show [_, _, _, _, (7, Value.int .i64 (IntKind.i64.wrap ((i : Int) + 1)))] = _
        rw [hw2]
  · have hm : wm k s (xk, xs, xv) = false := by simp [wm, hk]
    refine ⟨?s3, .normal, kexec_run ?run3, .inl ⟨hm, rfl, ?kp3⟩⟩
    case run3 =>
      conv => lhs; whnf
      rw [kdec e1]
      conv => lhs; whnf
      rw [kdec e1]
      conv => lhs; whnf
      refine bind_of ((cellsAt_of hg _ _).trans r0) ?_
      conv => lhs; whnf
      rw [show (((xk : Nat) : Int) == k) = false from beq_eq_false_iff_ne.2 hk]
      conv => lhs; whnf
      try rfl
    case kp3 =>
      show [_, _, _, _, (7, Value.int .i64 (IntKind.i64.wrap ((i : Int) + 1)))] = _
      rw [hw2]

/-- where the first of that kind and stream is -/
def findT (ts : List Tk) (k s : Int) : Int := if ts.any (wm k s) then ((ts.findIdx (wm k s) : Nat) : Int) else -1

theorem find_end {call : CallT} (lf : Nat) {A : Hp} (a : Option Addr) (m c i : Nat) (V1 V2 : Value) (hi : ¬ i < m) :
    ∃ σ1, exec Tryd.bk.E call Tryd.f82.ntmps (Tryd.bk.inf 82) lf (loopOf Tryd.f82 0) [(0, .slice a m c), (1, V1), (2, V2), (6, .int .i64 0), (7, .int .i64 (i : Nat))] A = some (.exit 0, σ1, A) ∧
      keepSl (some [0, 1, 2, 6, 7]) σ1 = [(0, .slice a m c), (1, V1), (2, V2), (6, .int .i64 0), (7, .int .i64 (i : Nat))] := by
  have e1 : ¬ ((i : Nat) : Int) < ((m : Nat) : Int) := by omega
  refine ⟨?s, kexec_run ?run, ?kp⟩
  case run =>
    conv => lhs; whnf
    rw [kdecn e1]
  case kp => rfl

theorem find_walk {call : CallT} (lf : Nat) {A : Hp} {V : Value} {io : Option Nat} {ts : List Tk} (h : TsAt A V io ts) (k s : Int) (hm : ts.length ≤ 100000000) (hlf : ts.length < lf) :
    kfn Tryd.bk.E call (Tryd.bk.inf 82) lf Tryd.f82 [V, .int .i64 k, .int .u32 s] A = some (.int .i64 (findT ts k s), A) := by
  obtain ⟨a, c, rfl, hf⟩ := h.form
  have key : ∃ e J L, loopD (some [0, 1, 2, 6, 7]) (exec Tryd.bk.E call Tryd.f82.ntmps (Tryd.bk.inf 82) lf (loopOf Tryd.f82 0)) lf [(0, .slice a ts.length c), (1, .int .i64 k), (2, .int .u32 s), (6, .int .i64 0), (7, .int .i64 ((0 : Nat) : Int))] A =
      some (e, [(0, .slice a ts.length c), (1, .int .i64 k), (2, .int .u32 s), (6, J), (7, L)], A) ∧ ((e = .exit 0 ∧ ts.any (wm k s) = false) ∨ (e = .ret ∧ ts.any (wm k s) = true ∧ J = .int .i64 (ts.findIdx (wm k s) : Nat))) := by
    by_cases h0 : ts = []
    · obtain ⟨σ1, r1, r2⟩ := find_end (call := call) lf (A := A) a ts.length c 0 (.int .i64 k) (.int .u32 s) (by rw [h0]; simp)
      have := loop_out' (ks := some [0, 1, 2, 6, 7]) r1 (by simp) (n := lf) (by omega)
      rw [r2] at this
      exact ⟨_, _, _, this, .inl ⟨rfl, by rw [h0]; rfl⟩⟩
    · obtain ⟨it, _, rfl, hg⟩ := hf h0
      have key := loop_rule (ks := some [0, 1, 2, 6, 7]) (f := exec Tryd.bk.E call Tryd.f82.ntmps (Tryd.bk.inf 82) lf (loopOf Tryd.f82 0)) (S := Nat)
        (fun i => [(0, .slice (some ⟨it, 0, some 3⟩) ts.length c), (1, .int .i64 k), (2, .int .u32 s), (6, .int .i64 0), (7, .int .i64 (i : Nat))])
        (fun i B => i ≤ ts.length ∧ B = A ∧ (ts.take i).any (wm k s) = false) (fun i => ts.length - i)
        (fun e σ B => B = A ∧ ∃ J L, σ = [(0, .slice (some ⟨it, 0, some 3⟩) ts.length c), (1, .int .i64 k), (2, .int .u32 s), (6, J), (7, L)] ∧ ((e = .exit 0 ∧ ts.any (wm k s) = false) ∨ (e = .ret ∧ ts.any (wm k s) = true ∧ J = .int .i64 (ts.findIdx (wm k s) : Nat)))) (fun i B hs => ?_)
        lf 0 A ⟨Nat.zero_le _, rfl, by simp⟩ (by omega)
      · obtain ⟨e, σ1, A1, r1, rfl, J, L, rfl, r2⟩ := key
        exact ⟨e, J, L, r1, r2⟩
      · obtain ⟨z1, rfl, z3⟩ := hs
        by_cases him : i < ts.length
        · obtain ⟨x, hx⟩ : ∃ x, ts[i]? = some x := ⟨_, List.getElem?_eq_getElem him⟩
          obtain ⟨σ1, e, r1, r2⟩ := find_step (call := call) lf (c := c) hg k s hx hm
          rcases r2 with ⟨hw, rfl, r3⟩ | ⟨hw, rfl, r3⟩
          · exact ⟨.normal, σ1, B, r1, .inl ⟨rfl, i + 1, r3, ⟨him, rfl, by rw [take_succ hx, List.any_append, z3]; simp [hw]⟩, by omega⟩⟩
          · refine ⟨.ret, σ1, B, r1, .inr ⟨by simp, rfl, _, _, r3, .inr ⟨rfl, ?_, ?_⟩⟩⟩
            · exact List.any_eq_true.2 ⟨x, List.mem_of_getElem? hx, hw⟩
            · have hsp : ts = ts.take i ++ x :: ts.drop (i + 1) := by
                obtain ⟨h1, h2⟩ := List.getElem?_eq_some_iff.1 hx
                rw [← h2, ← List.drop_eq_getElem_cons h1, List.take_append_drop]
              have : ts.findIdx (wm k s) = i := by
                rw [hsp, List.findIdx_append]
                have h1 : List.findIdx (wm k s) (ts.take i) = (ts.take i).length := List.findIdx_eq_length.2 fun y hy => by
                  have := List.any_eq_false.1 z3 y hy
                  simpa using this
                rw [h1, if_neg (Nat.lt_irrefl _), List.findIdx_cons, hw, List.length_take]
                simp
                omega
              rw [this]
        · obtain rfl : i = ts.length := by omega
          obtain ⟨σ1, r1, r2⟩ := find_end (call := call) lf (A := B) (some ⟨it, 0, some 3⟩) ts.length c ts.length (.int .i64 k) (.int .u32 s) him
          rw [List.take_length] at z3
          exact ⟨.exit 0, σ1, B, r1, .inr ⟨by simp, rfl, _, _, r2, .inl ⟨rfl, z3⟩⟩⟩
  obtain ⟨e, J, L, r1, r2⟩ := key
  unfold findT
  rcases r2 with ⟨rfl, r2⟩ | ⟨rfl, r2, rfl⟩
  · rw [r2]
    conv => lhs; whnf
    refine bind_of r1 ?_
    conv => lhs; whnf
    try rfl
  · rw [r2]
    conv => lhs; whnf
    refine bind_of r1 ?_
    conv => lhs; whnf
    try rfl
end Go.Dn.Ln
end

section
/-
  the document's lane (layer 11): Without, Count
-/
namespace Go.Dn.Ln
open Go.Proofs
set_option maxHeartbeats 4000000
set_option maxRecDepth 100000

/-- an append of nothing -/
theorem append_none {E : Env} {t t2 e sz bz : Nat} (hE : ElT E t e sz bz) (hE2 : ∃ i e2, E.T t2 = some i ∧ i.d = .slice e2) {A : Hp} {v x : Value} {io : Option Nat} {us ys : List Value} {n : Nat}
    (hv : SlAt e sz A v io us n) (hx : elemsOf A sz x = some (0, ys)) : dappend E t t2 A v x = some (v, A) := by
  obtain ⟨⟨i, h1, h2⟩, ⟨j, z, h3, h4, h5, h6, h7⟩, h8⟩ := hE
  obtain ⟨i2, e2, g1, g2⟩ := hE2
  unfold dappend
  rw [h1, g1]
  simp only [Option.bind_some, h2, g2, h3, h6, h4, hx]
  cases hv with
  | nil => rfl
  | «at» => rfl

theorem flat_tkc (r : List Tk) : (r.map tkc).flatten.length = r.length * 3 := by
  induction r with
  | nil => rfl
  | cons a l ih => simp only [List.map_cons, List.flatten_cons, List.length_append, ih, List.length_cons]; simp [tkc]; omega

theorem app_ts {A : Hp} (hw : A.wf) {V : Value} {io : Option Nat} {ts r : List Tk} (h : TsAt A V io ts) {x : Value} (hx : elemsOf A 3 x = some (r.length, (r.map tkc).flatten)) (hb : ts.length + r.length ≤ 200000000) :
    ∃ V' io' A', dappend Tryd.bk.E 22 22 A V x = some (V', A') ∧ TsAt A' V' io' (ts ++ r) ∧ A'.wf ∧ A.next ≤ A'.next ∧ (io' = io ∨ ∀ j, io' = some j → A.next ≤ j) ∧ ∀ j, j < A.next → io ≠ some j → A'.get j = A.get j := by
  by_cases h0 : r.length = 0
  · have hr : r = [] := List.length_eq_zero_iff.1 h0
    rw [h0] at hx
    refine ⟨V, io, A, append_none elT elT2 h.sl hx, by rw [hr, List.append_nil]; exact h, hw, Nat.le_refl _, .inl rfl, fun _ _ _ => rfl⟩
  · obtain ⟨v', A', i', a1, a2, a3, a4, a5, a6⟩ := append_sl elT elT2 h.sl hx (flat_tkc r) h0 (by omega) (by unfold maxLen; omega)
    refine ⟨v', some i', A', a1, CanAt.ts ?_, a5 hw, a4, .inr fun j hj => by cases hj; exact a3, a6⟩
    rw [List.map_append, List.flatten_append, List.length_append]
    exact a2

/-- a part of such a list -/
theorem sub_ts {A : Hp} {it : Nat} {ts : List Tk} (hg : A.get it = some (.arr 29 (ts.map tkc).flatten .own)) (o m c : Nat) (hl : o + m ≤ ts.length) :
    elemsOf A 3 (.slice (some ⟨it, 0 + o * 3, some 3⟩) m c) = some (((ts.drop o).take m).length, (((ts.drop o).take m).map tkc).flatten) := by
  have hlen : ((ts.drop o).take m).length = m := by rw [List.length_take, List.length_drop]; omega
  have hsp : ts = ts.take o ++ ((ts.drop o).take m ++ (ts.drop o).drop m) := by rw [List.take_append_drop, List.take_append_drop]
  have hu : ((ts.map tkc).flatten.drop (o * 3)).take (m * 3) = (((ts.drop o).take m).map tkc).flatten := by
    conv => lhs; rw [hsp]
    rw [List.map_append, List.flatten_append, List.map_append, List.flatten_append]
    have l1 : ((ts.take o).map tkc).flatten.length = o * 3 := by rw [flat_tkc, List.length_take]; congr 1; omega
    rw [← l1, List.drop_left]
    have l2 : (((ts.drop o).take m).map tkc).flatten.length = m * 3 := by rw [flat_tkc, hlen]
    rw [← l2, List.take_left]
  rw [hlen, Nat.zero_add]
  exact (SlAt.elems (SlAt.at (e := 29) (sz := 3) it (o * 3) m (2 * m) (ts.map tkc).flatten _ (.inl rfl) hg (by rw [flat_tkc]; omega) hu) : elemsOf A 3 (.slice (some ⟨it, o * 3, some 3⟩) m (2 * m)) = _)

section
attribute [local irreducible] Hp.get Hp.set Hp.push dappend dcopy dstore cellsAt callD loopD

theorem emp_ts {A : Hp} {i : Nat} (hg : A.get i = some (.arr 29 [] .own)) : TsAt A (.slice (some ⟨i, 0, some 3⟩) 0 1) (some i) [] :=
  ⟨⟨_, _, rfl, fun h => absurd rfl h⟩, .at i 0 0 1 [] [] (.inr rfl) hg (by simp) rfl⟩

theorem TsAt.cap {A : Hp} {a : Option Addr} {n c : Nat} {io : Option Nat} {ts : List Tk} (h : TsAt A (.slice a n c) io ts) : c / 2 = n ∧ n = ts.length := by
  have hs := h.sl
  generalize ts.length = m at hs ⊢
  generalize (ts.map tkc).flatten = fl at hs
  cases hs with
  | nil => exact ⟨rfl, rfl⟩
  | «at» _ _ _ _ _ _ hc => exact ⟨by omega, rfl⟩

/-- Without -/
theorem without_walk {call : CallT} (lf : Nat) {A : Hp} (hw : A.wf) {V : Value} {io : Option Nat} {ts : List Tk} (h : TsAt A V io ts) {i : Nat} (hi : i < ts.length) (hm : ts.length ≤ 100000000) :
    ∃ V' io' A', kfn Tryd.bk.E call (Tryd.bk.inf 81) lf Tryd.f81 [V, .int .i64 (i : Nat)] A = some (V', A') ∧ TsAt A' V' io' (ts.eraseIdx i) ∧ Kp A A' ∧ ∀ j, io' = some j → A.next ≤ j := by
  obtain ⟨a, c, rfl, hf⟩ := h.form
  obtain ⟨it, rfl, rfl, hg⟩ := hf (fun e => by rw [e] at hi; simp at hi)
  have hitl := hw.lt hg
  let B : Hp := A.push (.arr 29 [] .own)
  have k1 : Kp A B := Kp.push hw _
  have n1 : B.next = A.next + 1 := by simp [B]
  have t0 : TsAt B (.slice (some ⟨A.next, 0, some 3⟩) 0 1) (some A.next) [] := emp_ts (Hp.get_push_same _ _)
  have hgB : B.get it = some (.arr 29 (ts.map tkc).flatten .own) := by rw [k1.old _ hitl]; exact hg
  obtain ⟨V1, io1, B1, a1, a2, a3, a4, a5, a6⟩ := app_ts k1.wf t0 (sub_ts hgB 0 i (2 * (c / 2) + c % 2) (by omega)) (by rw [List.length_take, List.length_drop]; simp; omega)
  have n2 := a4
  have hgB1 : B1.get it = some (.arr 29 (ts.map tkc).flatten .own) := by rw [a6 it (by omega) (by simp; omega)]; exact hgB
  have hio1 : ∀ j, io1 = some j → A.next ≤ j := fun j hj => by
    rcases a5 with e | e
    · rw [e] at hj; cases hj; exact Nat.le_refl _
    · have := e j hj; omega
  obtain ⟨V2, io2, B2, b1, b2, b3, b4, b5, b6⟩ := app_ts a3 a2 (sub_ts hgB1 (i + 1) (ts.length - (i + 1)) (2 * (c / 2 - (i + 1)) + c % 2) (by omega)) (by simp only [List.length_append, List.length_take, List.length_drop, List.length_nil]; omega)
  have hio2 : ∀ j, io2 = some j → A.next ≤ j := fun j hj => by
    rcases b5 with e | e
    · exact hio1 j (by rw [← e]; exact hj)
    · have := e j hj; omega
  have hres : [] ++ (ts.drop 0).take i ++ (ts.drop (i + 1)).take (ts.length - (i + 1)) = ts.eraseIdx i := by
    have h2 : (ts.drop (i + 1)).take (ts.length - (i + 1)) = ts.drop (i + 1) := List.take_of_length_le (by rw [List.length_drop]; omega)
    rw [List.nil_append, List.drop_zero, h2, List.eraseIdx_eq_take_drop_succ]
  rw [hres] at b2
  have kB : Kp A B2 := ⟨b3, by omega, fun j hj => by rw [b6 j (by omega) (fun e => by have := hio1 j e; omega), a6 j (by omega) (by simp; omega), k1.old j hj]⟩
  have hcap := h.cap.1
  have e1 : ((i : Nat) : Int) ≤ ((c / 2 : Nat) : Int) := by omega
  have hw2 : IntKind.i64.wrap ((i : Int) + 1) = ((i + 1 : Nat) : Int) := by rw [w64 (by omega) (by omega)]; omega
  have e2 : (0 : Int) ≤ ((i + 1 : Nat) : Int) := by omega
  have e3 : ((i + 1 : Nat) : Int) ≤ ((ts.length : Nat) : Int) := by omega
  refine ⟨V2, io2, B2, ?run, b2, kB, hio2⟩
  case run =>
    conv => lhs; whnf
    rw [kdec e1]
    conv => lhs; whnf
    refine bind_of a1 ?_
    conv => lhs; whnf
    rw [hw2, kdec e2]
    conv => lhs; whnf
    rw [kdec e3]
    conv => lhs; whnf
    refine bind_of b1 ?_
    conv => lhs; whnf
    try rfl
end
end Go.Dn.Ln
end
