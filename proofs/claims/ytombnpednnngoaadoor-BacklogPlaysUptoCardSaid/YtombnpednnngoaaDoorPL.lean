/-
  Part of the abstract machine for this program.
-/
import Derived.Test.YtombnpednnngoaaDoorPK
import Derived.Test.YtombnpednnngoaaDoorDnJ
import Derived.Test.YtombnpednnngoaaDoorPC
import Derived.Test.YtombnpednnngoaaDoorCards
import Derived.Test.YtombnpednnngoaaDoorTie
import Derived.WalkKit
import Derived.ProofKit
import Derived.OpenShut
import Derived.LaidLaws
import Derived.Deep.DeepHandedRow

section
/-
  BacklogPlays: a step, whole
-/
namespace Go.Dn.Bl
open Go.Proofs Go.Dn.Ln
set_option maxHeartbeats 4000000
set_option maxRecDepth 100000

def StepB (call : CallT) : Prop := ∀ {A : Hp}, A.wf → ∀ {P : Nat} {m : Int} {L : List Int}, A.get P = some (bo ⟨m, L⟩) → BX.ok ⟨m, L⟩ → L.Nodup → ∀ {a : Option Addr} {c : Nat}, BsAt A (.slice a L.length c) (nums L) → ∀ k n x : Int,
  ∃ a' c' L' A', call 29 [ptr P, dv m (.slice a L.length c), .agg #[.int .i64 k, .int .i64 n, .int .u32 x]] A = some (.tuple #[dv m (.slice a' L'.length c'), .bool true], A') ∧ SQ A P m L' (.slice a' L'.length c') A'

theorem TB_free2 {f : FuncId} (hf : f = 71 ∨ f = 68 ∨ f = 69 ∨ f = 70 ∨ f = 27 ∨ f = 29 ∨ f = 39 ∨ f = 5) (args : List Value) (A : Hp) : TBk TA f args A = none := by
  rcases hf with rfl | rfl | rfl | rfl | rfl | rfl | rfl | rfl <;> rfl

theorem at_ok (k : Nat) (hk : 1000001 < k) : AtOK (callD Tryd.bk (TBk TA) (k + 1)) := fun {A} hw m {a c L} hv x hn => by
  obtain ⟨A', r, q⟩ := at_walk (call := callD Tryd.bk (TBk TA) k) k hw m hv x (by omega) (by omega)
  exact ⟨A', callD_of (TB_free2 (by simp) _ _) (fn := Tryd.f71) rfl r, q⟩
theorem rput_ok (k : Nat) (hk : 1000001 < k) : RPutOK (callD Tryd.bk (TBk TA) (k + 2)) := fun {A} hw m {a c L} hv x hn => by
  obtain ⟨a', c', A', r, q⟩ := rput_walk (at_ok k hk) (k + 1) hw m hv x hn
  exact ⟨a', c', A', callD_of (TB_free2 (by simp) _ _) (fn := Tryd.f68) rfl r, q⟩
theorem rtake_ok (k : Nat) : RTakeOK (callD Tryd.bk (TBk TA) (k + 1)) := fun {A} hw m {a c L} hv hn => by
  obtain ⟨a', c', A', r, q⟩ := rtake_walk (call := callD Tryd.bk (TBk TA) k) k hw m hv hn
  exact ⟨a', c', A', callD_of (TB_free2 (by simp) _ _) (fn := Tryd.f69) rfl r, q⟩
theorem rrem_ok (k : Nat) (hk : 1000001 < k) : RRemOK (callD Tryd.bk (TBk TA) (k + 2)) := fun {A} hw m {a c L} hv hnd x hn => by
  obtain ⟨a', c', A', r, q⟩ := rrem_walk (at_ok k hk) (k + 1) hw m hv hnd x hn
  exact ⟨a', c', A', callD_of (TB_free2 (by simp) _ _) (fn := Tryd.f70) rfl r, q⟩
theorem same_ok (k : Nat) (hk : 1000001 < k) : SameOK (callD Tryd.bk (TBk TA) (k + 1)) := fun {A a a2 c c2 l} h1 h2 hn =>
  callD_of (TB_free2 (by simp) _ _) (fn := Tryd.f39) rfl (same_nums k h1 h2 (by omega) (by omega))

theorem step_ok (k : Nat) (hk : 1000001 < k) : StepB (callD Tryd.bk (TBk TA) (k + 3)) := fun {A} hw {P m L} hP hok hnd {a c} hv kd n x => by
  have h : BFns (callD Tryd.bk (TBk TA) (k + 2)) := TBk_fns (base := TA) (fun _ => rfl) _
  have fin : (∃ a' c' L' A', kfn Tryd.bk.E (callD Tryd.bk (TBk TA) (k + 2)) (Tryd.bk.inf 29) (k + 2) Tryd.f29 [ptr P, dv m (.slice a L.length c), .agg #[.int .i64 kd, .int .i64 n, .int .u32 x]] A = some (.tuple #[dv m (.slice a' L'.length c'), .bool true], A') ∧ SQ A P m L' (.slice a' L'.length c') A') →
      ∃ a' c' L' A', callD Tryd.bk (TBk TA) (k + 3) 29 [ptr P, dv m (.slice a L.length c), .agg #[.int .i64 kd, .int .i64 n, .int .u32 x]] A = some (.tuple #[dv m (.slice a' L'.length c'), .bool true], A') ∧ SQ A P m L' (.slice a' L'.length c') A' :=
    fun ⟨a', c', L', A', r, q⟩ => ⟨a', c', L', A', callD_of (TB_free2 (by simp) _ _) (fn := Tryd.f29) rfl r, q⟩
  refine fin ?_
  by_cases k2 : kd = 2
  · subst k2; exact step2 h (codeB_ok _) (rput_ok k hk) _ hw hP hok hnd hv n x
  by_cases k3 : kd = 3
  · subst k3; exact step3 h (rtake_ok (k + 1)) _ hw hP hok hnd hv n x
  by_cases k4 : kd = 4
  · subst k4; exact step4 h _ hw (rrem_ok k hk) hP hok hnd hv n x
  by_cases k5 : kd = 5
  · subst k5; exact step5 h _ hw hP hok hv n x
  by_cases k6 : kd = 6
  · subst k6; exact step6 h (rtake_ok (k + 1)) _ hw hP hok hnd hv n x
  by_cases k7 : kd = 7
  · subst k7; exact step7 h _ hw (at_ok (k + 1) (by omega)) hP hok hnd hv n x
  exact stepN h _ hw (same_ok (k + 1) (by omega)) hP hok hnd hv kd n x (by simpa using k2) (by simpa using k3) (by simpa using k4) (by simpa using k5) (by simpa using k6) (by simpa using k7)

/-! ## New -/
def RNewOK (call : CallT) : Prop := ∀ {A : Hp}, A.wf → ∀ m : Int,
  ∃ A', call 27 [.int .i64 m] A = some (.tuple #[dv (if m < 1 ∨ 1024 < m then 0 else m) (.slice none 0 0), .int .i64 (if m < 1 ∨ 1024 < m then 2 else 0)], A') ∧ Kp A A'
theorem rnew_ok (k : Nat) : RNewOK (callD Tryd.bk (TBk TA) (k + 1)) := fun {A} hw m => by
  obtain ⟨A', r, q⟩ := rnew_walk (call := callD Tryd.bk (TBk TA) k) k hw m
  exact ⟨A', callD_of (TB_free2 (by simp) _ _) (fn := Tryd.f27) rfl r, q⟩

def NewBad (call : CallT) : Prop := ∀ {A : Hp}, A.get 4 = some (er 4) → ∀ m : Int, m < 1 ∨ 1024 < m → call 26 [.int .i64 m] A = some (.tuple #[.pointer none, errV 4], A)
section
attribute [local irreducible] Hp.get Hp.set Hp.push dappend dcopy dstore cellsAt callD loopD
theorem new_bad {call : CallT} (lf : Nat) {A : Hp} (h4 : A.get 4 = some (er 4)) {most : Int} (h : most < 1 ∨ 1024 < most) : kfn Tryd.bk.E call (Tryd.bk.inf 26) lf Tryd.f26 [.int .i64 most] A = some (.tuple #[.pointer none, errV 4], A) := by
  by_cases h1 : most < 1
  · conv => lhs; whnf
    rw [kdec h1]
    conv => lhs; whnf
    refine bind_of (cellsAt_of h4 _ _) ?_
    conv => lhs; whnf
    try rfl
  · have h2 : most > 1024 := by omega
    conv => lhs; whnf
    rw [kdecn h1]
    conv => lhs; whnf
    rw [kdec h2]
    conv => lhs; whnf
    refine bind_of (cellsAt_of h4 _ _) ?_
    conv => lhs; whnf
    try rfl
end
theorem newbad_ok (k : Nat) : NewBad (callD Tryd.bk (TBk TA) (k + 1)) := fun {A} h4 m hm =>
  callD_of (show byRel BNewR _ _ = none from byRel_no fun r hr => by cases hr with | mk h1 h2 => omega) (fn := Tryd.f26) rfl (new_bad k h4 hm)
end Go.Dn.Bl
end

section
/-
  BacklogPlays: an op
-/
namespace Go.Dn.Bl
open Go.Proofs Go.Dn.Ln
set_option maxHeartbeats 4000000
set_option maxRecDepth 100000
attribute [local irreducible] Hp.get Hp.set Hp.push dappend dcopy dstore cellsAt callD loopD guardL hideL backL

structure OpB where
  k : Int
  n : Int
  x : Int
def OpB.cells (o : OpB) : List Value := SC o.k o.n o.x

/-- between two ops -/
structure MI (A0 : Hp) (q P : Nat) (m : Int) (a : Option Addr) (c : Nat) (L : List Int) (B : Hp) : Prop where
  wf : B.wf
  nx : A0.next ≤ B.next
  gq : B.get q = some (.arr 51 (SW m (.slice a L.length c)) .own)
  gP : B.get P = some (bo ⟨m, L⟩)
  hv : BsAt B (.slice a L.length c) (nums L)
  ok : BX.ok ⟨m, L⟩
  nd : L.Nodup
  q0 : A0.next ≤ q
  P0 : A0.next ≤ P
  old : ∀ j, j < A0.next → B.get j = A0.get j

theorem MI.ne {A0 : Hp} {q P : Nat} {m : Int} {a : Option Addr} {c : Nat} {L : List Int} {B : Hp} (h : MI A0 q P m a c L B) : q ≠ P := fun e => by
  have := h.gq
  rw [e, h.gP] at this
  cases this

theorem bs_cellg {B : Hp} {v : Value} {ids : List Int} (h : BsAt B v (nums ids)) {q : Nat} {m0 : Int} {a0 : Option Addr} {n0 c0 : Nat} (hq : B.get q = some (.arr 51 (SW m0 (.slice a0 n0 c0)) .own)) (m : Int) (V : Value) : BsAt (B.set q (some (.arr 51 (SW m V) .own))) v (nums ids) := by
  generalize hus : nums ids = us at h
  cases h with
  | nil c hc => exact .nil c hc
  | «at» i o n c T cs _ md hg hl hu hc =>
    by_cases e : i = q
    · subst e
      rw [hq] at hg
      cases hg
      cases n with
      | zero => exact .at i o 0 c 51 _ us .own (Hp.get_set_same _ _ _) (by simp at hl ⊢; omega) (by rw [← hu]; simp) hc
      | succ n =>
        exfalso
        have hl2 : o + (n + 1) ≤ 2 := hl
        have hx : us[0]? = (SW m0 (.slice a0 n0 c0))[o]? := by
          rw [← hu, List.getElem?_take, if_pos (by omega), List.getElem?_drop]
          rfl
        cases ids with
        | nil =>
          rw [← hus] at hu
          have := congrArg List.length hu
          simp [nums] at this
          omega
        | cons y ids =>
          rw [← hus] at hx
          match o, hl2, hx with
          | 0, _, hx => simp [nums, SW] at hx
          | 1, _, hx => simp [nums, SW] at hx
          | o + 2, hl2, _ => omega
    · exact .at i o n c T cs us md (by rw [Hp.get_set_ne _ _ e]; exact hg) hl hu hc

structure BFns2 (call : CallT) : Prop where
  b : BFns call
  code : CodeB call
  step : StepB call
  rnew : RNewOK call
  bad : NewBad call

section
variable {call : CallT} (h : BFns2 call) (lf : Nat) {A0 : Hp} (hw0 : A0.wf) {ops : List OpB} {ib : Nat} (hib : A0.get ib = some (.arr 55 (ops.map OpB.cells).flatten .sh)) (h4 : A0.get 4 = some (er 4))
include h hw0 hib h4

theorem plays_op {q P : Nat} {m : Int} {a : Option Addr} {c : Nat} {L : List Int} {B : Hp} (hB : MI A0 q P m a c L B) {i cc : Nat} (hi : i < ops.length) (hm : ops.length ≤ 1048576) :
    ∃ σ1 B1 P' m' a' c' L', exec Tryd.bk.E call Tryd.f5.ntmps (Tryd.bk.inf 5) lf (loopOf Tryd.f5 0) [(0, .slice (some ⟨ib, 0, some 3⟩) ops.length cc), (2, .bool false), (3, ptr P), (5, ptr q), (7, .int .i64 (i : Nat))] B = some (.normal, σ1, B1) ∧
      keepSl (some [0, 2, 3, 5, 7]) σ1 = [(0, .slice (some ⟨ib, 0, some 3⟩) ops.length cc), (2, .bool false), (3, ptr P'), (5, ptr q), (7, .int .i64 ((i + 1 : Nat) : Int))] ∧ MI A0 q P' m' a' c' L' B1 := by
  obtain ⟨o, ho⟩ : ∃ o, ops[i]? = some o := ⟨_, List.getElem?_eq_getElem (by omega)⟩
  obtain ⟨f1, f2⟩ := flat_row (css := ops.map OpB.cells) (sz := 3) (fun k c hc => by
    rw [List.getElem?_map] at hc
    cases hh : ops[k]? with
    | none => rw [hh] at hc; cases hc
    | some x => rw [hh] at hc; cases hc; rfl) i o.cells (by rw [List.getElem?_map, ho]; rfl)
  obtain ⟨k, n, x⟩ := o
  have hcell : cellsIn (ops.map OpB.cells).flatten (0 + i * 3) 3 = some (SC k n x) := cellsIn_of (by omega) (by rw [Nat.zero_add]; exact f2)
  have e1 : ((i : Nat) : Int) < ((ops.length : Nat) : Int) := by omega
  have hw1 : IntKind.i64.wrap ((i : Int) + 1) = ((i + 1 : Nat) : Int) := by rw [w64 (by omega) (by omega)]; omega
  have ibl := hw0.lt hib
  have h4l := hw0.lt h4
  have hne := hB.ne
  have hnx := hB.nx
  have gi : B.get ib = some (.arr 55 (ops.map OpB.cells).flatten .sh) := (hB.old _ ibl).trans hib
  have lq := hB.wf.lt hB.gq
  have lP := hB.wf.lt hB.gP
  -- the op's own cell
  let B1 : Hp := B.push (.arr 55 (SC 0 0 0) .own)
  have g1 : B1.get B.next = some (.arr 55 (SC 0 0 0) .own) := Hp.get_push_same _ _
  let B2 : Hp := B1.set B.next (some (.arr 55 (SC k n x) .own))
  have k2 : Kp B B2 := (Kp.push hB.wf _).set g1 (Nat.le_refl _) _
  have g2 : B2.get B.next = some (.arr 55 (SC k n x) .own) := Hp.get_set_same _ _ _
  have gq2 := (k2.old _ lq).trans hB.gq
  have gP2 := (k2.old _ lP).trans hB.gP
  have hv2 : BsAt B2 (.slice a L.length c) (nums L) := hB.hv.old hB.wf fun i hi => k2.old i hi
  have l2 := k2.wf.lt g2
  have hq0 := hB.q0
  have hP0 := hB.P0
  by_cases hk1 : k = 1
  · subst hk1
    by_cases hr : n < 1 ∨ 1024 < n
    · have r1 := h.bad ((k2.old 4 (by omega)).trans ((hB.old 4 h4l).trans h4)) n hr
      obtain ⟨A3, r2, k3⟩ := h.rnew k2.wf n
      rw [if_pos hr, if_pos hr] at r2
      have g5 := (k3.old _ l2).trans g2
      let B4 : Hp := A3.push (.arr 51 (SW 0 (.slice none 0 0)) .own)
      have g4 : B4.get A3.next = some (.arr 51 (SW 0 (.slice none 0 0)) .own) := Hp.get_push_same _ _
      let B5 : Hp := B4.set A3.next (some (.arr 51 (SW 0 (.slice none 0 0)) .own))
      have k5 : Kp A3 B5 := (Kp.push k3.wf _).set g4 (Nat.le_refl _) _
      have kk : Kp B B5 := (k2.trans k3).trans k5
      have r3 := h.code B5 (some 4) (.inr (.inr (.inr (.inl rfl))))
      refine ⟨?s2, B5, P, m, a, c, L, kexec_run ?run2, ?kp2, ⟨kk.wf, Nat.le_trans hnx kk.nx, (kk.old _ lq).trans hB.gq, (kk.old _ lP).trans hB.gP, hB.hv.old hB.wf fun i hi => kk.old i hi, hB.ok, hB.nd, hq0, hP0, fun j hj => (kk.old j (by omega)).trans (hB.old j hj)⟩⟩
      case run2 =>
        conv => lhs; whnf
        rw [kdec e1]
        conv => lhs; whnf
        rw [kdec e1]
        conv => lhs; whnf
        refine bind_of ((cellsAt_of gi _ _).trans hcell) ?_
        conv => lhs; whnf
        refine bind_of (dstore_of g1 (t := 55) (o := 0) (cs' := SC 1 n x) rfl) ?_
        conv => lhs; whnf
        refine bind_of (cellsAt_of g2 _ _) ?_
        conv => lhs; whnf
        refine bind_of (cellsAt_of g2 _ _) ?_
        conv => lhs; whnf
        refine bind_of r1 ?_
        conv => lhs; whnf
        refine bind_of (cellsAt_of g2 _ _) ?_
        conv => lhs; whnf
        refine bind_of r2 ?_
        conv => lhs; whnf
        refine bind_of (dstore_of g4 (t := 51) (o := 0) (cs' := SW 0 (.slice none 0 0)) rfl) ?_
        conv => lhs; whnf
        refine bind_of r3 ?_
        conv => lhs; whnf
      case kp2 =>
        show [_, _, _, _, (7, Value.int .i64 (IntKind.i64.wrap ((i : Int) + 1)))] = _
        rw [hw1]
    · have r1 := h.b.new (BNewR.mk B2 n (by omega) (by omega))
      have wN : (B2.push (bo ⟨n, []⟩)).wf := k2.wf.push _
      have kN : Kp B2 (B2.push (bo ⟨n, []⟩)) := Kp.push k2.wf _
      have gN : (B2.push (bo ⟨n, []⟩)).get B2.next = some (bo ⟨n, []⟩) := Hp.get_push_same _ _
      obtain ⟨A3, r2, k3⟩ := h.rnew wN n
      rw [if_neg hr, if_neg hr] at r2
      have gN3 := (k3.old _ (wN.lt gN)).trans gN
      have gn2 := (kN.old _ l2).trans g2
      have lN3 := k3.wf.lt gN3
      let B4 : Hp := A3.push (.arr 51 (SW 0 (.slice none 0 0)) .own)
      have g4 : B4.get A3.next = some (.arr 51 (SW 0 (.slice none 0 0)) .own) := Hp.get_push_same _ _
      let B5 : Hp := B4.set A3.next (some (.arr 51 (SW n (.slice none 0 0)) .own))
      have g5 : B5.get A3.next = some (.arr 51 (SW n (.slice none 0 0)) .own) := Hp.get_set_same _ _ _
      have k5 : Kp A3 B5 := (Kp.push k3.wf _).set g4 (Nat.le_refl _) _
      have kk : Kp B B5 := ((k2.trans kN).trans k3).trans k5
      have gq5 := (kk.old _ lq).trans hB.gq
      have gN5 := (k5.old _ lN3).trans gN3
      have r3 := h.code B5 none (.inl rfl)
      have n2 := k2.nx
      refine ⟨?s3, B5.set q (some (.arr 51 (SW n (.slice none 0 0)) .own)), B2.next, n, none, 0, [], kexec_run ?run3, ?kp3, ⟨kk.wf.put gq5 _, by rw [Hp.next_set]; exact Nat.le_trans hnx kk.nx, Hp.get_set_same _ _ _, by rw [Hp.get_set_ne _ _ (by omega)]; exact gN5, .nil 0 (by omega), ⟨by simp, by show (1 : Int) ≤ n; omega, by show n ≤ (1024 : Int); omega⟩, List.nodup_nil, hq0, by omega, fun j hj => by rw [Hp.get_set_ne _ _ (by omega)]; exact (kk.old j (by omega)).trans (hB.old j hj)⟩⟩
      case run3 =>
        conv => lhs; whnf
        rw [kdec e1]
        conv => lhs; whnf
        rw [kdec e1]
        conv => lhs; whnf
        refine bind_of ((cellsAt_of gi _ _).trans hcell) ?_
        conv => lhs; whnf
        refine bind_of (dstore_of g1 (t := 55) (o := 0) (cs' := SC 1 n x) rfl) ?_
        conv => lhs; whnf
        refine bind_of (cellsAt_of g2 _ _) ?_
        conv => lhs; whnf
        refine bind_of (cellsAt_of g2 _ _) ?_
        conv => lhs; whnf
        refine bind_of r1 ?_
        conv => lhs; whnf
        refine bind_of (cellsAt_of gn2 _ _) ?_
        conv => lhs; whnf
        refine bind_of r2 ?_
        conv => lhs; whnf
        refine bind_of (dstore_of g4 (t := 51) (o := 0) (cs' := SW n (.slice none 0 0)) rfl) ?_
        conv => lhs; whnf
        refine bind_of r3 ?_
        conv => lhs; whnf
        refine bind_of (cellsAt_of g5 _ _) ?_
        conv => lhs; whnf
        refine bind_of (dstore_of gq5 (t := 51) (o := 0) (cs' := SW n (.slice none 0 0)) rfl) ?_
        conv => lhs; whnf
      case kp3 =>
        show [_, _, _, _, (7, Value.int .i64 (IntKind.i64.wrap ((i : Int) + 1)))] = _
        rw [hw1]
        rfl
  · have ek : (k == 1) = false := by simpa using hk1
    obtain ⟨a', c', L', A', r1, s⟩ := h.step k2.wf gP2 hB.ok hB.nd hv2 k n x
    have hsn := s.nx
    let V' : Value := .slice a' L'.length c'
    let B3 : Hp := A'.push (.arr 51 (SW 0 (.slice none 0 0)) .own)
    have g3 : B3.get A'.next = some (.arr 51 (SW 0 (.slice none 0 0)) .own) := Hp.get_push_same _ _
    let B4 : Hp := B3.set A'.next (some (.arr 51 (SW m V') .own))
    have k4 : Kp A' B4 := (Kp.push s.wf _).set g3 (Nat.le_refl _) _
    have g4 : B4.get A'.next = some (.arr 51 (SW m V') .own) := Hp.get_set_same _ _ _
    have gq4 : B4.get q = some (.arr 51 (SW m (.slice a L.length c)) .own) := (k4.old _ (by omega)).trans ((s.old _ (by omega) hne).trans gq2)
    have gP4 : B4.get P = some (bo ⟨m, L'⟩) := (k4.old _ (by omega)).trans s.obj
    have hv4 : BsAt B4 V' (nums L') := s.hv.old s.wf fun i hi => k4.old i hi
    refine ⟨?s1, B4.set q (some (.arr 51 (SW m V') .own)), P, m, a', c', L', kexec_run ?run1, ?kp1, ?mi1⟩
    case run1 =>
      conv => lhs; whnf
      rw [kdec e1]
      conv => lhs; whnf
      rw [kdec e1]
      conv => lhs; whnf
      refine bind_of ((cellsAt_of gi _ _).trans hcell) ?_
      conv => lhs; whnf
      refine bind_of (dstore_of g1 (t := 55) (o := 0) (cs' := SC k n x) rfl) ?_
      conv => lhs; whnf
      refine bind_of (cellsAt_of g2 _ _) ?_
      conv => lhs; whnf
      rw [ek]
      conv => lhs; whnf
      refine bind_of (cellsAt_of gq2 _ _) ?_
      conv => lhs; whnf
      refine bind_of (cellsAt_of g2 _ _) ?_
      conv => lhs; whnf
      refine bind_of r1 ?_
      conv => lhs; whnf
      refine bind_of (dstore_of g3 (t := 51) (o := 0) (cs' := SW m V') rfl) ?_
      conv => lhs; whnf
      refine bind_of (cellsAt_of g4 _ _) ?_
      conv => lhs; whnf
      refine bind_of (dstore_of gq4 (t := 51) (o := 0) (cs' := SW m V') rfl) ?_
      conv => lhs; whnf
    case kp1 =>
      show [_, _, _, _, (7, Value.int .i64 (IntKind.i64.wrap ((i : Int) + 1)))] = _
      rw [hw1]
    case mi1 =>
      have n4 := k4.nx
      have n2 := k2.nx
      refine ⟨k4.wf.put gq4 _, by rw [Hp.next_set]; omega, Hp.get_set_same _ _ _, by rw [Hp.get_set_ne _ _ (by omega)]; exact gP4, bs_cellg hv4 gq4 _ _, s.ok, s.nd, hq0, hP0, fun j hj => ?_⟩
      rw [Hp.get_set_ne _ _ (by omega), k4.old j (by omega), s.old j (by omega) (by omega), k2.old j (by omega), hB.old j hj]
end
end Go.Dn.Bl
end

section
/-
  BacklogPlays: the whole
-/
namespace Go.Dn.Bl
open Go.Proofs Go.Dn.Ln
set_option maxHeartbeats 4000000
set_option maxRecDepth 100000

structure BS where
  i : Nat
  P : Nat
  m : Int
  a : Option Addr
  c : Nat
  L : List Int

section
attribute [local irreducible] Hp.get Hp.set Hp.push dappend dcopy dstore cellsAt callD loopD guardL hideL backL

theorem loop_outB {ks : Option (List Nat)} {f : Sl → Hp → Option (Ex × Sl × Hp)} {σ σ1 : Sl} {A A1 : Hp} {e : Ex} (h : f σ A = some (e, σ1, A1)) (he : e ≠ .normal) {n : Nat} (hn : 0 < n) : loopD ks f n σ A = some (e, keepSl ks σ1, A1) := by
  obtain ⟨k, rfl⟩ : ∃ k, n = k + 1 := ⟨n - 1, by omega⟩
  exact loopD_end h he

theorem plays_end {call : CallT} (lf : Nat) {A : Hp} (b : Option Addr) (cc m i : Nat) (V3 V5 : Value) (hi : ¬ i < m) :
    ∃ σ1, exec Tryd.bk.E call Tryd.f5.ntmps (Tryd.bk.inf 5) lf (loopOf Tryd.f5 0) [(0, .slice b m cc), (2, .bool false), (3, V3), (5, V5), (7, .int .i64 (i : Nat))] A = some (.exit 0, σ1, A) ∧
      keepSl (some [0, 2, 3, 5, 7]) σ1 = [(0, .slice b m cc), (2, .bool false), (3, V3), (5, V5), (7, .int .i64 (i : Nat))] := by
  have e1 : ¬ ((i : Nat) : Int) < ((m : Nat) : Int) := by omega
  refine ⟨?s, kexec_run ?run, ?kp⟩
  case run =>
    conv => lhs; whnf
    rw [kdecn e1]
  case kp => rfl

theorem plays_walk {call : CallT} (h : BFns2 call) {A : Hp} (hw : A.wf) (h4 : A.get 4 = some (er 4)) {ops : List OpB} {a : Option Addr} {c : Nat} (hv : ArgSl 55 3 A (.slice a ops.length c) (ops.map OpB.cells).flatten ops.length) (hm : ops.length ≤ 1048576) (lf : Nat) (hlf : ops.length < lf) :
    ∃ A', kfn Tryd.bk.E call (Tryd.bk.inf 5) lf Tryd.f5 [.slice a ops.length c] A = some (.bool true, A') := by
  have r1 := h.b.new (BNewR.mk A 3 (by decide) (by decide))
  have wN : (A.push (bo ⟨3, []⟩)).wf := hw.push _
  have kN : Kp A (A.push (bo ⟨3, []⟩)) := Kp.push hw _
  have gN : (A.push (bo ⟨3, []⟩)).get A.next = some (bo ⟨3, []⟩) := Hp.get_push_same _ _
  obtain ⟨A3, r2, k3⟩ := h.rnew wN 3
  rw [if_neg (by decide), if_neg (by decide)] at r2
  have gN3 := (k3.old _ (wN.lt gN)).trans gN
  have lN3 := k3.wf.lt gN3
  let B4 : Hp := A3.push (.arr 51 (SW 0 (.slice none 0 0)) .own)
  have g4 : B4.get A3.next = some (.arr 51 (SW 0 (.slice none 0 0)) .own) := Hp.get_push_same _ _
  let B5 : Hp := B4.set A3.next (some (.arr 51 (SW 3 (.slice none 0 0)) .own))
  have g5 : B5.get A3.next = some (.arr 51 (SW 3 (.slice none 0 0)) .own) := Hp.get_set_same _ _ _
  have k5 : Kp A3 B5 := (Kp.push k3.wf _).set g4 (Nat.le_refl _) _
  have k03 := kN.trans k3
  have kk : Kp A B5 := k03.trans k5
  have gN5 := (k5.old _ lN3).trans gN3
  have n03 := k03.nx
  have mi0 : MI A A3.next A.next 3 none 0 [] B5 := ⟨kk.wf, kk.nx, g5, gN5, .nil 0 (by omega), ⟨by simp, by show (1 : Int) ≤ 3; decide, by show (3 : Int) ≤ 1024; decide⟩, List.nodup_nil, n03, Nat.le_refl _, kk.old⟩
  have key : ∃ A6 P m a1 c1 L I, loopD (some [0, 2, 3, 5, 7]) (exec Tryd.bk.E call Tryd.f5.ntmps (Tryd.bk.inf 5) lf (loopOf Tryd.f5 0)) lf [(0, .slice a ops.length c), (2, .bool false), (3, ptr A.next), (5, ptr A3.next), (7, .int .i64 ((0 : Nat) : Int))] B5 =
      some (.exit 0, [(0, .slice a ops.length c), (2, .bool false), (3, ptr P), (5, ptr A3.next), (7, I)], A6) ∧ MI A A3.next P m a1 c1 L A6 := by
    generalize hv0 : (Value.slice a ops.length c) = v0 at hv
    generalize hfl : (ops.map OpB.cells).flatten = fl at hv
    generalize hol : ops.length = ol at hv hv0
    cases hv with
    | nil cc hc =>
      obtain ⟨σ1, r1, r2⟩ := plays_end (call := call) lf (A := B5) none cc 0 0 (ptr A.next) (ptr A3.next) (by omega)
      have := loop_outB (ks := some [0, 2, 3, 5, 7]) r1 (by simp) (n := lf) (by omega)
      rw [r2] at this
      exact ⟨B5, A.next, 3, none, 0, [], _, this, mi0⟩
    | «at» id _ _ hg hl =>
      subst hol hfl
      have key := loop_rule (ks := some [0, 2, 3, 5, 7]) (f := exec Tryd.bk.E call Tryd.f5.ntmps (Tryd.bk.inf 5) lf (loopOf Tryd.f5 0)) (S := BS)
        (fun s => [(0, .slice (some ⟨id, 0, some 3⟩) ops.length (2 * ops.length)), (2, .bool false), (3, ptr s.P), (5, ptr A3.next), (7, .int .i64 (s.i : Nat))])
        (fun s B => s.i ≤ ops.length ∧ MI A A3.next s.P s.m s.a s.c s.L B) (fun s => ops.length - s.i)
        (fun e σ B => e = .exit 0 ∧ ∃ P m a1 c1 L I, σ = [(0, .slice (some ⟨id, 0, some 3⟩) ops.length (2 * ops.length)), (2, .bool false), (3, ptr P), (5, ptr A3.next), (7, I)] ∧ MI A A3.next P m a1 c1 L B) (fun s B hs => ?_)
        lf ⟨0, A.next, 3, none, 0, []⟩ B5 ⟨Nat.zero_le _, mi0⟩ (by simp only; omega)
      · obtain ⟨e, σ1, A6, r1, rfl, P, m, a1, c1, L, I, rfl, q⟩ := key
        exact ⟨A6, P, m, a1, c1, L, I, r1, q⟩
      · obtain ⟨i, P, m, a1, c1, L⟩ := s
        obtain ⟨z1, z2⟩ := hs
        simp only at z1 z2 ⊢
        by_cases him : i < ops.length
        · obtain ⟨σ1, B1, P', m', a', c', L', q1, q2, q3⟩ := plays_op h lf hw hg h4 z2 (cc := 2 * ops.length) him hm
          exact ⟨.normal, σ1, B1, q1, .inl ⟨rfl, ⟨i + 1, P', m', a', c', L'⟩, q2, ⟨him, q3⟩, by simp only; omega⟩⟩
        · obtain ⟨σ1, q1, q2⟩ := plays_end (call := call) lf (A := B) (some ⟨id, 0, some 3⟩) (2 * ops.length) ops.length i (ptr P) (ptr A3.next) him
          exact ⟨.exit 0, σ1, B, q1, .inr ⟨by simp, rfl, P, m, a1, c1, L, _, q2, z2⟩⟩
  obtain ⟨A6, P, m, a1, c1, L, I, l1, mi⟩ := key
  obtain ⟨a', c', L', A7, r7, s⟩ := h.step mi.wf mi.gP mi.ok mi.nd mi.hv 0 0 0
  let B8 : Hp := A7.push (.arr 51 (SW 0 (.slice none 0 0)) .own)
  have g8 : B8.get A7.next = some (.arr 51 (SW 0 (.slice none 0 0)) .own) := Hp.get_push_same _ _
  refine ⟨?A9, ?run⟩
  case run =>
    conv => lhs; whnf
    refine bind_of (h.b.awake _) ?_
    conv => lhs; whnf
    refine bind_of r1 ?_
    conv => lhs; whnf
    refine bind_of r2 ?_
    conv => lhs; whnf
    refine bind_of (dstore_of g4 (t := 51) (o := 0) (cs' := SW 3 (.slice none 0 0)) rfl) ?_
    conv => lhs; whnf
    refine bind_of l1 ?_
    conv => lhs; whnf
    refine bind_of (cellsAt_of mi.gq _ _) ?_
    conv => lhs; whnf
    refine bind_of r7 ?_
    conv => lhs; whnf
    refine bind_of (dstore_of g8 (t := 51) (o := 0) (cs' := SW m (.slice a' L'.length c')) rfl) ?_
    conv => lhs; whnf
    try rfl
end

theorem plays_fns (k : Nat) (hk : 1000001 < k) : BFns2 (callD Tryd.bk (TBk TA) (k + 3)) :=
  ⟨TBk_fns (base := TA) (fun _ => rfl) _, codeB_ok _, step_ok k hk, rnew_ok (k + 2), newbad_ok (k + 2)⟩

theorem plays_run {A : Hp} (hA : A.wf) (h4 : A.get 4 = some (er 4)) {ops : List OpB} {v : Value} (hv : ArgSl 55 3 A v (ops.map OpB.cells).flatten ops.length) (hm : ops.length ≤ 1048576) :
    ∃ n A', callD Tryd.bk (TBk TA) n 5 [v] A = some (.bool true, A') := by
  obtain ⟨a, c, rfl⟩ : ∃ a c, v = .slice a ops.length c := by
    generalize ops.length = m at hv
    generalize (ops.map OpB.cells).flatten = fl at hv
    cases hv with
    | nil c hc => exact ⟨none, c, rfl⟩
    | «at» id _ us hg hl => exact ⟨some _, _, rfl⟩
  obtain ⟨A', r⟩ := plays_walk (plays_fns 1048600 (by omega)) hA h4 hv hm 1048603 (by omega)
  exact ⟨1048604, A', callD_of (TB_free2 (by simp) _ _) (fn := Tryd.f5) rfl r⟩

/-! ## the argument -/
theorem opB_of {H : Type} {A : Hp} {d : DataW H} {c : List Value} (h : ArgR Tryd.bk.E.T A 55 d c) : ∃ o : OpB, c = o.cells := by
  obtain ⟨dd, css, rfl, rfl, l1, l2, l3⟩ := h.struct_inv (i := Go.Dn.Tryd.ti55) rfl rfl
  obtain ⟨c0, c1, c2, rfl⟩ : ∃ c0 c1 c2, css = [c0, c1, c2] := by
    match css, l2 with
    | [a, b, e], _ => exact ⟨a, b, e, rfl⟩
  obtain ⟨d0, d1, d2, rfl⟩ : ∃ d0 d1 d2, dd = [d0, d1, d2] := by
    match dd, l1 with
    | [a, b, e], _ => exact ⟨a, b, e, rfl⟩
  obtain ⟨k, _, rfl, _⟩ := (l3 0 _ d0 c0 rfl rfl rfl).int_inv (i := Go.Dn.Tryd.ti3) rfl rfl
  obtain ⟨n, _, rfl, _⟩ := (l3 1 _ d1 c1 rfl rfl rfl).int_inv (i := Go.Dn.Tryd.ti3) rfl rfl
  obtain ⟨x, _, rfl, _⟩ := (l3 2 _ d2 c2 rfl rfl rfl).int_inv (i := Go.Dn.Tryd.ti27) rfl rfl
  exact ⟨⟨k, n, x⟩, rfl⟩

theorem opBs_list {H : Type} {A : Hp} : ∀ (css : List (List Value)) (els : List (DataW H)), els.length = css.length → (∀ (k : Nat) d c, els[k]? = some d → css[k]? = some c → ArgR Tryd.bk.E.T A 55 d c) →
    ∃ ops : List OpB, css = ops.map OpB.cells
  | [], els, _, _ => ⟨[], rfl⟩
  | c :: css, [], hl, _ => by simp at hl
  | c :: css, d :: els, hl, h => by
    obtain ⟨o, o1⟩ := opB_of (h 0 d c rfl rfl)
    obtain ⟨ops, p1⟩ := opBs_list css els (by simpa using hl) fun k d c hd hc => h (k + 1) d c (by simpa using hd) (by simpa using hc)
    exact ⟨o :: ops, by rw [o1, p1]; rfl⟩
end Go.Dn.Bl
end

section
/-
  listed variables: sentinels and tables of plain data, mixed
-/
namespace Go.Dn
open Go.ChangeShapes

/-- a row of parts, one behind the other -/
def rdFields (P : Program) (rd : TypeId → DataW Unit → Option (List Value)) : List Field → List (DataW Unit) → Nat → Option (List Value)
  | [], [], _ => some []
  | f :: fs, d :: ds, o => if f.offset = o then (rd f.type d).bind fun c => if c.length = P.cellsOf f.type then (rdFields P rd fs ds (o + c.length)).map fun r => c ++ r else none else none
  | _, _, _ => none
def rdElems (rd : DataW Unit → Option (List Value)) (sz : Nat) : List (DataW Unit) → Option (List Value)
  | [] => some []
  | d :: ds => (rd d).bind fun c => if c.length = sz then (rdElems rd sz ds).map fun r => c ++ r else none
/-- the cells of plain data of a type -/
def rdw (P : Program) : Nat → TypeId → DataW Unit → Option (List Value)
  | 0, _, _ => none
  | n + 1, t, d => match P.underlying t, d with
    | some .bool, .lit (.bool b) => some [.bool b]
    | some (.int k), .lit (.int k' m) => if k' = k then some [.int k m] else none
    | some (.struct fs), .agg ds => (rdFields P (rdw P n) fs.toList ds 0).bind fun c => if c.length = P.cellsOf t then some c else none
    | some (.array m e), .agg ds => (rdElems (rdw P n e) (P.cellsOf e) ds).bind fun c => if c.length = P.cellsOf t ∧ ds.length = m then some c else none
    | _, _ => none

theorem mapM_nil_of {α β : Type} {f : α → Option β} {xs : List β} (h : ([] : List α).mapM f = some xs) : xs = [] := by
  simp at h; exact h
theorem mapM_cons_of {α β : Type} {f : α → Option β} {a : α} {l : List α} {xs : List β} (h : (a :: l).mapM f = some xs) : ∃ y ys, f a = some y ∧ l.mapM f = some ys ∧ xs = y :: ys := by
  rw [List.mapM_cons] at h
  cases h1 : f a with
  | none => rw [h1] at h; cases h
  | some y =>
    rw [h1] at h
    cases h2 : l.mapM f with
    | none => rw [h2] at h; cases h
    | some ys => rw [h2] at h; cases h; exact ⟨y, ys, rfl, rfl, rfl⟩

theorem fields_of {P : Program} {rd : TypeId → DataW Unit → Option (List Value)} {tr : TypeId → List Value → Option (DataW Unit × List MemPlace)}
    (ih : ∀ t seg d p c, tr t seg = some (d, p) → rd t d = some c → seg = c ∧ p = []) (cs : List Value) :
    ∀ (fs : List Field) (xs : List (DataW Unit × List MemPlace)) (o : Nat) (c : List Value), fs.mapM (fun f => tr f.type ((cs.drop f.offset).take (P.cellsOf f.type))) = some xs → rdFields P rd fs (xs.map (·.1)) o = some c →
      (cs.drop o).take c.length = c ∧ xs.flatMap (·.2) = []
  | [], xs, o, c, h, hr => by
    obtain rfl := mapM_nil_of h
    simp [rdFields] at hr
    subst hr
    simp
  | f :: fs, xs, o, c, h, hr => by
    obtain ⟨⟨d, p⟩, ys, h1, h2, rfl⟩ := mapM_cons_of h
    simp only [List.map_cons, rdFields] at hr
    split at hr
    · rename_i ho
      subst ho
      cases h3 : rd f.type d with
      | none => rw [h3] at hr; cases hr
      | some c1 =>
        rw [h3] at hr
        simp only [Option.bind_some] at hr
        split at hr
        · rename_i hl
          cases h4 : rdFields P rd fs (ys.map (·.1)) (f.offset + c1.length) with
          | none => rw [h4] at hr; cases hr
          | some c2 =>
            rw [h4] at hr
            cases hr
            obtain ⟨e1, e2⟩ := ih _ _ _ _ _ h1 h3
            obtain ⟨e3, e4⟩ := fields_of ih cs fs ys (f.offset + c1.length) c2 h2 h4
            subst e2
            refine ⟨?_, by simpa using e4⟩
            rw [← hl] at e1
            rw [List.length_append, List.take_add, e1, List.drop_drop, e3]
        · cases hr
    · cases hr

theorem elems_of {rd : DataW Unit → Option (List Value)} {tr : List Value → Option (DataW Unit × List MemPlace)} {sz : Nat}
    (ih : ∀ seg d p c, tr seg = some (d, p) → rd d = some c → seg = c ∧ p = []) (cs : List Value) :
    ∀ (n o : Nat) (xs : List (DataW Unit × List MemPlace)) (c : List Value), (List.range' o n).mapM (fun i => tr ((cs.drop (i * sz)).take sz)) = some xs → rdElems rd sz (xs.map (·.1)) = some c →
      (cs.drop (o * sz)).take c.length = c ∧ xs.flatMap (·.2) = []
  | 0, o, xs, c, h, hr => by
    obtain rfl := mapM_nil_of h
    simp [rdElems] at hr
    subst hr
    simp
  | n + 1, o, xs, c, h, hr => by
    rw [List.range'_succ] at h
    obtain ⟨⟨d, p⟩, ys, h1, h2, rfl⟩ := mapM_cons_of h
    simp only [List.map_cons, rdElems] at hr
    cases h3 : rd d with
    | none => rw [h3] at hr; cases hr
    | some c1 =>
      rw [h3] at hr
      simp only [Option.bind_some] at hr
      split at hr
      · rename_i hl
        cases h4 : rdElems rd sz (ys.map (·.1)) with
        | none => rw [h4] at hr; cases hr
        | some c2 =>
          rw [h4] at hr
          cases hr
          obtain ⟨e1, e2⟩ := ih _ _ _ _ h1 h3
          obtain ⟨e3, e4⟩ := elems_of ih cs n (o + 1) ys c2 h2 h4
          subst e2
          refine ⟨?_, by simpa using e4⟩
          have e5 : (cs.drop (o * sz)).drop c1.length = cs.drop ((o + 1) * sz) := by
            rw [List.drop_drop, hl, Nat.add_mul, Nat.one_mul]
          have e6 : (cs.drop (o * sz)).take c1.length = c1 := by rw [hl]; exact e1
          rw [List.length_append, List.take_add, e6, e5, e3]
      · cases hr

theorem rdw_of {P : Program} {w : World} {base : Nat} {spare : Nat → Bool} : ∀ (n fuel : Nat) (t : TypeId) (cs : List Value) (d : DataW Unit) (p : List MemPlace) (c : List Value),
    DataW.trod (fun _ => ()) P w base spare false fuel t cs = some (d, p) → rdw P n t d = some c → cs = c ∧ p = []
  | 0, _, _, _, _, _, _, _, h => by cases h
  | n + 1, 0, _, _, _, _, _, h, _ => by cases h
  | n + 1, fuel + 1, t, cs, d, p, c, h, hr => by
    have ih := fun t seg d p c => rdw_of (P := P) (w := w) (base := base) (spare := spare) n fuel t seg d p c
    unfold rdw at hr
    split at hr
    · rename_i hu
      cases hr
      unfold DataW.trod at h
      rw [hu] at h
      split at h <;> simp_all
    · rename_i k k' m hu
      split at hr
      · rename_i hk
        subst hk
        cases hr
        unfold DataW.trod at h
        rw [hu] at h
        split at h <;> simp_all
      · cases hr
    · rename_i fs ds hu
      cases h1 : rdFields P (rdw P n) fs.toList ds 0 with
      | none => rw [h1] at hr; cases hr
      | some c1 =>
        rw [h1] at hr
        simp only [Option.bind_some] at hr
        split at hr
        · rename_i hl
          cases hr
          unfold DataW.trod at h
          rw [hu] at h
          simp only at h
          split at h
          · rename_i hcl
            cases h2 : fs.toList.mapM (fun f => DataW.trod (fun _ => ()) P w base spare false fuel f.type ((cs.drop f.offset).take (P.cellsOf f.type))) with
            | none => rw [h2] at h; cases h
            | some xs =>
              rw [h2] at h
              simp only [Option.map_some, Option.some.injEq, Prod.mk.injEq, DataW.agg.injEq] at h
              obtain ⟨h3, h4⟩ := h
              subst h3
              obtain ⟨e1, e2⟩ := fields_of (P := P) ih cs _ xs 0 _ h2 h1
              refine ⟨?_, by rw [← h4]; exact e2⟩
              rw [List.drop_zero, List.take_of_length_le (by omega)] at e1
              exact e1
          · cases h
        · cases hr
    · rename_i m e ds hu
      cases h1 : rdElems (rdw P n e) (P.cellsOf e) ds with
      | none => rw [h1] at hr; cases hr
      | some c1 =>
        rw [h1] at hr
        simp only [Option.bind_some] at hr
        split at hr
        · rename_i hl
          cases hr
          unfold DataW.trod at h
          rw [hu] at h
          simp only at h
          split at h
          · rename_i hcl
            rw [List.range_eq_range'] at h
            cases h2 : (List.range' 0 m).mapM (fun i => DataW.trod (fun _ => ()) P w base spare false fuel e ((cs.drop (i * P.cellsOf e)).take (P.cellsOf e))) with
            | none => rw [h2] at h; cases h
            | some xs =>
              rw [h2] at h
              simp only [Option.map_some, Option.some.injEq, Prod.mk.injEq, DataW.agg.injEq] at h
              obtain ⟨h3, h4⟩ := h
              subst h3
              obtain ⟨e1, e2⟩ := elems_of (ih e) cs m 0 xs _ h2 h1
              refine ⟨?_, by rw [← h4]; exact e2⟩
              rw [Nat.zero_mul, List.drop_zero, List.take_of_length_le (by omega)] at e1
              exact e1
          · cases h
        · cases hr
    · cases hr

/-- a table's variable -/
def TabVar (P : Program) (w : World) (n : String) (g : Nat) (cs : List Value) : Prop :=
  P.globalNamed n = some g ∧ ∃ T fz, w.heap[g]? = some (.cells cs.toArray T fz)

theorem laid_mix {P : Program} {w : World} {te tp ts : TypeId} (hE : ErrT P te tp ts) : ∀ (L : List (String × DataW Unit)) (ps : List MemPlace),
    (∀ x ∈ L, (isErr x.2 = true ∧ ∃ g, P.globalNamed x.1 = some g ∧ (P.globals[g]?).map (·.type) = some te) ∨ (isErr x.2 = false ∧ ∃ g t c, P.globalNamed x.1 = some g ∧ (P.globals[g]?).map (·.type) = some t ∧ rdw P 20 t x.2 = some c)) →
    DataW.LaidVars P w L ps → (∀ b off, MemPlace.cell b off ∈ ps → ∀ u v, w.cell? ⟨b, off, none⟩ = some (.iface u v) → Value.okWide P w .any 0 u v) →
    ∃ ads : List (Nat × Addr), ads.length = (L.filter fun x => isErr x.2).length ∧ (errPlaces ads).Sublist ps ∧ (∀ (k : Nat) x y, (L.filter fun x => isErr x.2)[k]? = some x → ads[k]? = some y → ErrVar P w tp x.1 y.1 y.2) ∧
      ∀ x ∈ L, isErr x.2 = false → ∃ g t c, (P.globals[g]?).map (·.type) = some t ∧ rdw P 20 t x.2 = some c ∧ TabVar P w x.1 g c
  | [], ps, _, h, _ => ⟨[], rfl, List.nil_sublist _, by simp, by simp⟩
  | x :: L, ps, hl, h, hok => by
    obtain ⟨n, d⟩ := x
    have hh := h
    obtain ⟨g, t, cs, fuel, p, q, h1, h2, h3, h4, h5, rfl⟩ := h
    obtain ⟨ads, r1, r2, r3, r4⟩ := laid_mix hE L q (fun y hy => hl y (by simp [hy])) h5 (fun b off hb => hok b off (by simp [hb]))
    rcases hl (n, d) (by simp) with ⟨e1, g', e2, e3⟩ | ⟨e1, g', t', c, e2, e3, e4⟩
    · simp only at e1 e2
      have hone : DataW.LaidVars P w [(n, d)] (MemPlace.row ⟨g, 0, none⟩ cs.size ++ p ++ []) := ⟨g, t, cs, fuel, p, [], h1, h2, h3, h4, rfl, rfl⟩
      obtain ⟨as1, s1, s2, s3⟩ := laid_errs hE [(n, d)] _ (fun y hy => by simp only [List.mem_singleton] at hy; subst hy; exact ⟨e1, g', e2, e3⟩) hone (fun b off hb => hok b off (by simp at hb ⊢; rcases hb with hb | hb <;> simp [hb]))
      obtain ⟨a1, rfl⟩ : ∃ a, as1 = [a] := by
        match as1, s1 with
        | [a], _ => exact ⟨a, rfl⟩
      obtain ⟨ga, aa⟩ := a1
      refine ⟨(ga, aa) :: ads, by simp [e1, r1], ?_, fun k x y hk hy => ?_, fun x hx hxe => ?_⟩
      · have : errPlaces ((ga, aa) :: ads) = errPlaces [(ga, aa)] ++ errPlaces ads := by simp [errPlaces]
        rw [this, ← s2]
        simp only [List.append_nil]
        exact List.Sublist.append (List.Sublist.refl _) r2
      · rw [List.filter_cons, if_pos (by simpa using e1)] at hk
        cases k with
        | zero =>
          simp at hk hy
          subst hk; subst hy
          exact s3 0 _ _ rfl rfl
        | succ k => exact r3 k x y (by simpa using hk) (by simpa using hy)
      · rcases List.mem_cons.1 hx with rfl | hx
        · simp only at hxe; rw [e1] at hxe; cases hxe
        · exact r4 x hx hxe
    · simp only at e1 e2 e4
      rw [h1] at e2; cases e2
      rw [h2] at e3; cases e3
      obtain ⟨k1, k2⟩ := rdw_of 20 fuel t cs.toList d p c h4 e4
      refine ⟨ads, by simp [e1, r1], List.Sublist.trans r2 (List.sublist_append_right _ _), fun k x y hk hy => ?_, fun x hx hxe => ?_⟩
      · rw [List.filter_cons, if_neg (by simp [e1])] at hk
        exact r3 k x y hk hy
      · rcases List.mem_cons.1 hx with rfl | hx
        · refine ⟨g, t, c, h2, e4, h1, ?_⟩
          unfold World.var? at h3
          rw [h1] at h3
          simp only [Option.bind_some] at h3
          split at h3
          · rename_i c' T fz hh
            cases h3
            exact ⟨T, fz, by rw [hh, ← k1, Array.toArray_toList]⟩
          · cases h3
        · exact r4 x hx hxe
end Go.Dn
end

section
namespace Go.Dn.Ln
open Go.Proofs Go.ChangeShapes
set_option maxRecDepth 100000

/-! ## what the rows' lists give -/
theorem star : "*" ++ "errors.errorString" = "*errors.errorString" := by decide
theorem errT : ErrT Tryd.prog 31 206 230 :=
  ⟨⟨_, Tryd.underlying31⟩, fun u h => typeName_ptr_named (nm := "errors.errorString") (by rw [star]; kernel_rfl) (by kernel_rfl) (by decide) u (by rw [star]; exact h), Tryd.underlying206,
    ⟨_, _, Tryd.underlying230, rfl, rfl, Tryd.underlying9, by kernel_rfl, by kernel_rfl⟩⟩

/-- the rows of the globals, as the program begins -/
theorem rows : (List.range 44).map (fun g => (((begin Tryd.prog (fun _ _ => 0) default).world.heap[g]?).bind Obj.row?).map (fun x => x.2)) = (List.range 44).map (fun g => (Tryd.prog.globals[g]?).map (·.type)) := by kernel_rfl
theorem types : (List.range 44).all (fun g => ((Tryd.prog.globals[g]?).map (·.type)).isSome) = true := by kernel_rfl
theorem gsize : Tryd.prog.globals.size = 44 := Tryd.good.glob.symm

theorem hrow_of {W : World} (hS : W.ShapedOpen Tryd.prog) : ∀ g, g < 44 → ∃ c t, W.heap[g]? = some (.cells c t (0, 0)) ∧ (Tryd.prog.globals[g]?).map (·.type) = some t := by
  intro g hg
  have h1 := congrArg (fun l => l[g]?) rows
  simp only [List.getElem?_map, List.getElem?_range hg, Option.map_some, Option.some.injEq] at h1
  have h2 := List.all_eq_true.1 types g (List.mem_range.2 hg)
  cases ht : (Tryd.prog.globals[g]?).map (·.type) with
  | none => rw [ht] at h2; cases h2
  | some t =>
    rw [ht] at h1
    cases hb : ((begin Tryd.prog (fun _ _ => 0) default).world.heap[g]?).bind Obj.row? with
    | none => rw [hb] at h1; cases h1
    | some x =>
      obtain ⟨zero, t'⟩ := x
      rw [hb] at h1
      simp only [Option.map_some, Option.some.injEq] at h1
      subst h1
      obtain ⟨cs, k1, _⟩ := hS.1 g zero t' (by rw [gsize]; exact hg) hb
      exact ⟨cs, t', k1, rfl⟩

noncomputable def mixOk (L : List (String × DataW Unit)) : Bool := L.all fun x => match Tryd.prog.globalNamed x.1 with
  | some g => Nat.blt g 44 && bif isErr x.2 then decide ((Tryd.prog.globals[g]?).map (·.type) = some 31) else match (Tryd.prog.globals[g]?).map (·.type) with
    | some t => (rdw Tryd.prog 20 t x.2).isSome
    | none => false
  | none => false
noncomputable def coversE (L : List (String × DataW Unit)) (gs : List Nat) : Bool := gs.all fun g => L.any fun x => isErr x.2 && Tryd.prog.globalNamed x.1 == some g

/-- the beginning, for the laws that list sentinels and tables -/
theorem begin_rep (rep : Nat → Dat → Hp → Nat → Prop) {W : World} (hS : W.ShapedOpen Tryd.prog) {L : List (String × DataW Unit)} (hL : laidMet Tryd.prog L W) (h1 : mixOk L = true) {C : Hp} (hCn : C.next = 88)
    (hC : ∀ i o, C.get i = some o → (∃ x ∈ L, isErr x.2 = true ∧ Tryd.prog.globalNamed x.1 = some i ∧ o = er i) ∨
      (∃ x ∈ L, isErr x.2 = false ∧ Tryd.prog.globalNamed x.1 = some i ∧ ∃ t c, (Tryd.prog.globals[i]?).map (·.type) = some t ∧ rdw Tryd.prog 20 t x.2 = some c ∧ o = .arr t c .ro ∧ ∀ u ∈ c, plain0 u = true)) :
    ∃ R : Reps, R.C = C ∧ R.rep = rep ∧ Rel Tryd.prog R.ρC C W ∧ (∀ i p, i < C.next → R.ρC i = some p → p.blk < W.heap.size) ∧ ConW Tryd.prog W := by
  obtain ⟨ps, hl, hn, hp⟩ := hL
  have hchk : ∀ x ∈ L, ∃ g, Tryd.prog.globalNamed x.1 = some g ∧ g < 44 ∧ ((isErr x.2 = true ∧ (Tryd.prog.globals[g]?).map (·.type) = some 31) ∨ (isErr x.2 = false ∧ ∃ t c, (Tryd.prog.globals[g]?).map (·.type) = some t ∧ rdw Tryd.prog 20 t x.2 = some c)) := by
    intro x hx
    have := List.all_eq_true.1 h1 x hx
    cases hg : Tryd.prog.globalNamed x.1 with
    | none => rw [hg] at this; cases this
    | some g =>
      rw [hg] at this
      simp only [Bool.and_eq_true, Nat.blt_eq] at this
      obtain ⟨k1, k2⟩ := this
      refine ⟨g, rfl, k1, ?_⟩
      cases he : isErr x.2 with
      | true => rw [he] at k2; exact .inl ⟨rfl, by simpa using k2⟩
      | false =>
        rw [he] at k2
        simp only [cond_false] at k2
        cases ht : (Tryd.prog.globals[g]?).map (·.type) with
        | none => rw [ht] at k2; cases k2
        | some t =>
          rw [ht] at k2
          simp only at k2
          obtain ⟨c, hc⟩ := Option.isSome_iff_exists.1 k2
          exact .inr ⟨rfl, t, c, rfl, hc⟩
  obtain ⟨ads, e1, e2, e3, e4⟩ := laid_mix errT L ps (fun x hx => by
    obtain ⟨g, b1, b2, b3⟩ := hchk x hx
    rcases b3 with ⟨c1, c2⟩ | ⟨c1, t, c, c2, c3⟩
    · exact .inl ⟨c1, g, b1, c2⟩
    · exact .inr ⟨c1, g, t, c, b1, c2, c3⟩) hl (fun b off hb => (hp b off hb).2)
  have hn' : (errPlaces ads).Nodup := hn.sublist e2
  have hE : ∀ x ∈ ads, ∃ y ∈ L.filter (fun x => isErr x.2), ErrVar Tryd.prog W 206 y.1 x.1 x.2 := by
    intro x hx
    obtain ⟨k, hk⟩ := List.getElem?_of_mem hx
    have hkl : k < (L.filter fun x => isErr x.2).length := by rw [← e1]; exact (List.getElem?_eq_some_iff.1 hk).1
    exact ⟨_, List.getElem_mem hkl, e3 k _ x (List.getElem?_eq_getElem hkl) hk⟩
  have key := consts_start (P := Tryd.prog) (W := W) (te := 31) (tp := 206) gsize ads hn' (hrow_of hS) (fun x hx => by
    obtain ⟨y, hy, q1, q2, q3, _⟩ := hE x hx
    obtain ⟨hyL, hye⟩ := List.mem_filter.1 hy
    obtain ⟨g, r1, r2, r3⟩ := hchk y hyL
    rw [q1] at r1; cases r1
    rcases r3 with ⟨_, r4⟩ | ⟨r4, _⟩
    · exact ⟨r2, r4, q2, q3, (hp _ _ (e2.subset (errPlaces_mem hx).2)).1⟩
    · rw [r4] at hye; cases hye) C hCn (fun i o hi => by
    rcases hC i o hi with ⟨y, hy, q0, q1, rfl⟩ | ⟨y, hy, q0, q1, t, c, q2, q3, rfl, q4⟩
    · left
      have hyf : y ∈ L.filter fun x => isErr x.2 := List.mem_filter.2 ⟨hy, q0⟩
      obtain ⟨k, hk⟩ := List.getElem?_of_mem hyf
      have hkl : k < ads.length := by rw [e1]; exact (List.getElem?_eq_some_iff.1 hk).1
      have := e3 k y ads[k] hk (List.getElem?_eq_getElem hkl)
      have h0 := this.1
      rw [q1] at h0
      refine ⟨ads[k].2, ?_, rfl⟩
      have : ads[k] = (i, ads[k].2) := by rw [Option.some.inj h0]
      rw [← this]; exact List.getElem_mem hkl
    · right
      obtain ⟨g, t', c', r1, r2, r3, T, fz, r4⟩ := e4 y hy q0
      rw [q1] at r3; cases r3
      rw [q2] at r1; cases r1
      rw [q3] at r2; cases r2
      obtain ⟨g', b1, b2, _⟩ := hchk y hy
      rw [q1] at b1; cases b1
      obtain ⟨c0, t0, s1, s2⟩ := hrow_of hS i b2
      rw [q2] at s2; cases s2
      rw [s1] at r4; cases r4
      exact ⟨t, c, b2, rfl, q2, q4, (0, 0), s1⟩)
  obtain ⟨c1, c2, c3, c4, c5⟩ := key
  let R : Reps := { rep := rep, C := C, ρC := fun i => if i < 44 + 44 then placeC 44 C ads i else none, Cro := c1, Cpl := c2 }
  exact ⟨R, rfl, rfl, c3, c4, c5 (R := R) rfl rfl⟩

/-! ## a world for the witness -/
noncomputable def lowT : Nat := (World.holding Tryd.prog default ⟨#[], #[], []⟩).heap.size
def textOf : DataW Unit → ByteArray
  | .iface _ (.ptr (.agg [.lit (.string s)])) => ⟨s.toArray⟩
  | _ => .empty
noncomputable def setErr (h : Array Obj) (g k : Nat) : Array Obj := h.modify g fun
  | .cells _ t fr => .cells #[.iface 206 (.pointer (some ⟨lowT + k, 0, none⟩))] t fr
  | o => o
noncomputable def setTab (h : Array Obj) (g : Nat) (c : List Value) : Array Obj := h.modify g fun
  | .cells _ t fr => .cells c.toArray t fr
  | o => o
noncomputable def tabOf (g : Nat) (d : DataW Unit) : List Value := (((Tryd.prog.globals[g]?).map (·.type)).bind fun t => rdw Tryd.prog 20 t d).getD []
noncomputable def setErrs (L : List (String × DataW Unit)) (k : Nat) (h : Array Obj) : Array Obj := match L with
  | [] => h
  | x :: l => setErrs l (k + 1) (match Tryd.prog.globalNamed x.1 with
    | some g => bif isErr x.2 then setErr h g k else setTab h g (tabOf g x.2)
    | none => h)
noncomputable def laidWorld (L : List (String × DataW Unit)) (os : Os) : World :=
  { World.holding Tryd.prog os ⟨(L.map fun x => Obj.cells #[.string (textOf x.2)] 230).toArray, #[], []⟩ with
    heap := setErrs L 0 (World.holding Tryd.prog os ⟨(L.map fun x => Obj.cells #[.string (textOf x.2)] 230).toArray, #[], []⟩).heap }

end Go.Dn.Ln

namespace Go.Proofs.YtombnpednnngoaaDoor.bulks
theorem one_le {H : Type} (d : DataW H) : 1 ≤ Rows.uptoBulk d := by
  cases d with
  | lit l => cases l <;> simp [Rows.uptoBulk]
  | nil => simp [Rows.uptoBulk]
  | ptr d => simp [Rows.uptoBulk]
  | slice elems spare => simp [Rows.uptoBulk]
  | agg parts => simp [Rows.uptoBulk]
  | iface t d => simp [Rows.uptoBulk]
  | map entries => simp [Rows.uptoBulk]
  | held h => simp [Rows.uptoBulk]

/-- a part's bulk is at most the whole's -/
theorem part_le {H : Type} {d : DataW H} {l : List (DataW H)} (h : d ∈ l) : Rows.uptoBulk d ≤ Rows.uptoBulkAll l := by
  induction l with
  | nil => cases h
  | cons x r ih =>
    simp only [Rows.uptoBulkAll]
    cases List.mem_cons.1 h with
    | inl e => subst e; omega
    | inr e => have := ih e; omega

theorem append {H : Type} (l r : List (DataW H)) : Rows.uptoBulkAll (l ++ r) = Rows.uptoBulkAll l + Rows.uptoBulkAll r := by
  induction l with
  | nil => simp [Rows.uptoBulkAll]
  | cons x l ih => simp only [List.cons_append, Rows.uptoBulkAll, ih]; omega

/-- so many values at the most -/
theorem length_le {H : Type} (l : List (DataW H)) : l.length ≤ Rows.uptoBulkAll l := by
  induction l with
  | nil => simp [Rows.uptoBulkAll]
  | cons x r ih => have := one_le x; simp only [Rows.uptoBulkAll, List.length_cons]; omega

/-- a slice's places, and what they hold -/
theorem slice_le {H : Type} (elems spare : List (DataW H)) : elems.length + spare.length + 1 ≤ Rows.uptoBulk (.slice elems spare) := by
  have h1 := length_le elems
  have h2 := length_le spare
  simp only [Rows.uptoBulk]
  omega
theorem slice_elems {H : Type} (elems spare : List (DataW H)) : Rows.uptoBulkAll elems + 1 ≤ Rows.uptoBulk (.slice elems spare) := by
  simp only [Rows.uptoBulk]
  omega

/-- a string's letters -/
theorem string_eq {H : Type} (bytes : List UInt8) : Rows.uptoBulk (DataW.lit (H := H) (.string bytes)) = bytes.length + 1 := by
  simp [Rows.uptoBulk]

/-- THE BOUND, as the builder hands it over ('hk') -/
theorem bound {H : Type} {l : List (DataW H)} (hk : Rows.uptoSmall H l = true) : Rows.uptoBulkAll l ≤ 1048576 := of_decide_eq_true hk


end Go.Proofs.YtombnpednnngoaaDoor.bulks
end

section
/-
  the closed facts of the seat's program that every row of it asks: each by itself, since together they ask for more than ten gigabytes
-/
namespace Go.Proofs.YtombnpednnngoaaDoor
open Go.ChangeShapes Go.Dn Go.Dn.Ln
set_option maxRecDepth 100000
theorem jLaid : laidOutB Tryd.pinned.checked.prog = true := by kernel_rfl
theorem jMaps : mapsRowed Tryd.pinned.checked.prog = true := by kernel_rfl
theorem jHeard : Program.stopsHeard Tryd.pinned.checked.prog = true := by kernel_rfl
theorem jEnter : Program.mayEnter Tryd.pinned.checked.prog = true := by kernel_rfl
theorem jKeys : Program.plainKeys Tryd.pinned.checked.prog = false := by kernel_rfl
theorem jLifts : Program.liftsFinal Tryd.pinned.checked.prog = false := by kernel_rfl
theorem jMake : Program.make Tryd.pinned.checked.prog = some Rows.laneDrainsUptoRow.make := by kernel_rfl
end Go.Proofs.YtombnpednnngoaaDoor
end
