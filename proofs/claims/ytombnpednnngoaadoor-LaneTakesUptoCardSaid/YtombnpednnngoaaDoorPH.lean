/-
  Part of the abstract machine for this program.
-/
import Derived.Test.YtombnpednnngoaaDoorPG
import Derived.Test.YtombnpednnngoaaDoorPF

section
/-
  'LaneTakes', run: an op
-/
namespace Go.Dn.Ln
open Go.Proofs
set_option maxHeartbeats 4000000
set_option maxRecDepth 100000
attribute [local irreducible] Hp.get Hp.set Hp.push dappend dcopy dstore cellsAt callD loopD

def SameOK (call : CallT) (NS : Nat) : Prop := ∀ {A : Hp} {T1 T2 : List Tk} {V1 V2 : Value} {o1 o2 : Option Nat}, CanAt 29 3 A V1 o1 (T1.map tkc).flatten T1.length → CanAt 29 3 A V2 o2 (T2.map tkc).flatten T2.length → T1.length ≤ 100000000 → T1.length < NS →
  call 21 [V1, V2] A = some (.bool (decide (T1 = T2)), A)

theorem list_use {call : CallT} (h : LaneFns2 call) {A : Hp} (hw : A.wf) {P : Nat} {x : LX} (hP : A.get P = some (.abs 3 x.dat)) (hn : x.n ≤ 100000000) :
    ∃ V io A', call 20 [ptr P] A = some (V, A') ∧ KP P A A' ∧ A'.get P = some (.abs 3 x.dat) ∧ CanAt 29 3 A' V io (x.ts.map tkc).flatten x.ts.length ∧ ∀ j, io = some j → A.next ≤ j := by
  have hl := h.list (ListR.mk A P x hP hn)
  have hPl := hw.lt hP
  have k1 : KP P A (A.set P (some (.abs 3 x.dat))) := (KP.refl hw).setO hP _
  have n1 : (A.set P (some (.abs 3 x.dat))).next = A.next := Hp.next_set _ _ _
  obtain ⟨ts, n⟩ := x
  cases ts with
  | nil => exact ⟨_, none, _, hl, k1, Hp.get_set_same _ _ _, .nil, by simp⟩
  | cons a l =>
    have k2 : KP P A ((A.set P (some (.abs 3 (LX.dat ⟨a :: l, n⟩)))).push (.arr 29 ((a :: l).map tkc).flatten .own)) := k1.trans ((Kp.push k1.wf _).toP P)
    have hlen : (((a :: l).map tkc).flatten).length = (a :: l).length * 3 := flat_len _ 3 (fun k c hc => by
      rw [List.getElem?_map] at hc
      cases hh : (a :: l)[k]? with
      | none => rw [hh] at hc; cases hc
      | some x => rw [hh] at hc; cases hc; rfl) |>.trans (by rw [List.length_map])
    refine ⟨.slice (some ⟨A.next, 0, some 3⟩) (a :: l).length (2 * (a :: l).length), some A.next, (A.set P (some (.abs 3 (LX.dat ⟨a :: l, n⟩)))).push (.arr 29 ((a :: l).map tkc).flatten .own), hl, k2, ?_, .at _ _ _ ?_ hlen (by simp), fun j hj => by cases hj; exact Nat.le_refl _⟩
    · rw [Hp.get_push_ne _ _ (by omega)]
      exact Hp.get_set_same _ _ _
    · rw [← n1]
      exact Hp.get_push_same _ _

/-- Len and List behind a step -/
theorem both_use {call : CallT} (h : LaneFns2 call) {A : Hp} (hw : A.wf) {P : Nat} {x : LX} (hP : A.get P = some (.abs 3 x.dat)) (hn : x.n ≤ 100000000) :
    ∃ a c A1 A2, call 18 [ptr P] A = some (.int .i64 (x.ts.length : Nat), A1) ∧ call 20 [ptr P] A1 = some (.slice a x.ts.length c, A2) ∧ KP P A A2 ∧ A2.get P = some (.abs 3 x.dat) := by
  have hl := h.len (LenR.mk A P x hP)
  have k1 : KP P A (A.set P (some (.abs 3 x.dat))) := (KP.refl hw).setO hP _
  obtain ⟨V, io, A2, r1, r2, r3, r4, r5⟩ := list_use h k1.wf (P := P) (x := x) (Hp.get_set_same _ _ _) hn
  obtain ⟨a, c, rfl⟩ := r4.sl3
  exact ⟨a, c, _, A2, hl, r1, k1.trans r2, r3⟩

section
variable {call : CallT} {NS : Nat} (h : LaneFns2 call) (hsame : SameOK call NS) {A0 : Hp} {P : Nat} (hw0 : A0.wf) {ops : List OpA} (hops : ∀ o ∈ ops, 0 ≤ o.tv ∧ o.tv ≤ 4294967295) {ib : Nat} (hib : A0.get ib = some (.arr 39 (ops.map OpA.cells).flatten .sh)) (hibP : ib ≠ P)
include h hsame hw0 hops hib hibP

theorem takes_op (lf : Nat) {A : Hp} {ts : List Tk} {n m c i : Nat} (hk : KP P A0 A) (hP : A.get P = some (.abs 3 (LX.dat ⟨ts, n⟩))) (htn : ts.length ≤ n) (hn : n ≤ 10000000) (hm : ops.length = m) (hm2 : m ≤ 1048576) (hi : i < m) (hNS : n + 2 < NS) (hlf : n < lf) :
    ∃ σ1 A1 ts' n', exec Tryd.bk.E call Tryd.f4.ntmps (Tryd.bk.inf 4) lf (loopOf Tryd.f4 0) [(2, .bool false), (3, ptr P), (15, .slice (some ⟨ib, 0, some 4⟩) m c), (16, .int .i64 (m : Nat)), (17, .int .i64 (i : Nat))] A = some (.normal, σ1, A1) ∧
      keepSl (some [2, 3, 15, 16, 17]) σ1 = [(2, .bool false), (3, ptr P), (15, .slice (some ⟨ib, 0, some 4⟩) m c), (16, .int .i64 (m : Nat)), (17, .int .i64 (i + 1 : Nat))] ∧ KP P A0 A1 ∧ A1.get P = some (.abs 3 (LX.dat ⟨ts', n'⟩)) ∧ n' ≤ n + 1 ∧ ts'.length ≤ n' := by
  obtain ⟨o, ho⟩ : ∃ o, ops[i]? = some o := ⟨_, List.getElem?_eq_getElem (by omega)⟩
  have hok := hops o (List.mem_of_getElem? ho)
  obtain ⟨f1, f2⟩ := flat_row (css := ops.map OpA.cells) (sz := 4) (fun k c hc => by
    rw [List.getElem?_map] at hc
    cases hh : ops[k]? with
    | none => rw [hh] at hc; cases hc
    | some x => rw [hh] at hc; cases hc; rfl) i o.cells (by rw [List.getElem?_map, ho]; rfl)
  have hcell : cellsIn (ops.map OpA.cells).flatten (0 + i * 4) 4 = some o.cells := cellsIn_of (by omega) (by rw [Nat.zero_add]; exact f2)
  have e1 : ((i : Nat) : Int) < ((m : Nat) : Int) := by omega
  have hw2 : IntKind.i64.wrap ((i : Int) + 1) = ((i + 1 : Nat) : Int) := by rw [w64 (by omega) (by omega)]; omega
  have hw := hk.wf
  have hPA : P < A.next := hw.lt hP
  have hgi : A.get ib = some (.arr 39 (ops.map OpA.cells).flatten .sh) := by rw [hk.old ib (hw0.lt hib) hibP]; exact hib
  obtain ⟨ok, otk, ots, otv⟩ := o
  simp only at hok
  let Z : List Value := [.int .i64 0, .int .i64 0, .int .u32 0, .int .u32 0]
  let C : List Value := [.int .i64 ok, .int .i64 otk, .int .u32 ots, .int .u32 otv]
  have hcell2 : cellsIn (ops.map OpA.cells).flatten (0 + i * 4) 4 = some C := hcell
  let B1 : Hp := (A.push (.arr 39 Z .own)).set A.next (some (.arr 39 C .own))
  have k1 : Kp A B1 := (Kp.push hw (.arr 39 Z .own)).set (Hp.get_push_same _ _) (Nat.le_refl _) _
  have n1 : B1.next = A.next + 1 := by simp [B1]
  have q1 : B1.get A.next = some (.arr 39 C .own) := Hp.get_set_same _ _ _
  have P1 : B1.get P = some (.abs 3 (LX.dat ⟨ts, n⟩)) := by rw [k1.old P hPA]; exact hP
  obtain ⟨V6, io6, B2, l2, k2, P2, c2, g2⟩ := list_use h k1.wf P1 (show n ≤ _ by omega)
  have q2 : B2.get A.next = some (.arr 39 (OpA.cells ⟨ok, otk, ots, otv⟩) .own) := by rw [k2.old _ (by omega) (by omega)]; exact q1
  have n2 := k2.nx
  obtain ⟨V7, io7, B3, L7, s1⟩ : ∃ V7 io7 B3, ∃ L7 : Value, loopD (some [2, 3, 5, 6, 7, 8, 15, 16, 17, 23, 24, 25]) (exec Tryd.bk.E call Tryd.f4.ntmps (Tryd.bk.inf 4) lf (loopOf Tryd.f4 1)) lf [(2, .bool false), (3, ptr P), (15, .slice (some ⟨ib, 0, some 4⟩) m c), (16, .int .i64 (m : Nat)), (17, .int .i64 (i : Nat)), (5, ptr A.next), (6, V6), (7, .slice none 0 0), (8, .int .i64 ((0 : Nat) : Int)), (23, V6), (24, .int .i64 (ts.length : Nat)), (25, .int .i64 ((0 : Nat) : Int))] B2 =
      some (.exit 2, [(2, .bool false), (3, ptr P), (15, .slice (some ⟨ib, 0, some 4⟩) m c), (16, .int .i64 (m : Nat)), (17, .int .i64 (i : Nat)), (5, ptr A.next), (6, V6), (7, V7), (8, .int .i64 ((po ⟨ok, otk, ots, otv⟩ ts).2 : Nat)), (23, V6), (24, .int .i64 (ts.length : Nat)), (25, L7)], B3) ∧ Kp B2 B3 ∧ CanAt 29 3 B3 V7 io7 ((po ⟨ok, otk, ots, otv⟩ ts).1.map tkc).flatten (po ⟨ok, otk, ots, otv⟩ ts).1.length ∧ ∀ j, io7 = some j → B2.next ≤ j := by
    obtain ⟨B3, V7, io7, L7, r⟩ := takes_in_loop (call := call) (ts := ts) (by omega) (o := ⟨ok, otk, ots, otv⟩) (U := A.next) (ptr P) (.slice (some ⟨ib, 0, some 4⟩) m c) (.int .i64 (m : Nat)) (.int .i64 (i : Nat)) lf k2.wf c2 q2 (by omega)
    exact ⟨V7, io7, B3, L7, r⟩
  obtain ⟨lp, k3, c7, g7⟩ := s1
  have n3 := k3.nx
  have P3 : B3.get P = some (.abs 3 (LX.dat ⟨ts, n⟩)) := by rw [k3.old P (by omega)]; exact P2
  have q3 : B3.get A.next = some (.arr 39 [.int .i64 ok, .int .i64 otk, .int .u32 ots, .int .u32 otv] .own) := by rw [k3.old _ (by omega)]; exact q2
  have hl2 : ∀ j, io6 = some j → j < B2.next := fun j hj => by subst hj; exact c2.lt k2.wf
  have c6 : CanAt 29 3 B3 V6 io6 (ts.map tkc).flatten ts.length := c2.keep fun j hj => k3.old j (hl2 j hj)
  have hl7 : ∀ j, io7 = some j → j < B3.next := fun j hj => by subst hj; exact c7.lt k3.wf
  have p6 : ∀ j, io6 = some j → j ≠ P := fun j hj => by have := g2 j hj; omega
  have p7 : ∀ j, io7 = some j → j ≠ P := fun j hj => by have := g7 j hj; omega
  have kA3 : KP P A0 B3 := ((hk.trans (k1.toP P)).trans k2).trans (k3.toP P)
  obtain ⟨a6, cc6, rfl⟩ := c6.sl3
  by_cases k0 : ok = 0
  · have hput := h.put (PutR.mk B3 P _ P3 otk ots otv hok.1 hok.2 (show n ≤ _ by omega))
    simp only at hput
    have hpl := putT_len ts otk ots otv
    have kD0 : KP P A0 (B3.set P (some (.abs 3 (LX.dat ⟨(putT ts otk ots otv).2, n + 1⟩)))) := kA3.setO P3 _
    have PD0 : (B3.set P (some (.abs 3 (LX.dat ⟨(putT ts otk ots otv).2, n + 1⟩)))).get P = some (.abs 3 (LX.dat ⟨(putT ts otk ots otv).2, n + 1⟩)) := Hp.get_set_same _ _ _
    cases hp1 : (putT ts otk ots otv).1 with
    | none =>
      rw [hp1] at hput
      have kD := kD0
      have PD := PD0
      obtain ⟨fa, fc, D1, D2, fl, fls, kf, Pf⟩ := both_use h kD.wf PD (show n + 1 ≤ _ by omega)
      refine ⟨?sa, D2, (putT ts otk ots otv).2, n + 1, kexec_run ?ra, ?ka, kD.trans kf, Pf, by omega, ?ta⟩
      case ta => exact Nat.le_trans hpl (by omega)
      case ra =>
        conv => lhs; whnf
        rw [kdec e1]
        conv => lhs; whnf
        rw [kdec e1]
        conv => lhs; whnf
        refine bind_of ((cellsAt_of hgi _ _).trans hcell2) ?_
        conv => lhs; whnf
        refine bind_of (dstore_of (Hp.get_push_same _ _) (t := 39) (o := 0) (cs' := C) rfl) ?_
        conv => lhs; whnf
        refine bind_of l2 ?_
        conv => lhs; whnf
        refine bind_of lp ?_
        conv => lhs; whnf
        refine bind_of (cellsAt_of q3 _ _) ?_
        conv => lhs; whnf
        rw [show (ok == 0) = true from beq_iff_eq.2 k0]
        conv => lhs; whnf
        refine bind_of (cellsAt_of q3 _ _) ?_
        conv => lhs; whnf
        refine bind_of hput ?_
        conv => lhs; whnf
        refine bind_of fl ?_
        conv => lhs; whnf
        refine bind_of fls ?_
        conv => lhs; whnf
        rw [show (((((putT ts otk ots otv).2).length : Nat) : Int) != ((((putT ts otk ots otv).2).length : Nat) : Int)) = false from bne_self_eq_false _]
        conv => lhs; whnf
        try rfl
      case ka =>
        show [_, _, _, _, (17, Value.int .i64 (IntKind.i64.wrap ((i : Int) + 1)))] = _
        rw [hw2]
    | some g =>
      have hp2 := putT_err hp1
      rw [hp1] at hput
      rw [hp2] at hput kD0 PD0
      obtain ⟨V9, io9, D, l9, k9, PD, c9, g9⟩ := list_use h kD0.wf PD0 (show n + 1 ≤ _ by omega)
      have hsm := hsame c9 (T2 := ts) (c6.keep fun j hj => by
        have := hl2 j hj
        rw [k9.old j (by rw [Hp.next_set]; omega) (p6 j hj), Hp.get_set_ne _ _ (p6 j hj)]) (show ts.length ≤ _ by omega) (show ts.length < _ by omega)
      simp only at hsm
      rw [decide_true] at hsm
      have kD := kD0.trans k9
      obtain ⟨fa, fc, D1, D2, fl, fls, kf, Pf⟩ := both_use h kD.wf PD (show n + 1 ≤ _ by omega)
      refine ⟨?sb, D2, ts, n + 1, kexec_run ?rb, ?kb, kD.trans kf, Pf, by omega, ?tb⟩
      case tb => omega
      case rb =>
        conv => lhs; whnf
        rw [kdec e1]
        conv => lhs; whnf
        rw [kdec e1]
        conv => lhs; whnf
        refine bind_of ((cellsAt_of hgi _ _).trans hcell2) ?_
        conv => lhs; whnf
        refine bind_of (dstore_of (Hp.get_push_same _ _) (t := 39) (o := 0) (cs' := C) rfl) ?_
        conv => lhs; whnf
        refine bind_of l2 ?_
        conv => lhs; whnf
        refine bind_of lp ?_
        conv => lhs; whnf
        refine bind_of (cellsAt_of q3 _ _) ?_
        conv => lhs; whnf
        rw [show (ok == 0) = true from beq_iff_eq.2 k0]
        conv => lhs; whnf
        refine bind_of (cellsAt_of q3 _ _) ?_
        conv => lhs; whnf
        refine bind_of hput ?_
        conv => lhs; whnf
        refine bind_of l9 ?_
        conv => lhs; whnf
        refine bind_of hsm ?_
        conv => lhs; whnf
        refine bind_of fl ?_
        conv => lhs; whnf
        refine bind_of fls ?_
        conv => lhs; whnf
        rw [show ((((ts).length : Nat) : Int) != (((ts).length : Nat) : Int)) = false from bne_self_eq_false _]
        conv => lhs; whnf
        try rfl
      case kb =>
        show [_, _, _, _, (17, Value.int .i64 (IntKind.i64.wrap ((i : Int) + 1)))] = _
        rw [hw2]
  · by_cases k2' : ok = 2
    · have hpo := po2 (o := ⟨ok, otk, ots, otv⟩) k2' ts []
      have hpo1 : (po ⟨ok, otk, ots, otv⟩ ts).1 = ts.eraseP (wm otk ots) := by unfold po; rw [hpo]; simp
      have hpo2 : (po ⟨ok, otk, ots, otv⟩ ts).2 = if ts.any (wm otk ots) then 1 else 0 := by unfold po; rw [hpo]
      rw [hpo1] at c7
      rw [hpo2] at lp
      have hwd := h.wd (WdR.mk B3 P _ P3 (show n ≤ _ by omega) otk ots)
      simp only at hwd
      have hle : (ts.eraseP (wm otk ots)).length ≤ ts.length := List.eraseP_sublist.length_le
      have kD0 : KP P A0 (B3.set P (some (.abs 3 (LX.dat ⟨ts.eraseP (wm otk ots), n⟩)))) := kA3.setO P3 _
      obtain ⟨V9, io9, D, l9, k9, PD, c9, g9⟩ := list_use h kD0.wf (P := P) (x := ⟨ts.eraseP (wm otk ots), n⟩) (Hp.get_set_same _ _ _) (show n ≤ _ by omega)
      have hsm := hsame c9 (c7.keep fun j hj => by
        have := hl7 j hj
        rw [k9.old j (by rw [Hp.next_set]; omega) (p7 j hj), Hp.get_set_ne _ _ (p7 j hj)]) (show (ts.eraseP (wm otk ots)).length ≤ _ by omega) (show (ts.eraseP (wm otk ots)).length < _ by omega)
      simp only at hsm
      rw [decide_true] at hsm
      have kD := kD0.trans k9
      cases hany : ts.any (wm otk ots) with
      | true =>
        rw [hany] at hwd lp
        simp only [if_true] at lp
        obtain ⟨fa, fc, D1, D2, fl, fls, kf, Pf⟩ := both_use h kD.wf PD (show n ≤ _ by omega)
        refine ⟨?sc, D2, ts.eraseP (wm otk ots), n, kexec_run ?rc, ?kc, kD.trans kf, Pf, by omega, ?tc⟩
        case tc => exact Nat.le_trans hle htn
        case rc =>
          conv => lhs; whnf
          rw [kdec e1]
          conv => lhs; whnf
          rw [kdec e1]
          conv => lhs; whnf
          refine bind_of ((cellsAt_of hgi _ _).trans hcell2) ?_
          conv => lhs; whnf
          refine bind_of (dstore_of (Hp.get_push_same _ _) (t := 39) (o := 0) (cs' := C) rfl) ?_
          conv => lhs; whnf
          refine bind_of l2 ?_
          conv => lhs; whnf
          refine bind_of lp ?_
          conv => lhs; whnf
          refine bind_of (cellsAt_of q3 _ _) ?_
          conv => lhs; whnf
          rw [show (ok == 0) = false from beq_eq_false_iff_ne.2 k0]
          conv => lhs; whnf
          rw [show (ok == 2) = true from beq_iff_eq.2 k2']
          conv => lhs; whnf
          refine bind_of (cellsAt_of q3 _ _) ?_
          conv => lhs; whnf
          refine bind_of (cellsAt_of q3 _ _) ?_
          conv => lhs; whnf
          refine bind_of hwd ?_
          conv => lhs; whnf
          refine bind_of l9 ?_
          conv => lhs; whnf
          refine bind_of hsm ?_
          conv => lhs; whnf
          refine bind_of fl ?_
          conv => lhs; whnf
          refine bind_of fls ?_
          conv => lhs; whnf
          rw [show ((((ts.eraseP (wm otk ots)).length : Nat) : Int) != (((ts.eraseP (wm otk ots)).length : Nat) : Int)) = false from bne_self_eq_false _]
          conv => lhs; whnf
          try rfl
        case kc =>
          show [_, _, _, _, (17, Value.int .i64 (IntKind.i64.wrap ((i : Int) + 1)))] = _
          rw [hw2]
      | false =>
        rw [hany] at hwd lp
        simp only [Bool.false_eq_true, if_false] at lp
        obtain ⟨fa, fc, D1, D2, fl, fls, kf, Pf⟩ := both_use h kD.wf PD (show n ≤ _ by omega)
        refine ⟨?sd, D2, ts.eraseP (wm otk ots), n, kexec_run ?rd, ?kd, kD.trans kf, Pf, by omega, ?td⟩
        case td => exact Nat.le_trans hle htn
        case rd =>
          conv => lhs; whnf
          rw [kdec e1]
          conv => lhs; whnf
          rw [kdec e1]
          conv => lhs; whnf
          refine bind_of ((cellsAt_of hgi _ _).trans hcell2) ?_
          conv => lhs; whnf
          refine bind_of (dstore_of (Hp.get_push_same _ _) (t := 39) (o := 0) (cs' := C) rfl) ?_
          conv => lhs; whnf
          refine bind_of l2 ?_
          conv => lhs; whnf
          refine bind_of lp ?_
          conv => lhs; whnf
          refine bind_of (cellsAt_of q3 _ _) ?_
          conv => lhs; whnf
          rw [show (ok == 0) = false from beq_eq_false_iff_ne.2 k0]
          conv => lhs; whnf
          rw [show (ok == 2) = true from beq_iff_eq.2 k2']
          conv => lhs; whnf
          refine bind_of (cellsAt_of q3 _ _) ?_
          conv => lhs; whnf
          refine bind_of (cellsAt_of q3 _ _) ?_
          conv => lhs; whnf
          refine bind_of hwd ?_
          conv => lhs; whnf
          refine bind_of l9 ?_
          conv => lhs; whnf
          refine bind_of hsm ?_
          conv => lhs; whnf
          refine bind_of fl ?_
          conv => lhs; whnf
          refine bind_of fls ?_
          conv => lhs; whnf
          rw [show ((((ts.eraseP (wm otk ots)).length : Nat) : Int) != (((ts.eraseP (wm otk ots)).length : Nat) : Int)) = false from bne_self_eq_false _]
          conv => lhs; whnf
          try rfl
        case kd =>
          show [_, _, _, _, (17, Value.int .i64 (IntKind.i64.wrap ((i : Int) + 1)))] = _
          rw [hw2]
    · by_cases k3' : ok = 3
      · have hpo := po3 (o := ⟨ok, otk, ots, otv⟩) k3' ts ([], 0)
        have hpo1 : (po ⟨ok, otk, ots, otv⟩ ts).1 = ts.filter (fun t => !isS ots t) := by unfold po; rw [hpo]; simp
        have hpo2 : (po ⟨ok, otk, ots, otv⟩ ts).2 = ts.countP (isS ots) := by unfold po; rw [hpo]; simp
        rw [hpo1] at c7
        rw [hpo2] at lp
        have hfg := h.fg (FgR.mk B3 P _ P3 (show n ≤ _ by omega) ots)
        simp only at hfg
        have hle : (ts.filter (fun t => !isS ots t)).length ≤ ts.length := List.filter_sublist.length_le
        have kD0 : KP P A0 (B3.set P (some (.abs 3 (LX.dat ⟨ts.filter (fun t => !isS ots t), n⟩)))) := kA3.setO P3 _
        obtain ⟨V9, io9, D, l9, k9, PD, c9, g9⟩ := list_use h kD0.wf (P := P) (x := ⟨ts.filter (fun t => !isS ots t), n⟩) (Hp.get_set_same _ _ _) (show n ≤ _ by omega)
        have hsm := hsame c9 (c7.keep fun j hj => by
          have := hl7 j hj
          rw [k9.old j (by rw [Hp.next_set]; omega) (p7 j hj), Hp.get_set_ne _ _ (p7 j hj)]) (show (ts.filter (fun t => !isS ots t)).length ≤ _ by omega) (show (ts.filter (fun t => !isS ots t)).length < _ by omega)
        simp only at hsm
        rw [decide_true] at hsm
        have kD := kD0.trans k9
        generalize ts.countP (isS ots) = cn at lp hfg
        obtain ⟨fa, fc, D1, D2, fl, fls, kf, Pf⟩ := both_use h kD.wf PD (show n ≤ _ by omega)
        refine ⟨?se, D2, ts.filter (fun t => !isS ots t), n, kexec_run ?re, ?ke, kD.trans kf, Pf, by omega, ?te⟩
        case te => exact Nat.le_trans hle htn
        case re =>
          conv => lhs; whnf
          rw [kdec e1]
          conv => lhs; whnf
          rw [kdec e1]
          conv => lhs; whnf
          refine bind_of ((cellsAt_of hgi _ _).trans hcell2) ?_
          conv => lhs; whnf
          refine bind_of (dstore_of (Hp.get_push_same _ _) (t := 39) (o := 0) (cs' := C) rfl) ?_
          conv => lhs; whnf
          refine bind_of l2 ?_
          conv => lhs; whnf
          refine bind_of lp ?_
          conv => lhs; whnf
          refine bind_of (cellsAt_of q3 _ _) ?_
          conv => lhs; whnf
          rw [show (ok == 0) = false from beq_eq_false_iff_ne.2 k0]
          conv => lhs; whnf
          rw [show (ok == 2) = false from beq_eq_false_iff_ne.2 k2']
          conv => lhs; whnf
          rw [show (ok == 3) = true from beq_iff_eq.2 k3']
          conv => lhs; whnf
          refine bind_of (cellsAt_of q3 _ _) ?_
          conv => lhs; whnf
          refine bind_of hfg ?_
          conv => lhs; whnf
          rw [show (((cn : Nat) : Int) != ((cn : Nat) : Int)) = false from bne_self_eq_false _]
          conv => lhs; whnf
          refine bind_of l9 ?_
          conv => lhs; whnf
          refine bind_of hsm ?_
          conv => lhs; whnf
          refine bind_of fl ?_
          conv => lhs; whnf
          refine bind_of fls ?_
          conv => lhs; whnf
          rw [show ((((ts.filter (fun t => !isS ots t)).length : Nat) : Int) != (((ts.filter (fun t => !isS ots t)).length : Nat) : Int)) = false from bne_self_eq_false _]
          conv => lhs; whnf
          try rfl
        case ke =>
          show [_, _, _, _, (17, Value.int .i64 (IntKind.i64.wrap ((i : Int) + 1)))] = _
          rw [hw2]
      · by_cases k4' : ok = 4
        · have hpo := po4 (o := ⟨ok, otk, ots, otv⟩) k4' ts ([], 0)
          have hpo2 : (po ⟨ok, otk, ots, otv⟩ ts).2 = ts.length := by unfold po; rw [hpo]; simp
          rw [hpo2] at lp
          have hcl := h.cl (ClR.mk B3 P _ P3)
          simp only at hcl
          have kD0 : KP P A0 (B3.set P (some (.abs 3 (LX.dat ⟨[], n⟩)))) := kA3.setO P3 _
          have hln := h.len (LenR.mk (B3.set P (some (.abs 3 (LX.dat ⟨[], n⟩)))) P ⟨[], n⟩ (Hp.get_set_same _ _ _))
          have kD : KP P A0 ((B3.set P (some (.abs 3 (LX.dat ⟨[], n⟩)))).set P (some (.abs 3 (LX.dat ⟨[], n⟩)))) := kD0.setO (Hp.get_set_same _ _ _) _
          have PD : ((B3.set P (some (.abs 3 (LX.dat ⟨[], n⟩)))).set P (some (.abs 3 (LX.dat ⟨[], n⟩)))).get P = some (.abs 3 (LX.dat ⟨[], n⟩)) := Hp.get_set_same _ _ _
          obtain ⟨fa, fc, D1, D2, fl, fls, kf, Pf⟩ := both_use h kD.wf PD (show n ≤ _ by omega)
          refine ⟨?sf, D2, [], n, kexec_run ?rf, ?kf, kD.trans kf, Pf, by omega, ?tf⟩
          case tf => exact Nat.zero_le _
          case rf =>
            conv => lhs; whnf
            rw [kdec e1]
            conv => lhs; whnf
            rw [kdec e1]
            conv => lhs; whnf
            refine bind_of ((cellsAt_of hgi _ _).trans hcell2) ?_
            conv => lhs; whnf
            refine bind_of (dstore_of (Hp.get_push_same _ _) (t := 39) (o := 0) (cs' := C) rfl) ?_
            conv => lhs; whnf
            refine bind_of l2 ?_
            conv => lhs; whnf
            refine bind_of lp ?_
            conv => lhs; whnf
            refine bind_of (cellsAt_of q3 _ _) ?_
            conv => lhs; whnf
            rw [show (ok == 0) = false from beq_eq_false_iff_ne.2 k0]
            conv => lhs; whnf
            rw [show (ok == 2) = false from beq_eq_false_iff_ne.2 k2']
            conv => lhs; whnf
            rw [show (ok == 3) = false from beq_eq_false_iff_ne.2 k3']
            conv => lhs; whnf
            rw [show (ok == 4) = true from beq_iff_eq.2 k4']
            conv => lhs; whnf
            refine bind_of hcl ?_
            conv => lhs; whnf
            rw [show (((ts.length : Nat) : Int) != ((ts.length : Nat) : Int)) = false from bne_self_eq_false _]
            conv => lhs; whnf
            refine bind_of hln ?_
            conv => lhs; whnf
            refine bind_of fl ?_
            conv => lhs; whnf
            refine bind_of fls ?_
            conv => lhs; whnf
            try rfl
          case kf =>
            show [_, _, _, _, (17, Value.int .i64 (IntKind.i64.wrap ((i : Int) + 1)))] = _
            rw [hw2]
        · have kD := kA3
          have PD := P3
          obtain ⟨fa, fc, D1, D2, fl, fls, kf, Pf⟩ := both_use h kD.wf PD (show n ≤ _ by omega)
          refine ⟨?sg, D2, ts, n, kexec_run ?rg, ?kg, kD.trans kf, Pf, by omega, ?tg⟩
          case tg => exact htn
          case rg =>
            conv => lhs; whnf
            rw [kdec e1]
            conv => lhs; whnf
            rw [kdec e1]
            conv => lhs; whnf
            refine bind_of ((cellsAt_of hgi _ _).trans hcell2) ?_
            conv => lhs; whnf
            refine bind_of (dstore_of (Hp.get_push_same _ _) (t := 39) (o := 0) (cs' := C) rfl) ?_
            conv => lhs; whnf
            refine bind_of l2 ?_
            conv => lhs; whnf
            refine bind_of lp ?_
            conv => lhs; whnf
            refine bind_of (cellsAt_of q3 _ _) ?_
            conv => lhs; whnf
            rw [show (ok == 0) = false from beq_eq_false_iff_ne.2 k0]
            conv => lhs; whnf
            rw [show (ok == 2) = false from beq_eq_false_iff_ne.2 k2']
            conv => lhs; whnf
            rw [show (ok == 3) = false from beq_eq_false_iff_ne.2 k3']
            conv => lhs; whnf
            rw [show (ok == 4) = false from beq_eq_false_iff_ne.2 k4']
            conv => lhs; whnf
            refine bind_of fl ?_
            conv => lhs; whnf
            refine bind_of fls ?_
            conv => lhs; whnf
            rw [show ((((ts).length : Nat) : Int) != (((ts).length : Nat) : Int)) = false from bne_self_eq_false _]
            conv => lhs; whnf
            try rfl
          case kg =>
            show [_, _, _, _, (17, Value.int .i64 (IntKind.i64.wrap ((i : Int) + 1)))] = _
            rw [hw2]
end
end Go.Dn.Ln
end

section
/-
  'LaneDrains', run: the sum of a stream's grants
-/
namespace Go.Dn.Ln
open Go.Proofs
set_option maxHeartbeats 4000000
set_option maxRecDepth 100000
attribute [local irreducible] Hp.get Hp.set Hp.push dappend dcopy dstore cellsAt callD loopD

theorem gsum_le : ∀ (T : List Tk) (s : Int), (∀ t ∈ T, 0 ≤ t.2.2 ∧ t.2.2 ≤ 4294967295) → 0 ≤ gsum T s ∧ gsum T s ≤ (T.length : Int) * 4294967295
  | [], s, _ => by simp [gsum]
  | t :: T, s, h => by
    have ih := gsum_le T s fun x hx => h x (List.mem_cons_of_mem _ hx)
    have ht := h t List.mem_cons_self
    have e : gsum (t :: T) s = (if isG s t then t.2.2 else 0) + gsum T s := by
      unfold gsum
      rw [List.filter_cons]
      split <;> simp
    rw [e, List.length_cons]
    split <;> constructor <;> push_cast <;> omega

/-- the sum as far as it is read -/
def gs (T : List Tk) (u : Tk) (j : Nat) : Int := if u.1 = 3 then gsum (T.take j) u.2.1 else 0
/-- was one of them before? -/
def lt (T : List Tk) (u : Tk) (i j : Nat) : Bool := u.1 == 3 && (T.take (min j i)).any (isG u.2.1)
def hit (u x : Tk) : Bool := u.1 == 3 && isG u.2.1 x

theorem gs_step {T : List Tk} {u x : Tk} {j : Nat} (h : T[j]? = some x) : gs T u (j + 1) = if hit u x then gs T u j + x.2.2 else gs T u j := by
  unfold gs hit
  rw [take_succ h, gsum_snoc]
  by_cases h3 : u.1 = 3
  · rw [if_pos h3, if_pos h3]
    simp only [h3, beq_self_eq_true, Bool.true_and]
    split <;> simp
  · rw [if_neg h3, if_neg h3]
    simp [h3]
theorem lt_step {T : List Tk} {u x : Tk} {i j : Nat} (h : T[j]? = some x) : lt T u i (j + 1) = if hit u x then (lt T u i j || decide (j < i)) else lt T u i j := by
  unfold lt hit
  by_cases h3 : u.1 = 3
  · simp only [h3, beq_self_eq_true, Bool.true_and]
    by_cases hj : j < i
    · rw [show min (j + 1) i = j + 1 by omega, show min j i = j by omega, take_succ h, List.any_append]
      simp only [List.any_cons, List.any_nil, Bool.or_false, hj, decide_true, Bool.or_true]
      split
      · rename_i hx; rw [hx, Bool.or_true]
      · rename_i hx; rw [Bool.not_eq_true] at hx; rw [hx, Bool.or_false]
    · rw [show min (j + 1) i = min j i by omega]
      simp [hj]
  · rw [show (u.1 == 3) = false from beq_eq_false_iff_ne.2 h3]; rfl
theorem gs_le {T : List Tk} {u : Tk} {j : Nat} (hT : ∀ t ∈ T, 0 ≤ t.2.2 ∧ t.2.2 ≤ 4294967295) : 0 ≤ gs T u j ∧ gs T u j ≤ (j : Int) * 4294967295 := by
  unfold gs
  split
  · have := gsum_le (T.take j) u.2.1 fun t ht => hT t (List.mem_of_mem_take ht)
    have hl : ((T.take j).length : Int) ≤ j := by rw [List.length_take]; omega
    omega
  · omega

section
variable {call : CallT} {T : List Tk} (hTl : T.length ≤ 2000) (hT : ∀ t ∈ T, 0 ≤ t.2.2 ∧ t.2.2 ≤ 4294967295) {it U : Nat} {u : Tk} (V3 V4 V44 V45 V46 : Value)
include hTl hT

theorem drain_in (lf : Nat) {A : Hp} (hw : A.wf) (hit0 : A.get it = some (.arr 29 (T.map tkc).flatten .own)) (hU : A.get U = some (.arr 29 (tkc u) .own)) {c i j : Nat} {s : Int} {b : Bool} (hs : 0 ≤ s ∧ s ≤ (j : Int) * 4294967295) {x : Tk} (hx : T[j]? = some x) :
    ∃ σ1 A1, exec Tryd.bk.E call Tryd.f3.ntmps (Tryd.bk.inf 3) lf (loopOf Tryd.f3 2) [(2, .bool false), (3, V3), (4, V4), (44, V44), (45, V45), (46, V46), (8, ptr U), (7, .int .i64 (i : Nat)), (9, .int .i64 s), (10, .bool b), (51, .slice (some ⟨it, 0, some 3⟩) T.length c), (52, .int .i64 (T.length : Nat)), (53, .int .i64 (j : Nat))] A = some (.normal, σ1, A1) ∧
      keepSl (some [2, 3, 4, 7, 8, 9, 10, 44, 45, 46, 51, 52, 53]) σ1 = [(2, .bool false), (3, V3), (4, V4), (44, V44), (45, V45), (46, V46), (8, ptr U), (7, .int .i64 (i : Nat)), (9, .int .i64 (if hit u x then s + x.2.2 else s)), (10, .bool (if hit u x then (b || decide (j < i)) else b)), (51, .slice (some ⟨it, 0, some 3⟩) T.length c), (52, .int .i64 (T.length : Nat)), (53, .int .i64 (j + 1 : Nat))] ∧ Kp A A1 := by
  have hj : j < T.length := (List.getElem?_eq_some_iff.1 hx).1
  have hcell := tick_row hx
  have hok := hT x (List.mem_of_getElem? hx)
  obtain ⟨uk, us, uv⟩ := u
  obtain ⟨xk, xs, xv⟩ := x
  simp only at hok
  have e1 : ((j : Nat) : Int) < ((T.length : Nat) : Int) := by omega
  have hw2 : IntKind.i64.wrap ((j : Int) + 1) = ((j + 1 : Nat) : Int) := by rw [w64 (by omega) (by omega)]; omega
  have hwv : IntKind.i64.wrap xv = xv := by rw [w64 (by omega) (by omega)]
  have hws : IntKind.i64.wrap (s + xv) = s + xv := by rw [w64 (by omega) (by omega)]
  let Z : List Value := [.int .i64 0, .int .u32 0, .int .u32 0]
  let C : List Value := [.int .i64 (xk : Nat), .int .u32 xs, .int .u32 xv]
  let A1 : Hp := (A.push (.arr 29 Z .own)).set A.next (some (.arr 29 C .own))
  have k1 : Kp A A1 := (Kp.push hw (.arr 29 Z .own)).set (Hp.get_push_same _ _) (Nat.le_refl _) _
  have n1 : A1.next = A.next + 1 := by simp [A1]
  have q1 : A1.get A.next = some (.arr 29 C .own) := Hp.get_set_same _ _ _
  have hU1 : A1.get U = some (.arr 29 [.int .i64 (uk : Nat), .int .u32 us, .int .u32 uv] .own) := by rw [k1.old _ (hw.lt hU)]; exact hU
  have hcell2 : cellsIn (T.map tkc).flatten (0 + j * 3) 3 = some C := hcell
  by_cases h3 : uk = 3
  · have e3 : ((uk : Nat) : Int) = 3 := by omega
    by_cases h4 : xk = 3
    · have e4 : ((xk : Nat) : Int) = ((uk : Nat) : Int) := by omega
      by_cases h5 : xs = us
      · have hh : hit (uk, us, uv) (xk, xs, xv) = true := by simp [hit, isG, h3, h4, h5]
        rw [hh]
        simp only [if_true]
        cases b with
        | true =>
          refine ⟨?sa, A1, kexec_run ?ra, ?ka, k1⟩
          case ra =>
            conv => lhs; whnf
            rw [kdec e1]
            conv => lhs; whnf
            rw [kdec e1]
            conv => lhs; whnf
            refine bind_of ((cellsAt_of hit0 _ _).trans hcell2) ?_
            conv => lhs; whnf
            refine bind_of (dstore_of (Hp.get_push_same _ _) (t := 29) (o := 0) (cs' := C) rfl) ?_
            conv => lhs; whnf
            refine bind_of (cellsAt_of hU1 _ _) ?_
            conv => lhs; whnf
            rw [show (((uk : Nat) : Int) == 3) = true from beq_iff_eq.2 e3]
            conv => lhs; whnf
            refine bind_of (cellsAt_of q1 _ _) ?_
            conv => lhs; whnf
            refine bind_of (cellsAt_of hU1 _ _) ?_
            conv => lhs; whnf
            rw [show (((xk : Nat) : Int) == ((uk : Nat) : Int)) = true from beq_iff_eq.2 e4]
            conv => lhs; whnf
            refine bind_of (cellsAt_of q1 _ _) ?_
            conv => lhs; whnf
            refine bind_of (cellsAt_of hU1 _ _) ?_
            conv => lhs; whnf
            rw [show (xs == us) = true from beq_iff_eq.2 h5]
            conv => lhs; whnf
            refine bind_of (cellsAt_of q1 _ _) ?_
            conv => lhs; whnf
            try rfl
          case ka =>
            show [_, _, _, _, _, _, _, _, (9, Value.int .i64 (IntKind.i64.wrap (s + IntKind.i64.wrap xv))), _, _, _, (53, Value.int .i64 (IntKind.i64.wrap ((j : Int) + 1)))] = _
            rw [hw2, hwv, hws, Bool.true_or]
        | false =>
          refine ⟨?sb, A1, kexec_run ?rb, ?kb, k1⟩
          case rb =>
            conv => lhs; whnf
            rw [kdec e1]
            conv => lhs; whnf
            rw [kdec e1]
            conv => lhs; whnf
            refine bind_of ((cellsAt_of hit0 _ _).trans hcell2) ?_
            conv => lhs; whnf
            refine bind_of (dstore_of (Hp.get_push_same _ _) (t := 29) (o := 0) (cs' := C) rfl) ?_
            conv => lhs; whnf
            refine bind_of (cellsAt_of hU1 _ _) ?_
            conv => lhs; whnf
            rw [show (((uk : Nat) : Int) == 3) = true from beq_iff_eq.2 e3]
            conv => lhs; whnf
            refine bind_of (cellsAt_of q1 _ _) ?_
            conv => lhs; whnf
            refine bind_of (cellsAt_of hU1 _ _) ?_
            conv => lhs; whnf
            rw [show (((xk : Nat) : Int) == ((uk : Nat) : Int)) = true from beq_iff_eq.2 e4]
            conv => lhs; whnf
            refine bind_of (cellsAt_of q1 _ _) ?_
            conv => lhs; whnf
            refine bind_of (cellsAt_of hU1 _ _) ?_
            conv => lhs; whnf
            rw [show (xs == us) = true from beq_iff_eq.2 h5]
            conv => lhs; whnf
            refine bind_of (cellsAt_of q1 _ _) ?_
            conv => lhs; whnf
            try rfl
          case kb =>
            show [_, _, _, _, _, _, _, _, (9, Value.int .i64 (IntKind.i64.wrap (s + IntKind.i64.wrap xv))), _, _, _, (53, Value.int .i64 (IntKind.i64.wrap ((j : Int) + 1)))] = _
            rw [hw2, hwv, hws, Bool.false_or, show decide (j < i) = decide (((j : Nat) : Int) < ((i : Nat) : Int)) from decide_eq_decide.2 (by omega)]
      · have hh : hit (uk, us, uv) (xk, xs, xv) = false := by simp [hit, isG, h5]
        rw [hh]
        simp only [Bool.false_eq_true, if_false]
        refine ⟨?sc, A1, kexec_run ?rc, ?kc, k1⟩
        case rc =>
          conv => lhs; whnf
          rw [kdec e1]
          conv => lhs; whnf
          rw [kdec e1]
          conv => lhs; whnf
          refine bind_of ((cellsAt_of hit0 _ _).trans hcell2) ?_
          conv => lhs; whnf
          refine bind_of (dstore_of (Hp.get_push_same _ _) (t := 29) (o := 0) (cs' := C) rfl) ?_
          conv => lhs; whnf
          refine bind_of (cellsAt_of hU1 _ _) ?_
          conv => lhs; whnf
          rw [show (((uk : Nat) : Int) == 3) = true from beq_iff_eq.2 e3]
          conv => lhs; whnf
          refine bind_of (cellsAt_of q1 _ _) ?_
          conv => lhs; whnf
          refine bind_of (cellsAt_of hU1 _ _) ?_
          conv => lhs; whnf
          rw [show (((xk : Nat) : Int) == ((uk : Nat) : Int)) = true from beq_iff_eq.2 e4]
          conv => lhs; whnf
          refine bind_of (cellsAt_of q1 _ _) ?_
          conv => lhs; whnf
          refine bind_of (cellsAt_of hU1 _ _) ?_
          conv => lhs; whnf
          rw [show (xs == us) = false from beq_eq_false_iff_ne.2 h5]
          conv => lhs; whnf
          try rfl
        case kc =>
          show [_, _, _, _, _, _, _, _, _, _, _, _, (53, Value.int .i64 (IntKind.i64.wrap ((j : Int) + 1)))] = _
          rw [hw2]
    · have e4 : ¬ ((xk : Nat) : Int) = ((uk : Nat) : Int) := by omega
      have hh : hit (uk, us, uv) (xk, xs, xv) = false := by simp [hit, isG, h4]
      rw [hh]
      simp only [Bool.false_eq_true, if_false]
      refine ⟨?sd, A1, kexec_run ?rd, ?kd, k1⟩
      case rd =>
        conv => lhs; whnf
        rw [kdec e1]
        conv => lhs; whnf
        rw [kdec e1]
        conv => lhs; whnf
        refine bind_of ((cellsAt_of hit0 _ _).trans hcell2) ?_
        conv => lhs; whnf
        refine bind_of (dstore_of (Hp.get_push_same _ _) (t := 29) (o := 0) (cs' := C) rfl) ?_
        conv => lhs; whnf
        refine bind_of (cellsAt_of hU1 _ _) ?_
        conv => lhs; whnf
        rw [show (((uk : Nat) : Int) == 3) = true from beq_iff_eq.2 e3]
        conv => lhs; whnf
        refine bind_of (cellsAt_of q1 _ _) ?_
        conv => lhs; whnf
        refine bind_of (cellsAt_of hU1 _ _) ?_
        conv => lhs; whnf
        rw [show (((xk : Nat) : Int) == ((uk : Nat) : Int)) = false from beq_eq_false_iff_ne.2 e4]
        conv => lhs; whnf
        try rfl
      case kd =>
        show [_, _, _, _, _, _, _, _, _, _, _, _, (53, Value.int .i64 (IntKind.i64.wrap ((j : Int) + 1)))] = _
        rw [hw2]
  · have e3 : ¬ ((uk : Nat) : Int) = 3 := by omega
    have hh : hit (uk, us, uv) (xk, xs, xv) = false := by simp [hit, h3]
    rw [hh]
    simp only [Bool.false_eq_true, if_false]
    refine ⟨?se, A1, kexec_run ?re, ?ke, k1⟩
    case re =>
      conv => lhs; whnf
      rw [kdec e1]
      conv => lhs; whnf
      rw [kdec e1]
      conv => lhs; whnf
      refine bind_of ((cellsAt_of hit0 _ _).trans hcell2) ?_
      conv => lhs; whnf
      refine bind_of (dstore_of (Hp.get_push_same _ _) (t := 29) (o := 0) (cs' := C) rfl) ?_
      conv => lhs; whnf
      refine bind_of (cellsAt_of hU1 _ _) ?_
      conv => lhs; whnf
      rw [show (((uk : Nat) : Int) == 3) = false from beq_eq_false_iff_ne.2 e3]
      conv => lhs; whnf
      try rfl
    case ke =>
      show [_, _, _, _, _, _, _, _, _, _, _, _, (53, Value.int .i64 (IntKind.i64.wrap ((j : Int) + 1)))] = _
      rw [hw2]

theorem drain_in_loop (lf : Nat) {A0 : Hp} (hw : A0.wf) (hit0 : A0.get it = some (.arr 29 (T.map tkc).flatten .own)) (hU : A0.get U = some (.arr 29 (tkc u) .own)) {c i : Nat} (hlf : T.length < lf) :
    ∃ A1 J, loopD (some [2, 3, 4, 7, 8, 9, 10, 44, 45, 46, 51, 52, 53]) (exec Tryd.bk.E call Tryd.f3.ntmps (Tryd.bk.inf 3) lf (loopOf Tryd.f3 2)) lf [(2, .bool false), (3, V3), (4, V4), (44, V44), (45, V45), (46, V46), (8, ptr U), (7, .int .i64 (i : Nat)), (9, .int .i64 0), (10, .bool false), (51, .slice (some ⟨it, 0, some 3⟩) T.length c), (52, .int .i64 (T.length : Nat)), (53, .int .i64 ((0 : Nat) : Int))] A0 =
      some (.exit 4, [(2, .bool false), (3, V3), (4, V4), (44, V44), (45, V45), (46, V46), (8, ptr U), (7, .int .i64 (i : Nat)), (9, .int .i64 (gs T u T.length)), (10, .bool (lt T u i T.length)), (51, .slice (some ⟨it, 0, some 3⟩) T.length c), (52, .int .i64 (T.length : Nat)), (53, J)], A1) ∧ Kp A0 A1 := by
  have key := loop_rule (ks := some [2, 3, 4, 7, 8, 9, 10, 44, 45, 46, 51, 52, 53]) (f := exec Tryd.bk.E call Tryd.f3.ntmps (Tryd.bk.inf 3) lf (loopOf Tryd.f3 2)) (S := Nat)
    (fun j => [(2, .bool false), (3, V3), (4, V4), (44, V44), (45, V45), (46, V46), (8, ptr U), (7, .int .i64 (i : Nat)), (9, .int .i64 (gs T u j)), (10, .bool (lt T u i j)), (51, .slice (some ⟨it, 0, some 3⟩) T.length c), (52, .int .i64 (T.length : Nat)), (53, .int .i64 (j : Nat))])
    (fun j A => j ≤ T.length ∧ Kp A0 A) (fun j => T.length - j)
    (fun e σ A1 => e = .exit 4 ∧ ∃ J, σ = [(2, .bool false), (3, V3), (4, V4), (44, V44), (45, V45), (46, V46), (8, ptr U), (7, .int .i64 (i : Nat)), (9, .int .i64 (gs T u T.length)), (10, .bool (lt T u i T.length)), (51, .slice (some ⟨it, 0, some 3⟩) T.length c), (52, .int .i64 (T.length : Nat)), (53, J)] ∧ Kp A0 A1) (fun j A hs => ?_)
    lf 0 A0 ⟨Nat.zero_le _, Kp.refl hw⟩ (by omega)
  · obtain ⟨e, σ1, A1, r1, rfl, J, rfl, r2⟩ := key
    have g0 : gs T u 0 = 0 := by unfold gs; split <;> simp [gsum]
    have l0 : lt T u i 0 = false := by unfold lt; simp
    rw [g0, l0] at r1
    exact ⟨A1, J, r1, r2⟩
  · obtain ⟨z1, z2⟩ := hs
    by_cases hj : j < T.length
    · obtain ⟨x, hx⟩ : ∃ x, T[j]? = some x := ⟨_, List.getElem?_eq_getElem hj⟩
      obtain ⟨σ1, A1, r1, r2, r3⟩ := drain_in (call := call) hTl hT V3 V4 V44 V45 V46 lf (A := A) z2.wf (by rw [z2.old _ (hw.lt hit0)]; exact hit0) (by rw [z2.old _ (hw.lt hU)]; exact hU) (c := c) (i := i) (b := lt T u i j) (gs_le (u := u) (j := j) hT) hx
      rw [← gs_step hx, ← lt_step hx] at r2
      exact ⟨.normal, σ1, A1, r1, .inl ⟨rfl, j + 1, r2, ⟨hj, z2.trans r3⟩, by omega⟩⟩
    · obtain rfl : j = T.length := by omega
      have e1 : ¬ ((T.length : Nat) : Int) < ((T.length : Nat) : Int) := by omega
      refine ⟨.exit 4, ?sz, A, kexec_run ?rz, .inr ⟨by simp, rfl, ?Jz, ?kz, z2⟩⟩
      case rz =>
        conv => lhs; whnf
        rw [kdecn e1]
      case kz => rfl
end
end Go.Dn.Ln
end

section
/-
  'LaneDrains', run: what comes out
-/
namespace Go.Dn.Ln
open Go.Proofs
set_option maxHeartbeats 4000000
set_option maxRecDepth 100000
attribute [local irreducible] Hp.get Hp.set Hp.push dappend dcopy dstore cellsAt callD loopD

def remT (T : List Tk) (i : Nat) : List Tk := (firsts (T.take i) (T.drop i)).map (asOne T)
theorem remT_step {T : List Tk} {i : Nat} {u : Tk} (h : T[i]? = some u) : remT T i = if laterB (T.take i) u then remT T (i + 1) else asOne T u :: remT T (i + 1) := by
  obtain ⟨h1, h2⟩ := List.getElem?_eq_some_iff.1 h
  unfold remT
  rw [take_succ h, List.drop_eq_getElem_cons h1, h2]
  simp only [firsts]
  split <;> simp
theorem lt_all {T : List Tk} {u : Tk} {i : Nat} (h : i ≤ T.length) : lt T u i T.length = laterB (T.take i) u := by
  unfold lt laterB
  rw [show min T.length i = i by omega]

section
variable {call : CallT} (h : LaneFns call) {A0 : Hp} {P : Nat} (hPl : P < A0.next) {T : List Tk} (hTl : T.length ≤ 2000) (hT : ∀ t ∈ T, 0 ≤ t.2.2 ∧ t.2.2 ≤ 4294967295) {it : Nat} (hitl : it < A0.next) (hitP : it ≠ P)
include h hPl hTl hT hitl hitP

theorem drain_out (lf : Nat) {A : Hp} (hk : KP P A0 A) (hit0 : A.get it = some (.arr 29 (T.map tkc).flatten .own)) {n c i : Nat} (hP : A.get P = some (.abs 3 (LX.dat ⟨remT T i, n⟩))) (hn : n ≤ 100000) {u : Tk} (hu : T[i]? = some u) (hlf : T.length < lf) :
    ∃ σ1 A1, exec Tryd.bk.E call Tryd.f3.ntmps (Tryd.bk.inf 3) lf (loopOf Tryd.f3 1) [(2, .bool false), (3, ptr P), (4, .slice (some ⟨it, 0, some 3⟩) T.length c), (44, .slice (some ⟨it, 0, some 3⟩) T.length c), (45, .int .i64 (T.length : Nat)), (46, .int .i64 (i : Nat))] A = some (.normal, σ1, A1) ∧
      keepSl (some [2, 3, 4, 44, 45, 46]) σ1 = [(2, .bool false), (3, ptr P), (4, .slice (some ⟨it, 0, some 3⟩) T.length c), (44, .slice (some ⟨it, 0, some 3⟩) T.length c), (45, .int .i64 (T.length : Nat)), (46, .int .i64 (i + 1 : Nat))] ∧ KP P A0 A1 ∧ A1.get it = some (.arr 29 (T.map tkc).flatten .own) ∧ A1.get P = some (.abs 3 (LX.dat ⟨remT T (i + 1), n⟩)) := by
  have hi : i < T.length := (List.getElem?_eq_some_iff.1 hu).1
  have hcell := tick_row hu
  have hok := hT u (List.mem_of_getElem? hu)
  obtain ⟨uk, us, uv⟩ := u
  simp only at hok
  have e1 : ((i : Nat) : Int) < ((T.length : Nat) : Int) := by omega
  have hw2 : IntKind.i64.wrap ((i : Int) + 1) = ((i + 1 : Nat) : Int) := by rw [w64 (by omega) (by omega)]; omega
  have hw := hk.wf
  have hnx := hk.nx
  let Z : List Value := [.int .i64 0, .int .u32 0, .int .u32 0]
  let C : List Value := [.int .i64 (uk : Nat), .int .u32 us, .int .u32 uv]
  have hcell2 : cellsIn (T.map tkc).flatten (0 + i * 3) 3 = some C := hcell
  let A1 : Hp := (A.push (.arr 29 Z .own)).set A.next (some (.arr 29 C .own))
  have k1 : Kp A A1 := (Kp.push hw (.arr 29 Z .own)).set (Hp.get_push_same _ _) (Nat.le_refl _) _
  have n1 : A1.next = A.next + 1 := by simp [A1]
  have q1 : A1.get A.next = some (.arr 29 C .own) := Hp.get_set_same _ _ _
  have i1 : A1.get it = some (.arr 29 (T.map tkc).flatten .own) := by rw [k1.old _ (by omega)]; exact hit0
  obtain ⟨A2, J, l1, k2⟩ := drain_in_loop (call := call) hTl hT (u := (uk, us, uv)) (ptr P) (.slice (some ⟨it, 0, some 3⟩) T.length c) (.slice (some ⟨it, 0, some 3⟩) T.length c) (.int .i64 (T.length : Nat)) (.int .i64 (i : Nat)) lf k1.wf i1 q1 (c := c) (i := i) hlf
  have q2 : A2.get A.next = some (.arr 29 C .own) := by rw [k2.old _ (by omega)]; exact q1
  have k12 : Kp A A2 := k1.trans k2
  have i2 : A2.get it = some (.arr 29 (T.map tkc).flatten .own) := by rw [k12.old _ (by omega)]; exact hit0
  have hP2 : A2.get P = some (.abs 3 (LX.dat ⟨remT T i, n⟩)) := by rw [k12.old _ (by omega)]; exact hP
  rw [lt_all (by omega)] at l1
  have hrem := remT_step hu
  have hS : gs T (uk, us, uv) T.length = if uk = 3 then gsum T us else 0 := by unfold gs; rw [List.take_length]
  generalize gs T (uk, us, uv) T.length = S at l1 hS
  cases hb : laterB (T.take i) (uk, us, uv) with
  | true =>
    rw [hb] at l1 hrem
    simp only [if_true] at hrem
    rw [hrem] at hP2
    refine ⟨?sa, A2, kexec_run ?ra, ?ka, hk.trans (k12.toP P), i2, hP2⟩
    case ra =>
      conv => lhs; whnf
      rw [kdec e1]
      conv => lhs; whnf
      rw [kdec e1]
      conv => lhs; whnf
      refine bind_of ((cellsAt_of hit0 _ _).trans hcell2) ?_
      conv => lhs; whnf
      refine bind_of (dstore_of (Hp.get_push_same _ _) (t := 29) (o := 0) (cs' := C) rfl) ?_
      conv => lhs; whnf
      refine bind_of l1 ?_
      conv => lhs; whnf
      try rfl
    case ka =>
      show [_, _, _, _, _, (46, Value.int .i64 (IntKind.i64.wrap ((i : Int) + 1)))] = _
      rw [hw2]
  | false =>
    rw [hb] at l1 hrem
    simp only [Bool.false_eq_true, if_false] at hrem
    rw [hrem] at hP2
    have hnext := h.next (NextR.mk A2 P _ hP2 (show n ≤ _ by omega))
    let gv : Int := if uk = 3 then gsum T us else uv
    have hnv : nextV (asOne T (uk, us, uv) :: remT T (i + 1)) = .tuple #[.agg #[.int .i64 (uk : Nat), .int .u32 us, .int .u32 gv], .bool true] := by
      unfold nextV asOne
      simp only [gv]
      by_cases h3 : uk = 3
      · rw [if_pos h3, if_pos h3, h3]
      · rw [if_neg h3, if_neg h3]
    simp only [hnv, List.tail_cons] at hnext
    let A3 : Hp := A2.set P (some (.abs 3 (LX.dat ⟨remT T (i + 1), n⟩)))
    let D : List Value := [.int .i64 (uk : Nat), .int .u32 us, .int .u32 gv]
    let A4 : Hp := (A3.push (.arr 29 Z .own)).set A3.next (some (.arr 29 D .own))
    have n3 : A3.next = A2.next := Hp.next_set _ _ _
    have w3 : A3.wf := k2.wf.put hP2 _
    have k4 : Kp A3 A4 := (Kp.push w3 (.arr 29 Z .own)).set (Hp.get_push_same _ _) (Nat.le_refl _) _
    have q4 : A4.get A3.next = some (.arr 29 D .own) := Hp.get_set_same _ _ _
    have o4 : ∀ j, j < A2.next → j ≠ P → A4.get j = A2.get j := fun j hj hp => by rw [k4.old _ (by omega)]; exact Hp.get_set_ne _ _ hp
    have u4 : A4.get A.next = some (.arr 29 C .own) := by rw [o4 _ (by have := k2.nx; omega) (by omega)]; exact q2
    have i4 : A4.get it = some (.arr 29 (T.map tkc).flatten .own) := by rw [o4 _ (by have := k2.nx; omega) hitP]; exact i2
    have hP4 : A4.get P = some (.abs 3 (LX.dat ⟨remT T (i + 1), n⟩)) := by rw [k4.old _ (by have := k2.nx; omega)]; exact Hp.get_set_same _ _ _
    have kA : KP P A0 A4 := ((hk.trans (k12.toP P)).setO hP2 _).trans (k4.toP P)
    by_cases h3 : uk = 3
    · have e3 : ((uk : Nat) : Int) = 3 := by omega
      have hgS : IntKind.i64.wrap gv = S := by
        have hgl := gsum_le T us hT
        rw [hS, if_pos h3, show gv = gsum T us from if_pos h3, w64 (by omega) (by omega)]
      refine ⟨?sb, A4, kexec_run ?rb, ?kb, kA, i4, hP4⟩
      case rb =>
        conv => lhs; whnf
        rw [kdec e1]
        conv => lhs; whnf
        rw [kdec e1]
        conv => lhs; whnf
        refine bind_of ((cellsAt_of hit0 _ _).trans hcell2) ?_
        conv => lhs; whnf
        refine bind_of (dstore_of (Hp.get_push_same _ _) (t := 29) (o := 0) (cs' := C) rfl) ?_
        conv => lhs; whnf
        refine bind_of l1 ?_
        conv => lhs; whnf
        refine bind_of hnext ?_
        conv => lhs; whnf
        refine bind_of (dstore_of (Hp.get_push_same _ _) (t := 29) (o := 0) (cs' := D) rfl) ?_
        conv => lhs; whnf
        refine bind_of (cellsAt_of q4 _ _) ?_
        conv => lhs; whnf
        refine bind_of (cellsAt_of u4 _ _) ?_
        conv => lhs; whnf
        rw [show (((uk : Nat) : Int) != ((uk : Nat) : Int)) = false from bne_self_eq_false _]
        conv => lhs; whnf
        refine bind_of (cellsAt_of q4 _ _) ?_
        conv => lhs; whnf
        refine bind_of (cellsAt_of u4 _ _) ?_
        conv => lhs; whnf
        rw [show (us != us) = false from bne_self_eq_false _]
        conv => lhs; whnf
        refine bind_of (cellsAt_of u4 _ _) ?_
        conv => lhs; whnf
        rw [show (((uk : Nat) : Int) == 3) = true from beq_iff_eq.2 e3]
        conv => lhs; whnf
        refine bind_of (cellsAt_of q4 _ _) ?_
        conv => lhs; whnf
        rw [show (IntKind.i64.wrap gv != S) = false from bne_eq_false_iff_eq.2 hgS]
        conv => lhs; whnf
        refine bind_of (cellsAt_of u4 _ _) ?_
        conv => lhs; whnf
        rw [show (((uk : Nat) : Int) != 3) = false from bne_eq_false_iff_eq.2 e3]
        conv => lhs; whnf
        try rfl
      case kb =>
        show [_, _, _, _, _, (46, Value.int .i64 (IntKind.i64.wrap ((i : Int) + 1)))] = _
        rw [hw2]
    · have e3 : ¬ ((uk : Nat) : Int) = 3 := by omega
      have hgv : gv = uv := if_neg h3
      refine ⟨?sc, A4, kexec_run ?rc, ?kc, kA, i4, hP4⟩
      case rc =>
        conv => lhs; whnf
        rw [kdec e1]
        conv => lhs; whnf
        rw [kdec e1]
        conv => lhs; whnf
        refine bind_of ((cellsAt_of hit0 _ _).trans hcell2) ?_
        conv => lhs; whnf
        refine bind_of (dstore_of (Hp.get_push_same _ _) (t := 29) (o := 0) (cs' := C) rfl) ?_
        conv => lhs; whnf
        refine bind_of l1 ?_
        conv => lhs; whnf
        refine bind_of hnext ?_
        conv => lhs; whnf
        refine bind_of (dstore_of (Hp.get_push_same _ _) (t := 29) (o := 0) (cs' := D) rfl) ?_
        conv => lhs; whnf
        refine bind_of (cellsAt_of q4 _ _) ?_
        conv => lhs; whnf
        refine bind_of (cellsAt_of u4 _ _) ?_
        conv => lhs; whnf
        rw [show (((uk : Nat) : Int) != ((uk : Nat) : Int)) = false from bne_self_eq_false _]
        conv => lhs; whnf
        refine bind_of (cellsAt_of q4 _ _) ?_
        conv => lhs; whnf
        refine bind_of (cellsAt_of u4 _ _) ?_
        conv => lhs; whnf
        rw [show (us != us) = false from bne_self_eq_false _]
        conv => lhs; whnf
        refine bind_of (cellsAt_of u4 _ _) ?_
        conv => lhs; whnf
        rw [show (((uk : Nat) : Int) == 3) = false from beq_eq_false_iff_ne.2 e3]
        conv => lhs; whnf
        refine bind_of (cellsAt_of u4 _ _) ?_
        conv => lhs; whnf
        rw [show (((uk : Nat) : Int) != 3) = true from bne_iff_ne.2 e3]
        conv => lhs; whnf
        refine bind_of (cellsAt_of q4 _ _) ?_
        conv => lhs; whnf
        refine bind_of (cellsAt_of u4 _ _) ?_
        conv => lhs; whnf
        rw [show (gv != uv) = false from bne_eq_false_iff_eq.2 hgv]
        conv => lhs; whnf
        try rfl
      case kc =>
        show [_, _, _, _, _, (46, Value.int .i64 (IntKind.i64.wrap ((i : Int) + 1)))] = _
        rw [hw2]
end
end Go.Dn.Ln
end
