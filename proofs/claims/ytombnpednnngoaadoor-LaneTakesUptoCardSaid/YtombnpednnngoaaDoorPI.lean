/-
  Part of the abstract machine for this program.
-/
import Derived.Test.YtombnpednnngoaaDoorPH
import Derived.Test.YtombnpednnngoaaDoorPC
import Derived.Test.YtombnpednnngoaaDoorPE
import Derived.Test.YtombnpednnngoaaDoorDnJ
import Derived.Test.YtombnpednnngoaaDoorCards
import Derived.Test.YtombnpednnngoaaDoorTie
import Derived.WalkKit
import Derived.ProofKit
import Derived.OpenShut
import Derived.LaidLaws
import Derived.Deep.DeepHandedRow

section
/-
  'LaneDrains', run: the whole
-/
namespace Go.Dn.Ln
open Go.Proofs
set_option maxHeartbeats 4000000
set_option maxRecDepth 100000
attribute [local irreducible] Hp.get Hp.set Hp.push dappend dcopy dstore cellsAt callD loopD

theorem remT_end (T : List Tk) : remT T T.length = [] := by
  unfold remT
  rw [List.drop_length]
  rfl
theorem remT_zero (T : List Tk) : remT T 0 = mg T := rfl

structure D1 where
  i : Nat
  T : List Tk
  n : Nat
  v : Value

theorem loop_out {ks : Option (List Nat)} {f : Sl → Hp → Option (Ex × Sl × Hp)} {σ σ1 : Sl} {A A1 : Hp} {e : Ex} (h : f σ A = some (e, σ1, A1)) (he : e ≠ .normal) {n : Nat} (hn : 0 < n) : loopD ks f n σ A = some (e, keepSl ks σ1, A1) := by
  obtain ⟨k, rfl⟩ : ∃ k, n = k + 1 := ⟨n - 1, by omega⟩
  exact loopD_end h he

theorem drain_put_end {call : CallT} (lf : Nat) {A : Hp} (a : Option Addr) (m c i : Nat) (V3 V4 : Value) (hi : ¬ i < m) :
    ∃ σ1, exec Tryd.bk.E call Tryd.f3.ntmps (Tryd.bk.inf 3) lf (loopOf Tryd.f3 0) [(2, .bool false), (3, V3), (4, V4), (24, .slice a m c), (25, .int .i64 (m : Nat)), (26, .int .i64 (i : Nat))] A = some (.exit 0, σ1, A) ∧
      keepSl (some [2, 3, 4, 24, 25, 26]) σ1 = [(2, .bool false), (3, V3), (4, V4), (24, .slice a m c), (25, .int .i64 (m : Nat)), (26, .int .i64 (i : Nat))] := by
  have e1 : ¬ ((i : Nat) : Int) < ((m : Nat) : Int) := by omega
  refine ⟨?s, kexec_run ?run, ?kp⟩
  case run =>
    conv => lhs; whnf
    rw [kdecn e1]
  case kp => rfl

theorem drain_out_end {call : CallT} (lf : Nat) {A : Hp} (V3 V4 V44 : Value) (m i : Nat) (hi : ¬ i < m) :
    ∃ σ1, exec Tryd.bk.E call Tryd.f3.ntmps (Tryd.bk.inf 3) lf (loopOf Tryd.f3 1) [(2, .bool false), (3, V3), (4, V4), (44, V44), (45, .int .i64 (m : Nat)), (46, .int .i64 (i : Nat))] A = some (.exit 2, σ1, A) ∧
      keepSl (some [2, 3, 4, 44, 45, 46]) σ1 = [(2, .bool false), (3, V3), (4, V4), (44, V44), (45, .int .i64 (m : Nat)), (46, .int .i64 (i : Nat))] := by
  have e1 : ¬ ((i : Nat) : Int) < ((m : Nat) : Int) := by omega
  refine ⟨?s, kexec_run ?run, ?kp⟩
  case run =>
    conv => lhs; whnf
    rw [kdecn e1]
  case kp => rfl

section
variable {call : CallT} (h : LaneFns call) {A0 : Hp} {P : Nat} (hPl : P < A0.next)
include h hPl

theorem drain_loop1 (hw0 : A0.wf) {ta : List TkA} (hta : ∀ t ∈ ta, 0 ≤ t.v ∧ t.v ≤ 4294967295) {ib : Nat} (hib : A0.get ib = some (.arr 29 (ta.map TkA.cells).flatten .sh)) (hibP : ib ≠ P) (lf : Nat) {m c : Nat} (hm : m ≤ ta.length) (hm2 : m ≤ 2000) (hlf : m < lf) (hP : A0.get P = some (.abs 3 (LX.dat ⟨[], 0⟩))) :
    ∃ A1 T n V4 L, loopD (some [2, 3, 4, 24, 25, 26]) (exec Tryd.bk.E call Tryd.f3.ntmps (Tryd.bk.inf 3) lf (loopOf Tryd.f3 0)) lf [(2, .bool false), (3, ptr P), (4, .slice none 0 0), (24, .slice (some ⟨ib, 0, some 3⟩) m c), (25, .int .i64 (m : Nat)), (26, .int .i64 ((0 : Nat) : Int))] A0 =
      some (.exit 0, [(2, .bool false), (3, ptr P), (4, V4), (24, .slice (some ⟨ib, 0, some 3⟩) m c), (25, .int .i64 (m : Nat)), (26, L)], A1) ∧ DI A0 P T n V4 A1 ∧ T.length ≤ m ∧ n ≤ m := by
  have key := loop_rule (ks := some [2, 3, 4, 24, 25, 26]) (f := exec Tryd.bk.E call Tryd.f3.ntmps (Tryd.bk.inf 3) lf (loopOf Tryd.f3 0)) (S := D1)
    (fun s => [(2, .bool false), (3, ptr P), (4, s.v), (24, .slice (some ⟨ib, 0, some 3⟩) m c), (25, .int .i64 (m : Nat)), (26, .int .i64 (s.i : Nat))])
    (fun s A => s.i ≤ m ∧ DI A0 P s.T s.n s.v A ∧ s.T.length ≤ s.i ∧ s.n ≤ s.i) (fun s => m - s.i)
    (fun e σ A1 => e = .exit 0 ∧ ∃ T n V4 L, σ = [(2, .bool false), (3, ptr P), (4, V4), (24, .slice (some ⟨ib, 0, some 3⟩) m c), (25, .int .i64 (m : Nat)), (26, L)] ∧ DI A0 P T n V4 A1 ∧ T.length ≤ m ∧ n ≤ m) (fun s A hs => ?_)
    lf ⟨0, [], 0, .slice none 0 0⟩ A0 ⟨Nat.zero_le _, ⟨KP.refl hw0, hP, ⟨none, .nil, by simp⟩, by simp⟩, Nat.le_refl _, Nat.le_refl _⟩ (by simp only; omega)
  · obtain ⟨e, σ1, A1, k1, rfl, T, n, V4, L, rfl, k2⟩ := key
    exact ⟨A1, T, n, V4, L, k1, k2⟩
  · obtain ⟨i, T, n, v⟩ := s
    obtain ⟨z1, z2, z3, z4⟩ := hs
    simp only at z1 z2 z3 z4 ⊢
    by_cases him : i < m
    · obtain ⟨σ1, A1, T', V4', r1, r2, r3, r4⟩ := drain_put h hPl hw0 hta hib hibP lf (c := c) z2 him hm hm2 (by omega) (by omega)
      exact ⟨.normal, σ1, A1, r1, .inl ⟨rfl, ⟨i + 1, T', n + 1, V4'⟩, r2, ⟨him, r3, by simp only; omega, by simp only; omega⟩, by simp only; omega⟩⟩
    · obtain ⟨σ1, r1, r2⟩ := drain_put_end (call := call) lf (A := A) (some ⟨ib, 0, some 3⟩) m c i (ptr P) v him
      exact ⟨.exit 0, σ1, A, r1, .inr ⟨by simp, rfl, T, n, v, _, r2, z2, by omega, by omega⟩⟩

theorem drain_loop2 {T : List Tk} (hTl : T.length ≤ 2000) {n : Nat} {a : Option Addr} {c : Nat} {A : Hp} (lf : Nat) (hD : DI A0 P T n (.slice a T.length c) A) (hn : n ≤ 100000) (hlf : T.length < lf) :
    ∃ A1 J, loopD (some [2, 3, 4, 44, 45, 46]) (exec Tryd.bk.E call Tryd.f3.ntmps (Tryd.bk.inf 3) lf (loopOf Tryd.f3 1)) lf [(2, .bool false), (3, ptr P), (4, .slice a T.length c), (44, .slice a T.length c), (45, .int .i64 (T.length : Nat)), (46, .int .i64 ((0 : Nat) : Int))] A =
      some (.exit 2, [(2, .bool false), (3, ptr P), (4, .slice a T.length c), (44, .slice a T.length c), (45, .int .i64 (T.length : Nat)), (46, J)], A1) ∧ A1.wf ∧ A1.get P = some (.abs 3 (LX.dat ⟨[], n⟩)) := by
  obtain ⟨io, hc, hio⟩ := hD.o4
  generalize hv : (Value.slice a T.length c) = v at hc
  generalize hfl : (T.map tkc).flatten = fl at hc
  generalize hol : T.length = ol at hc
  have hnil : T = [] → ∃ A1 J, loopD (some [2, 3, 4, 44, 45, 46]) (exec Tryd.bk.E call Tryd.f3.ntmps (Tryd.bk.inf 3) lf (loopOf Tryd.f3 1)) lf [(2, .bool false), (3, ptr P), (4, v), (44, v), (45, .int .i64 (ol : Nat)), (46, .int .i64 ((0 : Nat) : Int))] A =
      some (.exit 2, [(2, .bool false), (3, ptr P), (4, v), (44, v), (45, .int .i64 (ol : Nat)), (46, J)], A1) ∧ A1.wf ∧ A1.get P = some (.abs 3 (LX.dat ⟨[], n⟩)) := fun e => by
    subst e
    obtain ⟨σ1, r1, r2⟩ := drain_out_end (call := call) lf (A := A) (ptr P) v v ol 0 (by rw [← hol]; simp)
    have := loop_out (ks := some [2, 3, 4, 44, 45, 46]) r1 (by simp) (n := lf) (by omega)
    rw [r2] at this
    exact ⟨A, _, this, hD.kp.wf, hD.obj⟩
  cases hc with
  | nil =>
    exact hnil (List.length_eq_zero_iff.1 hol)
  | «at» it _ _ hg hl hp =>
    subst hol hfl
    have hitl : it < A.next := hD.kp.wf.lt hg
    have hitP : it ≠ P := by
      rintro rfl
      rw [hD.obj] at hg
      cases hg
    have key := loop_rule (ks := some [2, 3, 4, 44, 45, 46]) (f := exec Tryd.bk.E call Tryd.f3.ntmps (Tryd.bk.inf 3) lf (loopOf Tryd.f3 1)) (S := Nat)
      (fun i => [(2, .bool false), (3, ptr P), (4, .slice (some ⟨it, 0, some 3⟩) T.length (2 * T.length)), (44, .slice (some ⟨it, 0, some 3⟩) T.length (2 * T.length)), (45, .int .i64 (T.length : Nat)), (46, .int .i64 (i : Nat))])
      (fun i B => i ≤ T.length ∧ KP P A B ∧ B.get it = some (.arr 29 (T.map tkc).flatten .own) ∧ B.get P = some (.abs 3 (LX.dat ⟨remT T i, n⟩))) (fun i => T.length - i)
      (fun e σ B => e = .exit 2 ∧ ∃ J, σ = [(2, .bool false), (3, ptr P), (4, .slice (some ⟨it, 0, some 3⟩) T.length (2 * T.length)), (44, .slice (some ⟨it, 0, some 3⟩) T.length (2 * T.length)), (45, .int .i64 (T.length : Nat)), (46, J)] ∧ B.wf ∧ B.get P = some (.abs 3 (LX.dat ⟨[], n⟩))) (fun i B hs => ?_)
      lf 0 A ⟨Nat.zero_le _, KP.refl hD.kp.wf, hg, by rw [remT_zero]; exact hD.obj⟩ (by omega)
    · obtain ⟨e, σ1, A1, k1, rfl, J, rfl, k2⟩ := key
      exact ⟨A1, J, k1, k2⟩
    · obtain ⟨z1, z2, z3, z4⟩ := hs
      by_cases him : i < T.length
      · obtain ⟨u, hu⟩ : ∃ u, T[i]? = some u := ⟨_, List.getElem?_eq_getElem him⟩
        obtain ⟨σ1, A1, r1, r2, r3, r4, r5⟩ := drain_out h (by have := hD.kp.nx; omega) hTl hD.ok hitl hitP lf z2 z3 (c := 2 * T.length) z4 hn hu hlf
        exact ⟨.normal, σ1, A1, r1, .inl ⟨rfl, i + 1, r2, ⟨him, r3, r4, r5⟩, by omega⟩⟩
      · obtain rfl : i = T.length := by omega
        obtain ⟨σ1, r1, r2⟩ := drain_out_end (call := call) lf (A := B) (ptr P) (.slice (some ⟨it, 0, some 3⟩) T.length (2 * T.length)) (.slice (some ⟨it, 0, some 3⟩) T.length (2 * T.length)) T.length T.length him
        rw [remT_end] at z4
        exact ⟨.exit 2, σ1, B, r1, .inr ⟨by simp, rfl, _, r2, z2.wf, z4⟩⟩
end

theorem drain_mid {call : CallT} (h : LaneFns call) {A0 : Hp} {P : Nat} (hPl : P < A0.next) {T : List Tk} {n : Nat} {V : Value} {A : Hp} (hD : DI A0 P T n V A) :
    ∃ A', A' = A.set P (some (.abs 3 (LX.dat ⟨mg T, n⟩))) ∧ call 18 [ptr P] A = some (.int .i64 ((mg T).length : Nat), A') ∧ DI A0 P T n V A' ∧ ¬ ((T.length : Nat) : Int) < (((mg T).length : Nat) : Int) := by
  refine ⟨_, rfl, h.len (LenR.mk A P _ hD.obj), ⟨hD.kp.setO hD.obj _, Hp.get_set_same _ _ _, ?_, hD.ok⟩, ?_⟩
  · obtain ⟨io, hc, hio⟩ := hD.o4
    exact ⟨io, hc.keep fun j hj => Hp.get_set_ne _ _ (by have := hio j hj; omega), hio⟩
  · have := firsts_len T []
    unfold mg
    rw [List.length_map]
    omega

/-- the whole -/
theorem drains_walk {call : CallT} (h : LaneFns call) {A : Hp} (hw : A.wf) {ta : List TkA} (hta : ∀ t ∈ ta, 0 ≤ t.v ∧ t.v ≤ 4294967295) {a : Option Addr} {c : Nat} (hv : ArgSl 29 3 A (.slice a ta.length c) (ta.map TkA.cells).flatten ta.length) (hm : ta.length ≤ 1048576) (lf : Nat) (hlf : 2001 < lf) :
    ∃ A', kfn Tryd.bk.E call (Tryd.bk.inf 3) lf Tryd.f3 [.slice a ta.length c] A = some (.bool true, A') := by
  have hnew := h.new (NewR.mk A)
  let A1 : Hp := A.push (.abs 3 (LX.dat ⟨[], 0⟩))
  have hw1 : A1.wf := hw.push _
  have hn1 : A1.next = A.next + 1 := by simp [A1]
  have hP1 : A1.get A.next = some (.abs 3 (LX.dat ⟨[], 0⟩)) := Hp.get_push_same _ _
  have hPl : A.next < A1.next := by omega
  generalize hv0 : (Value.slice a ta.length c) = v0 at hv
  generalize hfl : (ta.map TkA.cells).flatten = fl at hv
  generalize hol : ta.length = ol at hv
  cases hv with
  | nil cc hcc =>
    rcases (by omega : cc = 0 ∨ cc = 1) with rfl | rfl
    · obtain ⟨σ1, r1, r2⟩ := drain_put_end (call := call) lf (A := A1) none 0 0 0 (ptr A.next) (.slice none 0 0) (by omega)
      have l1 := loop_out (ks := some [2, 3, 4, 24, 25, 26]) r1 (by simp) (n := lf) (by omega)
      rw [r2] at l1
      have p2 : DI A1 A.next [] 0 (.slice none ([] : List Tk).length 0) A1 := ⟨KP.refl hw1, hP1, ⟨none, .nil, by simp⟩, by simp⟩
      obtain ⟨A2', w2, hlen, hD2, e4⟩ := drain_mid h hPl p2
      obtain ⟨A3, J, l2, w3, hP3⟩ := drain_loop2 h hPl (by simp) lf hD2 (by omega) (by simp; omega)
      have hnext := h.next (NextR.mk A3 A.next _ hP3 (show 0 ≤ _ by omega))
      let Z : List Value := [.int .i64 0, .int .u32 0, .int .u32 0]
      let A4 : Hp := A3.set A.next (some (.abs 3 (LX.dat ⟨[], 0⟩)))
      let A5 : Hp := (A4.push (.arr 29 Z .own)).set A4.next (some (.arr 29 Z .own))
      have hPl3 := w3.lt hP3
      have n4 : A4.next = A3.next := Hp.next_set _ _ _
      have hP5 : A5.get A.next = some (.abs 3 (LX.dat ⟨[], 0⟩)) := by
        rw [Hp.get_set_ne _ _ (by omega), Hp.get_push_ne _ _ (by omega)]
        exact Hp.get_set_same _ _ _
      have hlen2 := h.len (LenR.mk A5 A.next _ hP5)
      refine ⟨?A1, ?run1⟩
      rotate_left 1
      case run1 =>
        conv => lhs; whnf
        refine bind_of (h.fixed _) ?_
        conv => lhs; whnf
        refine bind_of hnew ?_
        conv => lhs; whnf
        refine bind_of l1 ?_
        conv => lhs; whnf
        refine bind_of hlen ?_
        conv => lhs; whnf
        refine bind_of l2 ?_
        conv => lhs; whnf
        refine bind_of hnext ?_
        conv => lhs; whnf
        refine bind_of (dstore_of (Hp.get_push_same _ _) (t := 29) (o := 0) (cs' := Z) rfl) ?_
        conv => lhs; whnf
        refine bind_of hlen2 ?_
        conv => lhs; whnf
        try rfl
    · obtain ⟨σ1, r1, r2⟩ := drain_put_end (call := call) lf (A := A1) none 0 1 0 (ptr A.next) (.slice none 0 0) (by omega)
      have l1 := loop_out (ks := some [2, 3, 4, 24, 25, 26]) r1 (by simp) (n := lf) (by omega)
      rw [r2] at l1
      have p2 : DI A1 A.next [] 0 (.slice none ([] : List Tk).length 0) A1 := ⟨KP.refl hw1, hP1, ⟨none, .nil, by simp⟩, by simp⟩
      obtain ⟨A2', w2, hlen, hD2, e4⟩ := drain_mid h hPl p2
      obtain ⟨A3, J, l2, w3, hP3⟩ := drain_loop2 h hPl (by simp) lf hD2 (by omega) (by simp; omega)
      have hnext := h.next (NextR.mk A3 A.next _ hP3 (show 0 ≤ _ by omega))
      let Z : List Value := [.int .i64 0, .int .u32 0, .int .u32 0]
      let A4 : Hp := A3.set A.next (some (.abs 3 (LX.dat ⟨[], 0⟩)))
      let A5 : Hp := (A4.push (.arr 29 Z .own)).set A4.next (some (.arr 29 Z .own))
      have hPl3 := w3.lt hP3
      have n4 : A4.next = A3.next := Hp.next_set _ _ _
      have hP5 : A5.get A.next = some (.abs 3 (LX.dat ⟨[], 0⟩)) := by
        rw [Hp.get_set_ne _ _ (by omega), Hp.get_push_ne _ _ (by omega)]
        exact Hp.get_set_same _ _ _
      have hlen2 := h.len (LenR.mk A5 A.next _ hP5)
      refine ⟨?A3, ?run3⟩
      rotate_left 1
      case run3 =>
        conv => lhs; whnf
        refine bind_of (h.fixed _) ?_
        conv => lhs; whnf
        refine bind_of hnew ?_
        conv => lhs; whnf
        refine bind_of l1 ?_
        conv => lhs; whnf
        refine bind_of hlen ?_
        conv => lhs; whnf
        refine bind_of l2 ?_
        conv => lhs; whnf
        refine bind_of hnext ?_
        conv => lhs; whnf
        refine bind_of (dstore_of (Hp.get_push_same _ _) (t := 29) (o := 0) (cs' := Z) rfl) ?_
        conv => lhs; whnf
        refine bind_of hlen2 ?_
        conv => lhs; whnf
        try rfl
  | «at» id _ _ hg hl =>
    subst hol hfl
    obtain ⟨m, hm1, hm2, hmin⟩ : ∃ m : Nat, m ≤ ta.length ∧ m ≤ 2000 ∧ (if (2000 : Int) < ((ta.length : Nat) : Int) then (2000 : Int) else ((ta.length : Nat) : Int)) = ((m : Nat) : Int) := by
      by_cases h2 : 2000 < ta.length
      · exact ⟨2000, by omega, by omega, by rw [if_pos (by omega)]; rfl⟩
      · exact ⟨ta.length, by omega, by omega, by rw [if_neg (by omega)]⟩
    have e2 : (0 : Int) ≤ ((m : Nat) : Int) := by omega
    have e3 : ((m : Nat) : Int) ≤ ((2 * ta.length / 2 : Nat) : Int) := by omega
    have hidl := hw.lt hg
    obtain ⟨A2, T, n, V4, L, l1, p2, hTl, hn⟩ := drain_loop1 h hPl hw1 hta (ib := id) (by rw [Hp.get_push_ne _ _ (by omega)]; exact hg) (by omega) lf (c := 2 * (2 * ta.length / 2 - 0) + 2 * ta.length % 2) hm1 hm2 (by omega) hP1
    obtain ⟨a4, c4, rfl⟩ := p2.o4.choose_spec.1.sl3
    obtain ⟨A2', w2, hlen, hD2, e4⟩ := drain_mid h hPl p2
    obtain ⟨A3, J, l2, w3, hP3⟩ := drain_loop2 h hPl (by omega) lf hD2 (by omega) (by omega)
    have hnext := h.next (NextR.mk A3 A.next _ hP3 (show n ≤ _ by omega))
    let Z : List Value := [.int .i64 0, .int .u32 0, .int .u32 0]
    let A4 : Hp := A3.set A.next (some (.abs 3 (LX.dat ⟨[], n⟩)))
    let A5 : Hp := (A4.push (.arr 29 Z .own)).set A4.next (some (.arr 29 Z .own))
    have hPl3 := w3.lt hP3
    have n4 : A4.next = A3.next := Hp.next_set _ _ _
    have hP5 : A5.get A.next = some (.abs 3 (LX.dat ⟨[], n⟩)) := by
      rw [Hp.get_set_ne _ _ (by omega), Hp.get_push_ne _ _ (by omega)]
      exact Hp.get_set_same _ _ _
    have hlen2 := h.len (LenR.mk A5 A.next _ hP5)
    refine ⟨?A2, ?run2⟩
    rotate_left 1
    case run2 =>
      conv => lhs; whnf
      refine bind_of (h.fixed _) ?_
      conv => lhs; whnf
      refine bind_of hnew ?_
      conv => lhs; whnf
      rw [hmin, kdec e2]
      conv => lhs; whnf
      rw [kdec e3]
      conv => lhs; whnf
      refine bind_of l1 ?_
      conv => lhs; whnf
      refine bind_of hlen ?_
      conv => lhs; whnf
      rw [kdecn e4]
      conv => lhs; whnf
      refine bind_of l2 ?_
      conv => lhs; whnf
      refine bind_of hnext ?_
      conv => lhs; whnf
      refine bind_of (dstore_of (Hp.get_push_same _ _) (t := 29) (o := 0) (cs' := Z) rfl) ?_
      conv => lhs; whnf
      refine bind_of hlen2 ?_
      conv => lhs; whnf
      try rfl
end Go.Dn.Ln
end

section
/-
  the base of the lane's laws: 'fixed', a closed run
-/
set_option maxRecDepth 100000
namespace Go.Dn.Ln
open Go.Proofs

theorem fnFixed : ∃ x, Tryd.prog.funcs[15]? = some x ∧ x.body.isSome = true ∧ (x.name == "runtime.NumGoroutine") = false := ⟨Tryd.f15, by kernel_rfl, by kernel_rfl, by kernel_rfl⟩
theorem fixed_run : (callD Tryd.bk T0 200 15 [] CE).map (·.1) = some (.bool true) := by kernel_rfl
def TF : CallT := withCall noCalls 15 wakesF
theorem TF_ok [Reps] (hK : Reps.C = CE) : CallOK Tryd.prog TF := true_known hK fnFixed fixed_run (noCalls_ok _)
theorem CE_LC : LC CE := ⟨rfl, rfl, rfl, rfl, rfl, rfl⟩
end Go.Dn.Ln
end

section
/-
  listed variables: sentinels and tables of plain data, mixed
-/
namespace Go.Dn
open Go.ChangeShapes

/-- a row of parts, one behind the other -/
def rdFields (P : Program) (rd : TypeId → DataW Unit → Option (List Value)) : List Field → List (DataW Unit) → Nat → Option (List Value)
  | [], [], _ => some []
  | f :: fs, d :: ds, o => if f.offset = o then (rd f.type d).bind fun c => if c.length = P.cellsOf f.type then (rdFields P rd fs ds (o + c.length)).map fun r => c ++ r else none else none
  | _, _, _ => none
def rdElems (rd : DataW Unit → Option (List Value)) (sz : Nat) : List (DataW Unit) → Option (List Value)
  | [] => some []
  | d :: ds => (rd d).bind fun c => if c.length = sz then (rdElems rd sz ds).map fun r => c ++ r else none
/-- the cells of plain data of a type -/
def rdw (P : Program) : Nat → TypeId → DataW Unit → Option (List Value)
  | 0, _, _ => none
  | n + 1, t, d => match P.underlying t, d with
    | some .bool, .lit (.bool b) => some [.bool b]
    | some (.int k), .lit (.int k' m) => if k' = k then some [.int k m] else none
    | some (.struct fs), .agg ds => (rdFields P (rdw P n) fs.toList ds 0).bind fun c => if c.length = P.cellsOf t then some c else none
    | some (.array m e), .agg ds => (rdElems (rdw P n e) (P.cellsOf e) ds).bind fun c => if c.length = P.cellsOf t ∧ ds.length = m then some c else none
    | _, _ => none

theorem mapM_nil_of {α β : Type} {f : α → Option β} {xs : List β} (h : ([] : List α).mapM f = some xs) : xs = [] := by
  simp at h; exact h
theorem mapM_cons_of {α β : Type} {f : α → Option β} {a : α} {l : List α} {xs : List β} (h : (a :: l).mapM f = some xs) : ∃ y ys, f a = some y ∧ l.mapM f = some ys ∧ xs = y :: ys := by
  rw [List.mapM_cons] at h
  cases h1 : f a with
  | none => rw [h1] at h; cases h
  | some y =>
    rw [h1] at h
    cases h2 : l.mapM f with
    | none => rw [h2] at h; cases h
    | some ys => rw [h2] at h; cases h; exact ⟨y, ys, rfl, rfl, rfl⟩

theorem fields_of {P : Program} {rd : TypeId → DataW Unit → Option (List Value)} {tr : TypeId → List Value → Option (DataW Unit × List MemPlace)}
    (ih : ∀ t seg d p c, tr t seg = some (d, p) → rd t d = some c → seg = c ∧ p = []) (cs : List Value) :
    ∀ (fs : List Field) (xs : List (DataW Unit × List MemPlace)) (o : Nat) (c : List Value), fs.mapM (fun f => tr f.type ((cs.drop f.offset).take (P.cellsOf f.type))) = some xs → rdFields P rd fs (xs.map (·.1)) o = some c →
      (cs.drop o).take c.length = c ∧ xs.flatMap (·.2) = []
  | [], xs, o, c, h, hr => by
    obtain rfl := mapM_nil_of h
    simp [rdFields] at hr
    subst hr
    simp
  | f :: fs, xs, o, c, h, hr => by
    obtain ⟨⟨d, p⟩, ys, h1, h2, rfl⟩ := mapM_cons_of h
    simp only [List.map_cons, rdFields] at hr
    split at hr
    · rename_i ho
      subst ho
      cases h3 : rd f.type d with
      | none => rw [h3] at hr; cases hr
      | some c1 =>
        rw [h3] at hr
        simp only [Option.bind_some] at hr
        split at hr
        · rename_i hl
          cases h4 : rdFields P rd fs (ys.map (·.1)) (f.offset + c1.length) with
          | none => rw [h4] at hr; cases hr
          | some c2 =>
            rw [h4] at hr
            cases hr
            obtain ⟨e1, e2⟩ := ih _ _ _ _ _ h1 h3
            obtain ⟨e3, e4⟩ := fields_of ih cs fs ys (f.offset + c1.length) c2 h2 h4
            subst e2
            refine ⟨?_, by simpa using e4⟩
            rw [← hl] at e1
            rw [List.length_append, List.take_add, e1, List.drop_drop, e3]
        · cases hr
    · cases hr

theorem elems_of {rd : DataW Unit → Option (List Value)} {tr : List Value → Option (DataW Unit × List MemPlace)} {sz : Nat}
    (ih : ∀ seg d p c, tr seg = some (d, p) → rd d = some c → seg = c ∧ p = []) (cs : List Value) :
    ∀ (n o : Nat) (xs : List (DataW Unit × List MemPlace)) (c : List Value), (List.range' o n).mapM (fun i => tr ((cs.drop (i * sz)).take sz)) = some xs → rdElems rd sz (xs.map (·.1)) = some c →
      (cs.drop (o * sz)).take c.length = c ∧ xs.flatMap (·.2) = []
  | 0, o, xs, c, h, hr => by
    obtain rfl := mapM_nil_of h
    simp [rdElems] at hr
    subst hr
    simp
  | n + 1, o, xs, c, h, hr => by
    rw [List.range'_succ] at h
    obtain ⟨⟨d, p⟩, ys, h1, h2, rfl⟩ := mapM_cons_of h
    simp only [List.map_cons, rdElems] at hr
    cases h3 : rd d with
    | none => rw [h3] at hr; cases hr
    | some c1 =>
      rw [h3] at hr
      simp only [Option.bind_some] at hr
      split at hr
      · rename_i hl
        cases h4 : rdElems rd sz (ys.map (·.1)) with
        | none => rw [h4] at hr; cases hr
        | some c2 =>
          rw [h4] at hr
          cases hr
          obtain ⟨e1, e2⟩ := ih _ _ _ _ h1 h3
          obtain ⟨e3, e4⟩ := elems_of ih cs n (o + 1) ys c2 h2 h4
          subst e2
          refine ⟨?_, by simpa using e4⟩
          have e5 : (cs.drop (o * sz)).drop c1.length = cs.drop ((o + 1) * sz) := by
            rw [List.drop_drop, hl, Nat.add_mul, Nat.one_mul]
          have e6 : (cs.drop (o * sz)).take c1.length = c1 := by rw [hl]; exact e1
          rw [List.length_append, List.take_add, e6, e5, e3]
      · cases hr

theorem rdw_of {P : Program} {w : World} {base : Nat} {spare : Nat → Bool} : ∀ (n fuel : Nat) (t : TypeId) (cs : List Value) (d : DataW Unit) (p : List MemPlace) (c : List Value),
    DataW.trod (fun _ => ()) P w base spare false fuel t cs = some (d, p) → rdw P n t d = some c → cs = c ∧ p = []
  | 0, _, _, _, _, _, _, _, h => by cases h
  | n + 1, 0, _, _, _, _, _, h, _ => by cases h
  | n + 1, fuel + 1, t, cs, d, p, c, h, hr => by
    have ih := fun t seg d p c => rdw_of (P := P) (w := w) (base := base) (spare := spare) n fuel t seg d p c
    unfold rdw at hr
    split at hr
    · rename_i hu
      cases hr
      unfold DataW.trod at h
      rw [hu] at h
      split at h <;> simp_all
    · rename_i k k' m hu
      split at hr
      · rename_i hk
        subst hk
        cases hr
        unfold DataW.trod at h
        rw [hu] at h
        split at h <;> simp_all
      · cases hr
    · rename_i fs ds hu
      cases h1 : rdFields P (rdw P n) fs.toList ds 0 with
      | none => rw [h1] at hr; cases hr
      | some c1 =>
        rw [h1] at hr
        simp only [Option.bind_some] at hr
        split at hr
        · rename_i hl
          cases hr
          unfold DataW.trod at h
          rw [hu] at h
          simp only at h
          split at h
          · rename_i hcl
            cases h2 : fs.toList.mapM (fun f => DataW.trod (fun _ => ()) P w base spare false fuel f.type ((cs.drop f.offset).take (P.cellsOf f.type))) with
            | none => rw [h2] at h; cases h
            | some xs =>
              rw [h2] at h
              simp only [Option.map_some, Option.some.injEq, Prod.mk.injEq, DataW.agg.injEq] at h
              obtain ⟨h3, h4⟩ := h
              subst h3
              obtain ⟨e1, e2⟩ := fields_of (P := P) ih cs _ xs 0 _ h2 h1
              refine ⟨?_, by rw [← h4]; exact e2⟩
              rw [List.drop_zero, List.take_of_length_le (by omega)] at e1
              exact e1
          · cases h
        · cases hr
    · rename_i m e ds hu
      cases h1 : rdElems (rdw P n e) (P.cellsOf e) ds with
      | none => rw [h1] at hr; cases hr
      | some c1 =>
        rw [h1] at hr
        simp only [Option.bind_some] at hr
        split at hr
        · rename_i hl
          cases hr
          unfold DataW.trod at h
          rw [hu] at h
          simp only at h
          split at h
          · rename_i hcl
            rw [List.range_eq_range'] at h
            cases h2 : (List.range' 0 m).mapM (fun i => DataW.trod (fun _ => ()) P w base spare false fuel e ((cs.drop (i * P.cellsOf e)).take (P.cellsOf e))) with
            | none => rw [h2] at h; cases h
            | some xs =>
              rw [h2] at h
              simp only [Option.map_some, Option.some.injEq, Prod.mk.injEq, DataW.agg.injEq] at h
              obtain ⟨h3, h4⟩ := h
              subst h3
              obtain ⟨e1, e2⟩ := elems_of (ih e) cs m 0 xs _ h2 h1
              refine ⟨?_, by rw [← h4]; exact e2⟩
              rw [Nat.zero_mul, List.drop_zero, List.take_of_length_le (by omega)] at e1
              exact e1
          · cases h
        · cases hr
    · cases hr

/-- a table's variable -/
def TabVar (P : Program) (w : World) (n : String) (g : Nat) (cs : List Value) : Prop :=
  P.globalNamed n = some g ∧ ∃ T fz, w.heap[g]? = some (.cells cs.toArray T fz)

theorem laid_mix {P : Program} {w : World} {te tp ts : TypeId} (hE : ErrT P te tp ts) : ∀ (L : List (String × DataW Unit)) (ps : List MemPlace),
    (∀ x ∈ L, (isErr x.2 = true ∧ ∃ g, P.globalNamed x.1 = some g ∧ (P.globals[g]?).map (·.type) = some te) ∨ (isErr x.2 = false ∧ ∃ g t c, P.globalNamed x.1 = some g ∧ (P.globals[g]?).map (·.type) = some t ∧ rdw P 20 t x.2 = some c)) →
    DataW.LaidVars P w L ps → (∀ b off, MemPlace.cell b off ∈ ps → ∀ u v, w.cell? ⟨b, off, none⟩ = some (.iface u v) → Value.okWide P w .any 0 u v) →
    ∃ ads : List (Nat × Addr), ads.length = (L.filter fun x => isErr x.2).length ∧ (errPlaces ads).Sublist ps ∧ (∀ (k : Nat) x y, (L.filter fun x => isErr x.2)[k]? = some x → ads[k]? = some y → ErrVar P w tp x.1 y.1 y.2) ∧
      ∀ x ∈ L, isErr x.2 = false → ∃ g t c, (P.globals[g]?).map (·.type) = some t ∧ rdw P 20 t x.2 = some c ∧ TabVar P w x.1 g c
  | [], ps, _, h, _ => ⟨[], rfl, List.nil_sublist _, by simp, by simp⟩
  | x :: L, ps, hl, h, hok => by
    obtain ⟨n, d⟩ := x
    have hh := h
    obtain ⟨g, t, cs, fuel, p, q, h1, h2, h3, h4, h5, rfl⟩ := h
    obtain ⟨ads, r1, r2, r3, r4⟩ := laid_mix hE L q (fun y hy => hl y (by simp [hy])) h5 (fun b off hb => hok b off (by simp [hb]))
    rcases hl (n, d) (by simp) with ⟨e1, g', e2, e3⟩ | ⟨e1, g', t', c, e2, e3, e4⟩
    · simp only at e1 e2
      have hone : DataW.LaidVars P w [(n, d)] (MemPlace.row ⟨g, 0, none⟩ cs.size ++ p ++ []) := ⟨g, t, cs, fuel, p, [], h1, h2, h3, h4, rfl, rfl⟩
      obtain ⟨as1, s1, s2, s3⟩ := laid_errs hE [(n, d)] _ (fun y hy => by simp only [List.mem_singleton] at hy; subst hy; exact ⟨e1, g', e2, e3⟩) hone (fun b off hb => hok b off (by simp at hb ⊢; rcases hb with hb | hb <;> simp [hb]))
      obtain ⟨a1, rfl⟩ : ∃ a, as1 = [a] := by
        match as1, s1 with
        | [a], _ => exact ⟨a, rfl⟩
      obtain ⟨ga, aa⟩ := a1
      refine ⟨(ga, aa) :: ads, by simp [e1, r1], ?_, fun k x y hk hy => ?_, fun x hx hxe => ?_⟩
      · have : errPlaces ((ga, aa) :: ads) = errPlaces [(ga, aa)] ++ errPlaces ads := by simp [errPlaces]
        rw [this, ← s2]
        simp only [List.append_nil]
        exact List.Sublist.append (List.Sublist.refl _) r2
      · rw [List.filter_cons, if_pos (by simpa using e1)] at hk
        cases k with
        | zero =>
          simp at hk hy
          subst hk; subst hy
          exact s3 0 _ _ rfl rfl
        | succ k => exact r3 k x y (by simpa using hk) (by simpa using hy)
      · rcases List.mem_cons.1 hx with rfl | hx
        · simp only at hxe; rw [e1] at hxe; cases hxe
        · exact r4 x hx hxe
    · simp only at e1 e2 e4
      rw [h1] at e2; cases e2
      rw [h2] at e3; cases e3
      obtain ⟨k1, k2⟩ := rdw_of 20 fuel t cs.toList d p c h4 e4
      refine ⟨ads, by simp [e1, r1], List.Sublist.trans r2 (List.sublist_append_right _ _), fun k x y hk hy => ?_, fun x hx hxe => ?_⟩
      · rw [List.filter_cons, if_neg (by simp [e1])] at hk
        exact r3 k x y hk hy
      · rcases List.mem_cons.1 hx with rfl | hx
        · refine ⟨g, t, c, h2, e4, h1, ?_⟩
          unfold World.var? at h3
          rw [h1] at h3
          simp only [Option.bind_some] at h3
          split at h3
          · rename_i c' T fz hh
            cases h3
            exact ⟨T, fz, by rw [hh, ← k1, Array.toArray_toList]⟩
          · cases h3
        · exact r4 x hx hxe
end Go.Dn
end

section
namespace Go.Dn.Ln
open Go.Proofs Go.ChangeShapes
set_option maxRecDepth 100000

/-! ## what the rows' lists give -/
theorem star : "*" ++ "errors.errorString" = "*errors.errorString" := by decide
theorem errT : ErrT Tryd.prog 31 206 230 :=
  ⟨⟨_, Tryd.underlying31⟩, fun u h => typeName_ptr_named (nm := "errors.errorString") (by rw [star]; kernel_rfl) (by kernel_rfl) (by decide) u (by rw [star]; exact h), Tryd.underlying206,
    ⟨_, _, Tryd.underlying230, rfl, rfl, Tryd.underlying9, by kernel_rfl, by kernel_rfl⟩⟩

/-- the rows of the globals, as the program begins -/
theorem rows : (List.range 44).map (fun g => (((begin Tryd.prog (fun _ _ => 0) default).world.heap[g]?).bind Obj.row?).map (fun x => x.2)) = (List.range 44).map (fun g => (Tryd.prog.globals[g]?).map (·.type)) := by kernel_rfl
theorem types : (List.range 44).all (fun g => ((Tryd.prog.globals[g]?).map (·.type)).isSome) = true := by kernel_rfl
theorem gsize : Tryd.prog.globals.size = 44 := Tryd.good.glob.symm

theorem hrow_of {W : World} (hS : W.ShapedOpen Tryd.prog) : ∀ g, g < 44 → ∃ c t, W.heap[g]? = some (.cells c t (0, 0)) ∧ (Tryd.prog.globals[g]?).map (·.type) = some t := by
  intro g hg
  have h1 := congrArg (fun l => l[g]?) rows
  simp only [List.getElem?_map, List.getElem?_range hg, Option.map_some, Option.some.injEq] at h1
  have h2 := List.all_eq_true.1 types g (List.mem_range.2 hg)
  cases ht : (Tryd.prog.globals[g]?).map (·.type) with
  | none => rw [ht] at h2; cases h2
  | some t =>
    rw [ht] at h1
    cases hb : ((begin Tryd.prog (fun _ _ => 0) default).world.heap[g]?).bind Obj.row? with
    | none => rw [hb] at h1; cases h1
    | some x =>
      obtain ⟨zero, t'⟩ := x
      rw [hb] at h1
      simp only [Option.map_some, Option.some.injEq] at h1
      subst h1
      obtain ⟨cs, k1, _⟩ := hS.1 g zero t' (by rw [gsize]; exact hg) hb
      exact ⟨cs, t', k1, rfl⟩

noncomputable def mixOk (L : List (String × DataW Unit)) : Bool := L.all fun x => match Tryd.prog.globalNamed x.1 with
  | some g => Nat.blt g 44 && bif isErr x.2 then decide ((Tryd.prog.globals[g]?).map (·.type) = some 31) else match (Tryd.prog.globals[g]?).map (·.type) with
    | some t => (rdw Tryd.prog 20 t x.2).isSome
    | none => false
  | none => false
noncomputable def coversE (L : List (String × DataW Unit)) (gs : List Nat) : Bool := gs.all fun g => L.any fun x => isErr x.2 && Tryd.prog.globalNamed x.1 == some g

/-- the beginning, for the laws that list sentinels and tables -/
theorem begin_rep (rep : Nat → Dat → Hp → Nat → Prop) {W : World} (hS : W.ShapedOpen Tryd.prog) {L : List (String × DataW Unit)} (hL : laidMet Tryd.prog L W) (h1 : mixOk L = true) {C : Hp} (hCn : C.next = 88)
    (hC : ∀ i o, C.get i = some o → (∃ x ∈ L, isErr x.2 = true ∧ Tryd.prog.globalNamed x.1 = some i ∧ o = er i) ∨
      (∃ x ∈ L, isErr x.2 = false ∧ Tryd.prog.globalNamed x.1 = some i ∧ ∃ t c, (Tryd.prog.globals[i]?).map (·.type) = some t ∧ rdw Tryd.prog 20 t x.2 = some c ∧ o = .arr t c .ro ∧ ∀ u ∈ c, plain0 u = true)) :
    ∃ R : Reps, R.C = C ∧ R.rep = rep ∧ Rel Tryd.prog R.ρC C W ∧ (∀ i p, i < C.next → R.ρC i = some p → p.blk < W.heap.size) ∧ ConW Tryd.prog W := by
  obtain ⟨ps, hl, hn, hp⟩ := hL
  have hchk : ∀ x ∈ L, ∃ g, Tryd.prog.globalNamed x.1 = some g ∧ g < 44 ∧ ((isErr x.2 = true ∧ (Tryd.prog.globals[g]?).map (·.type) = some 31) ∨ (isErr x.2 = false ∧ ∃ t c, (Tryd.prog.globals[g]?).map (·.type) = some t ∧ rdw Tryd.prog 20 t x.2 = some c)) := by
    intro x hx
    have := List.all_eq_true.1 h1 x hx
    cases hg : Tryd.prog.globalNamed x.1 with
    | none => rw [hg] at this; cases this
    | some g =>
      rw [hg] at this
      simp only [Bool.and_eq_true, Nat.blt_eq] at this
      obtain ⟨k1, k2⟩ := this
      refine ⟨g, rfl, k1, ?_⟩
      cases he : isErr x.2 with
      | true => rw [he] at k2; exact .inl ⟨rfl, by simpa using k2⟩
      | false =>
        rw [he] at k2
        simp only [cond_false] at k2
        cases ht : (Tryd.prog.globals[g]?).map (·.type) with
        | none => rw [ht] at k2; cases k2
        | some t =>
          rw [ht] at k2
          simp only at k2
          obtain ⟨c, hc⟩ := Option.isSome_iff_exists.1 k2
          exact .inr ⟨rfl, t, c, rfl, hc⟩
  obtain ⟨ads, e1, e2, e3, e4⟩ := laid_mix errT L ps (fun x hx => by
    obtain ⟨g, b1, b2, b3⟩ := hchk x hx
    rcases b3 with ⟨c1, c2⟩ | ⟨c1, t, c, c2, c3⟩
    · exact .inl ⟨c1, g, b1, c2⟩
    · exact .inr ⟨c1, g, t, c, b1, c2, c3⟩) hl (fun b off hb => (hp b off hb).2)
  have hn' : (errPlaces ads).Nodup := hn.sublist e2
  have hE : ∀ x ∈ ads, ∃ y ∈ L.filter (fun x => isErr x.2), ErrVar Tryd.prog W 206 y.1 x.1 x.2 := by
    intro x hx
    obtain ⟨k, hk⟩ := List.getElem?_of_mem hx
    have hkl : k < (L.filter fun x => isErr x.2).length := by rw [← e1]; exact (List.getElem?_eq_some_iff.1 hk).1
    exact ⟨_, List.getElem_mem hkl, e3 k _ x (List.getElem?_eq_getElem hkl) hk⟩
  have key := consts_start (P := Tryd.prog) (W := W) (te := 31) (tp := 206) gsize ads hn' (hrow_of hS) (fun x hx => by
    obtain ⟨y, hy, q1, q2, q3, _⟩ := hE x hx
    obtain ⟨hyL, hye⟩ := List.mem_filter.1 hy
    obtain ⟨g, r1, r2, r3⟩ := hchk y hyL
    rw [q1] at r1; cases r1
    rcases r3 with ⟨_, r4⟩ | ⟨r4, _⟩
    · exact ⟨r2, r4, q2, q3, (hp _ _ (e2.subset (errPlaces_mem hx).2)).1⟩
    · rw [r4] at hye; cases hye) C hCn (fun i o hi => by
    rcases hC i o hi with ⟨y, hy, q0, q1, rfl⟩ | ⟨y, hy, q0, q1, t, c, q2, q3, rfl, q4⟩
    · left
      have hyf : y ∈ L.filter fun x => isErr x.2 := List.mem_filter.2 ⟨hy, q0⟩
      obtain ⟨k, hk⟩ := List.getElem?_of_mem hyf
      have hkl : k < ads.length := by rw [e1]; exact (List.getElem?_eq_some_iff.1 hk).1
      have := e3 k y ads[k] hk (List.getElem?_eq_getElem hkl)
      have h0 := this.1
      rw [q1] at h0
      refine ⟨ads[k].2, ?_, rfl⟩
      have : ads[k] = (i, ads[k].2) := by rw [Option.some.inj h0]
      rw [← this]; exact List.getElem_mem hkl
    · right
      obtain ⟨g, t', c', r1, r2, r3, T, fz, r4⟩ := e4 y hy q0
      rw [q1] at r3; cases r3
      rw [q2] at r1; cases r1
      rw [q3] at r2; cases r2
      obtain ⟨g', b1, b2, _⟩ := hchk y hy
      rw [q1] at b1; cases b1
      obtain ⟨c0, t0, s1, s2⟩ := hrow_of hS i b2
      rw [q2] at s2; cases s2
      rw [s1] at r4; cases r4
      exact ⟨t, c, b2, rfl, q2, q4, (0, 0), s1⟩)
  obtain ⟨c1, c2, c3, c4, c5⟩ := key
  let R : Reps := { rep := rep, C := C, ρC := fun i => if i < 44 + 44 then placeC 44 C ads i else none, Cro := c1, Cpl := c2 }
  exact ⟨R, rfl, rfl, c3, c4, c5 (R := R) rfl rfl⟩

/-! ## a world for the witness -/
noncomputable def lowT : Nat := (World.holding Tryd.prog default ⟨#[], #[], []⟩).heap.size
def textOf : DataW Unit → ByteArray
  | .iface _ (.ptr (.agg [.lit (.string s)])) => ⟨s.toArray⟩
  | _ => .empty
noncomputable def setErr (h : Array Obj) (g k : Nat) : Array Obj := h.modify g fun
  | .cells _ t fr => .cells #[.iface 206 (.pointer (some ⟨lowT + k, 0, none⟩))] t fr
  | o => o
noncomputable def setTab (h : Array Obj) (g : Nat) (c : List Value) : Array Obj := h.modify g fun
  | .cells _ t fr => .cells c.toArray t fr
  | o => o
noncomputable def tabOf (g : Nat) (d : DataW Unit) : List Value := (((Tryd.prog.globals[g]?).map (·.type)).bind fun t => rdw Tryd.prog 20 t d).getD []
noncomputable def setErrs (L : List (String × DataW Unit)) (k : Nat) (h : Array Obj) : Array Obj := match L with
  | [] => h
  | x :: l => setErrs l (k + 1) (match Tryd.prog.globalNamed x.1 with
    | some g => bif isErr x.2 then setErr h g k else setTab h g (tabOf g x.2)
    | none => h)
noncomputable def laidWorld (L : List (String × DataW Unit)) (os : Os) : World :=
  { World.holding Tryd.prog os ⟨(L.map fun x => Obj.cells #[.string (textOf x.2)] 230).toArray, #[], []⟩ with
    heap := setErrs L 0 (World.holding Tryd.prog os ⟨(L.map fun x => Obj.cells #[.string (textOf x.2)] 230).toArray, #[], []⟩).heap }

end Go.Dn.Ln

namespace Go.Proofs.YtombnpednnngoaaDoor.bulks
theorem one_le {H : Type} (d : DataW H) : 1 ≤ Rows.uptoBulk d := by
  cases d with
  | lit l => cases l <;> simp [Rows.uptoBulk]
  | nil => simp [Rows.uptoBulk]
  | ptr d => simp [Rows.uptoBulk]
  | slice elems spare => simp [Rows.uptoBulk]
  | agg parts => simp [Rows.uptoBulk]
  | iface t d => simp [Rows.uptoBulk]
  | map entries => simp [Rows.uptoBulk]
  | held h => simp [Rows.uptoBulk]

/-- a part's bulk is at most the whole's -/
theorem part_le {H : Type} {d : DataW H} {l : List (DataW H)} (h : d ∈ l) : Rows.uptoBulk d ≤ Rows.uptoBulkAll l := by
  induction l with
  | nil => cases h
  | cons x r ih =>
    simp only [Rows.uptoBulkAll]
    cases List.mem_cons.1 h with
    | inl e => subst e; omega
    | inr e => have := ih e; omega

theorem append {H : Type} (l r : List (DataW H)) : Rows.uptoBulkAll (l ++ r) = Rows.uptoBulkAll l + Rows.uptoBulkAll r := by
  induction l with
  | nil => simp [Rows.uptoBulkAll]
  | cons x l ih => simp only [List.cons_append, Rows.uptoBulkAll, ih]; omega

/-- so many values at the most -/
theorem length_le {H : Type} (l : List (DataW H)) : l.length ≤ Rows.uptoBulkAll l := by
  induction l with
  | nil => simp [Rows.uptoBulkAll]
  | cons x r ih => have := one_le x; simp only [Rows.uptoBulkAll, List.length_cons]; omega

/-- a slice's places, and what they hold -/
theorem slice_le {H : Type} (elems spare : List (DataW H)) : elems.length + spare.length + 1 ≤ Rows.uptoBulk (.slice elems spare) := by
  have h1 := length_le elems
  have h2 := length_le spare
  simp only [Rows.uptoBulk]
  omega
theorem slice_elems {H : Type} (elems spare : List (DataW H)) : Rows.uptoBulkAll elems + 1 ≤ Rows.uptoBulk (.slice elems spare) := by
  simp only [Rows.uptoBulk]
  omega

/-- a string's letters -/
theorem string_eq {H : Type} (bytes : List UInt8) : Rows.uptoBulk (DataW.lit (H := H) (.string bytes)) = bytes.length + 1 := by
  simp [Rows.uptoBulk]

/-- THE BOUND, as the builder hands it over ('hk') -/
theorem bound {H : Type} {l : List (DataW H)} (hk : Rows.uptoSmall H l = true) : Rows.uptoBulkAll l ≤ 1048576 := of_decide_eq_true hk


end Go.Proofs.YtombnpednnngoaaDoor.bulks
end

section
/-
  a list of tickets, read; 'LaneDrains' run over the base
-/
namespace Go.Dn.Ln
open Go.Proofs Go.ChangeShapes
open Go.Proofs.YtombnpednnngoaaDoor
set_option maxRecDepth 100000

theorem CE_wf : CE.wf := by
  intro i hi
  have hn : CE.next = 88 := rfl
  rw [hn] at hi
  cases h : CE.get i with
  | none => rfl
  | some o =>
    rcases CE_get h with ⟨h1, _⟩ | ⟨h1, _⟩
    · have := (show ∀ g ∈ errs, g < 88 by decide) i h1
      omega
    · omega

theorem lit_u32 {n : Int} (h : (Lit.int .u32 n).wf = true) : 0 ≤ n ∧ n ≤ 4294967295 := by
  simp only [Lit.wf, Bool.and_eq_true, decide_eq_true_eq] at h
  exact ⟨h.1, h.2⟩

theorem tk_of {H : Type} {A : Hp} {d : DataW H} {c : List Value} (h : ArgR Tryd.bk.E.T A 29 d c) : ∃ o : TkA, c = o.cells ∧ 0 ≤ o.v ∧ o.v ≤ 4294967295 := by
  obtain ⟨dd, css, rfl, rfl, l1, l2, l3⟩ := h.struct_inv (i := Go.Dn.Tryd.ti29) rfl rfl
  obtain ⟨c0, c1, c2, rfl⟩ : ∃ c0 c1 c2, css = [c0, c1, c2] := by
    match css, l2 with
    | [a, b, c], _ => exact ⟨a, b, c, rfl⟩
  obtain ⟨d0, d1, d2, rfl⟩ : ∃ d0 d1 d2, dd = [d0, d1, d2] := by
    match dd, l1 with
    | [a, b, c], _ => exact ⟨a, b, c, rfl⟩
  obtain ⟨k, _, rfl, _⟩ := (l3 0 _ d0 c0 rfl rfl rfl).int_inv (i := Go.Dn.Tryd.ti26) rfl rfl
  obtain ⟨s, _, rfl, _⟩ := (l3 1 _ d1 c1 rfl rfl rfl).int_inv (i := Go.Dn.Tryd.ti27) rfl rfl
  obtain ⟨v, _, rfl, hv⟩ := (l3 2 _ d2 c2 rfl rfl rfl).int_inv (i := Go.Dn.Tryd.ti27) rfl rfl
  exact ⟨⟨k, s, v⟩, rfl, lit_u32 hv⟩

theorem tks_list {H : Type} {A : Hp} : ∀ (css : List (List Value)) (els : List (DataW H)), els.length = css.length → (∀ (k : Nat) d c, els[k]? = some d → css[k]? = some c → ArgR Tryd.bk.E.T A 29 d c) →
    ∃ ops : List TkA, css = ops.map TkA.cells ∧ ∀ o ∈ ops, 0 ≤ o.v ∧ o.v ≤ 4294967295
  | [], els, _, _ => ⟨[], rfl, by simp⟩
  | c :: css, [], hl, _ => by simp at hl
  | c :: css, d :: els, hl, h => by
    obtain ⟨o, o1, o2⟩ := tk_of (h 0 d c rfl rfl)
    obtain ⟨ops, p1, p2⟩ := tks_list css els (by simpa using hl) fun k d c hd hc => h (k + 1) d c (by simpa using hd) (by simpa using hc)
    refine ⟨o :: ops, by rw [o1, p1]; rfl, fun x hx => ?_⟩
    rcases List.mem_cons.1 hx with rfl | hx
    · exact o2
    · exact p2 x hx

theorem drains_run {A : Hp} (hA : A.wf) {ta : List TkA} (hta : ∀ o ∈ ta, 0 ≤ o.v ∧ o.v ≤ 4294967295) {v : Value} (hv : ArgSl 29 3 A v (ta.map TkA.cells).flatten ta.length) (hm : ta.length ≤ 1048576) :
    ∃ n A', callD Tryd.bk (TL TF) n 3 [v] A = some (.bool true, A') := by
  obtain ⟨a, c, rfl⟩ : ∃ a c, v = .slice a ta.length c := by
    generalize ta.length = m at hv
    generalize (ta.map TkA.cells).flatten = fl at hv
    cases hv with
    | nil c hc => exact ⟨none, c, rfl⟩
    | «at» id _ us hg hl => exact ⟨some _, _, rfl⟩
  obtain ⟨k, hk⟩ : ∃ k : Nat, 2001 < k := ⟨2002, by omega⟩
  obtain ⟨A', r⟩ := drains_walk (TL_fns (base := TF) (fun A => rfl) k) hA hta hv hm k hk
  exact ⟨k + 1, A', callD_of rfl (fn := Tryd.f3) rfl r⟩
end Go.Dn.Ln
end

section
/-
  'LaneTakes', run: the whole; a list of ops, read
-/
namespace Go.Dn.Ln
open Go.Proofs Go.ChangeShapes
open Go.Proofs.YtombnpednnngoaaDoor
set_option maxHeartbeats 4000000
set_option maxRecDepth 100000

section
attribute [local irreducible] Hp.get Hp.set Hp.push dappend dcopy dstore cellsAt callD loopD

structure TO where
  i : Nat
  ts : List Tk
  n : Nat

theorem takes_end {call : CallT} (lf : Nat) {A : Hp} (V3 V15 : Value) (m i : Nat) (hi : ¬ i < m) :
    ∃ σ1, exec Tryd.bk.E call Tryd.f4.ntmps (Tryd.bk.inf 4) lf (loopOf Tryd.f4 0) [(2, .bool false), (3, V3), (15, V15), (16, .int .i64 (m : Nat)), (17, .int .i64 (i : Nat))] A = some (.exit 0, σ1, A) ∧
      keepSl (some [2, 3, 15, 16, 17]) σ1 = [(2, .bool false), (3, V3), (15, V15), (16, .int .i64 (m : Nat)), (17, .int .i64 (i : Nat))] := by
  have e1 : ¬ ((i : Nat) : Int) < ((m : Nat) : Int) := by omega
  refine ⟨?s, kexec_run ?run, ?kp⟩
  case run =>
    conv => lhs; whnf
    rw [kdecn e1]
  case kp => rfl

theorem takes_walk {call : CallT} {NS : Nat} (h : LaneFns2 call) (hsame : SameOK call NS) {A : Hp} (hw : A.wf) {ops : List OpA} (hops : ∀ o ∈ ops, 0 ≤ o.tv ∧ o.tv ≤ 4294967295) {a : Option Addr} {c : Nat} (hv : ArgSl 39 4 A (.slice a ops.length c) (ops.map OpA.cells).flatten ops.length) (hm : ops.length ≤ 1048576) (hNS : ops.length + 2 < NS) (lf : Nat) (hlf : ops.length < lf) :
    ∃ A', kfn Tryd.bk.E call (Tryd.bk.inf 4) lf Tryd.f4 [.slice a ops.length c] A = some (.bool true, A') := by
  have hnew := h.new (NewR.mk A)
  let A1 : Hp := A.push (.abs 3 (LX.dat ⟨[], 0⟩))
  have hw1 : A1.wf := hw.push _
  have hP1 : A1.get A.next = some (.abs 3 (LX.dat ⟨[], 0⟩)) := Hp.get_push_same _ _
  have key : ∃ A3 L, loopD (some [2, 3, 15, 16, 17]) (exec Tryd.bk.E call Tryd.f4.ntmps (Tryd.bk.inf 4) lf (loopOf Tryd.f4 0)) lf [(2, .bool false), (3, ptr A.next), (15, .slice a ops.length c), (16, .int .i64 (ops.length : Nat)), (17, .int .i64 ((0 : Nat) : Int))] A1 =
      some (.exit 0, [(2, .bool false), (3, ptr A.next), (15, .slice a ops.length c), (16, .int .i64 (ops.length : Nat)), (17, L)], A3) := by
    generalize hv0 : (Value.slice a ops.length c) = v0 at hv
    generalize hfl : (ops.map OpA.cells).flatten = fl at hv
    generalize hol : ops.length = ol at hv hv0
    cases hv with
    | nil cc hc =>
      obtain ⟨σ1, r1, r2⟩ := takes_end (call := call) lf (A := A1) (ptr A.next) (.slice none 0 cc) 0 0 (by omega)
      have := loop_out (ks := some [2, 3, 15, 16, 17]) r1 (by simp) (n := lf) (by omega)
      rw [r2] at this
      exact ⟨A1, _, this⟩
    | «at» id _ _ hg hl =>
      subst hol hfl
      have hidl := hw.lt hg
      have hgi : A1.get id = some (.arr 39 (ops.map OpA.cells).flatten .sh) := by rw [Hp.get_push_ne _ _ (by omega)]; exact hg
      have key := loop_rule (ks := some [2, 3, 15, 16, 17]) (f := exec Tryd.bk.E call Tryd.f4.ntmps (Tryd.bk.inf 4) lf (loopOf Tryd.f4 0)) (S := TO)
        (fun q => [(2, .bool false), (3, ptr A.next), (15, .slice (some ⟨id, 0, some 4⟩) ops.length (2 * ops.length)), (16, .int .i64 (ops.length : Nat)), (17, .int .i64 (q.i : Nat))])
        (fun q B => q.i ≤ ops.length ∧ KP A.next A1 B ∧ B.get A.next = some (.abs 3 (LX.dat ⟨q.ts, q.n⟩)) ∧ q.ts.length ≤ q.n ∧ q.n ≤ q.i) (fun q => ops.length - q.i)
        (fun e σ _ => e = .exit 0 ∧ ∃ L, σ = [(2, .bool false), (3, ptr A.next), (15, .slice (some ⟨id, 0, some 4⟩) ops.length (2 * ops.length)), (16, .int .i64 (ops.length : Nat)), (17, L)]) (fun q B hs => ?_)
        lf ⟨0, [], 0⟩ A1 ⟨Nat.zero_le _, KP.refl hw1, hP1, Nat.le_refl _, Nat.le_refl _⟩ (by simp only; omega)
      · obtain ⟨e, σ1, A3, r1, rfl, L, rfl⟩ := key
        exact ⟨A3, L, r1⟩
      · obtain ⟨i, ts, n⟩ := q
        obtain ⟨z1, z2, z3, z4, z5⟩ := hs
        simp only at z1 z2 z3 z4 z5 ⊢
        by_cases him : i < ops.length
        · obtain ⟨σ1, B1, ts', n', r1, r2, r3, r4, r5, r6⟩ := takes_op h hsame hw1 hops hgi (by omega) lf (c := 2 * ops.length) z2 z3 z4 (by omega) rfl hm him (by omega) (by omega)
          exact ⟨.normal, σ1, B1, r1, .inl ⟨rfl, ⟨i + 1, ts', n'⟩, r2, ⟨him, r3, r4, r6, by simp only; omega⟩, by simp only; omega⟩⟩
        · obtain ⟨σ1, r1, r2⟩ := takes_end (call := call) lf (A := B) (ptr A.next) (.slice (some ⟨id, 0, some 4⟩) ops.length (2 * ops.length)) ops.length i him
          exact ⟨.exit 0, σ1, B, r1, .inr ⟨by simp, rfl, _, r2⟩⟩
  obtain ⟨A3, L, l1⟩ := key
  refine ⟨A3, ?run⟩
  case run =>
    conv => lhs; whnf
    refine bind_of (h.fixed _) ?_
    conv => lhs; whnf
    refine bind_of hnew ?_
    conv => lhs; whnf
    refine bind_of l1 ?_
    conv => lhs; whnf
    try rfl
end

/-! ## the argument -/
theorem opA_of {H : Type} {A : Hp} {d : DataW H} {c : List Value} (h : ArgR Tryd.bk.E.T A 39 d c) : ∃ o : OpA, c = o.cells ∧ 0 ≤ o.tv ∧ o.tv ≤ 4294967295 := by
  obtain ⟨dd, css, rfl, rfl, l1, l2, l3⟩ := h.struct_inv (i := Go.Dn.Tryd.ti39) rfl rfl
  obtain ⟨c0, c1, rfl⟩ : ∃ c0 c1, css = [c0, c1] := by
    match css, l2 with
    | [a, b], _ => exact ⟨a, b, rfl⟩
  obtain ⟨d0, d1, rfl⟩ : ∃ d0 d1, dd = [d0, d1] := by
    match dd, l1 with
    | [a, b], _ => exact ⟨a, b, rfl⟩
  obtain ⟨k, _, rfl, _⟩ := (l3 0 _ d0 c0 rfl rfl rfl).int_inv (i := Go.Dn.Tryd.ti3) rfl rfl
  obtain ⟨t, rfl, t1, t2⟩ := tk_of (l3 1 _ d1 c1 rfl rfl rfl)
  exact ⟨⟨k, t.k, t.s, t.v⟩, rfl, t1, t2⟩

theorem opAs_list {H : Type} {A : Hp} : ∀ (css : List (List Value)) (els : List (DataW H)), els.length = css.length → (∀ (k : Nat) d c, els[k]? = some d → css[k]? = some c → ArgR Tryd.bk.E.T A 39 d c) →
    ∃ ops : List OpA, css = ops.map OpA.cells ∧ ∀ o ∈ ops, 0 ≤ o.tv ∧ o.tv ≤ 4294967295
  | [], els, _, _ => ⟨[], rfl, by simp⟩
  | c :: css, [], hl, _ => by simp at hl
  | c :: css, d :: els, hl, h => by
    obtain ⟨o, o1, o2⟩ := opA_of (h 0 d c rfl rfl)
    obtain ⟨ops, p1, p2⟩ := opAs_list css els (by simpa using hl) fun k d c hd hc => h (k + 1) d c (by simpa using hd) (by simpa using hc)
    refine ⟨o :: ops, by rw [o1, p1]; rfl, fun x hx => ?_⟩
    rcases List.mem_cons.1 hx with rfl | hx
    · exact o2
    · exact p2 x hx

theorem same_ok (k : Nat) : SameOK (callD Tryd.bk (TM TF) (k + 1)) k := fun {_ _ _ _ _ _ _} h1 h2 hm hl => callD_of rfl (fn := Tryd.f21) rfl (same_walk k h1 h2 hm hl)

theorem takes_run {A : Hp} (hA : A.wf) {ops : List OpA} (hops : ∀ o ∈ ops, 0 ≤ o.tv ∧ o.tv ≤ 4294967295) {v : Value} (hv : ArgSl 39 4 A v (ops.map OpA.cells).flatten ops.length) (hm : ops.length ≤ 1048576) :
    ∃ n A', callD Tryd.bk (TM TF) n 4 [v] A = some (.bool true, A') := by
  obtain ⟨a, c, rfl⟩ : ∃ a c, v = .slice a ops.length c := by
    generalize ops.length = m at hv
    generalize (ops.map OpA.cells).flatten = fl at hv
    cases hv with
    | nil c hc => exact ⟨none, c, rfl⟩
    | «at» id _ us hg hl => exact ⟨some _, _, rfl⟩
  obtain ⟨A', r⟩ := takes_walk (TM_fns (base := TF) (fun A => rfl) (ops.length + 3 + 1)) (same_ok (ops.length + 3)) hA hops hv hm (by omega) (ops.length + 3 + 1) (by omega)
  exact ⟨ops.length + 3 + 1 + 1, A', callD_of rfl (fn := Tryd.f4) rfl r⟩
end Go.Dn.Ln
end

section
/-
  the closed facts of the seat's program that every row of it asks: each by itself, since together they ask for more than ten gigabytes
-/
namespace Go.Proofs.YtombnpednnngoaaDoor
open Go.ChangeShapes Go.Dn Go.Dn.Ln
set_option maxRecDepth 100000
theorem jLaid : laidOutB Tryd.pinned.checked.prog = true := by kernel_rfl
theorem jMaps : mapsRowed Tryd.pinned.checked.prog = true := by kernel_rfl
theorem jHeard : Program.stopsHeard Tryd.pinned.checked.prog = true := by kernel_rfl
theorem jEnter : Program.mayEnter Tryd.pinned.checked.prog = true := by kernel_rfl
theorem jKeys : Program.plainKeys Tryd.pinned.checked.prog = false := by kernel_rfl
theorem jLifts : Program.liftsFinal Tryd.pinned.checked.prog = false := by kernel_rfl
theorem jMake : Program.make Tryd.pinned.checked.prog = some Rows.laneDrainsUptoRow.make := by kernel_rfl
end Go.Proofs.YtombnpednnngoaaDoor
end
