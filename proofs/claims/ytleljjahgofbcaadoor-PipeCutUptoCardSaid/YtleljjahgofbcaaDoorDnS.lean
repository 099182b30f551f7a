/-
  Part of the abstract machine for this program.
-/
import Derived.Test.YtleljjahgofbcaaDoorDnP
import Derived.Test.YtleljjahgofbcaaDoorDnR

section
/-
  'PipeCut', run
-/
namespace Go.Dn.Pipe
open Go.Proofs
set_option maxHeartbeats 4000000
set_option maxRecDepth 100000
attribute [local irreducible] Hp.get Hp.set Hp.push dappend dcopy dstore cellsAt callD loopD dstring guardL hideL backL

section
variable {call : CallT} {N : Nat} (hS : StepOK call N) {A0 : Hp} {P : Nat} (hPl : P < A0.next) (hw0 : A0.wf) {ops : List OpX} (hops : ∀ o ∈ ops, o.ok A0) {ib : Nat} (hib : A0.get ib = some (.arr 54 (ops.map OpX.cells).flatten .sh)) (hibP : ib ≠ P) {X : Dat} (hP0 : A0.get P = some (.abs 1 X))
include hS hPl hw0 hops hib hibP hP0

theorem cut_round (lf : Nat) {A : Hp} {all : List Value} {g : Nat} {ct : Bool} {V V1 : Value} {c : Nat} {i : Nat} (hk : KP P A0 A) (hI : PW P all g ct V A) (hq : A.get A0.next = some (.arr 50 [V, .int .i64 g, .bool ct] .own)) (hi : i < ops.length) (hm : ops.length ≤ 1048576) (hb : all.length + sumL (ops.drop i) ≤ 100000000) (hN : all.length + sumL (ops.drop i) < N) :
    ∃ σ1 A1 all' g' ct' V', exec Tryd.bk.E call Tryd.f6.ntmps (Tryd.bk.inf 6) lf (loopOf Tryd.f6 0) [(0, .slice (some ⟨ib, 0, some 3⟩) ops.length c), (1, V1), (4, .bool false), (5, ptr P), (6, ptr A0.next), (7, .int .i64 (i : Nat))] A = some (.normal, σ1, A1) ∧
      keepSl (some [0, 1, 4, 5, 6, 7]) σ1 = [(0, .slice (some ⟨ib, 0, some 3⟩) ops.length c), (1, V1), (4, .bool false), (5, ptr P), (6, ptr A0.next), (7, .int .i64 (i + 1 : Nat))] ∧ KP P A0 A1 ∧ PW P all' g' ct' V' A1 ∧ A1.get A0.next = some (.arr 50 [V', .int .i64 g', .bool ct'] .own) ∧
      all'.length + sumL (ops.drop (i + 1)) ≤ all.length + sumL (ops.drop i) := by
  obtain ⟨o, ho⟩ : ∃ o, ops[i]? = some o := ⟨_, List.getElem?_eq_getElem hi⟩
  have hok := hops o (List.mem_of_getElem? ho)
  have hgi : A.get ib = some (.arr 54 (ops.map OpX.cells).flatten .sh) := by rw [hk.old ib (hw0.lt hib) hibP]; exact hib
  obtain ⟨f1, f2⟩ := flat_row (css := ops.map OpX.cells) (sz := 3) (fun k c hc => by
    rw [List.getElem?_map] at hc
    cases hh : ops[k]? with
    | none => rw [hh] at hc; cases hc
    | some x => rw [hh] at hc; cases hc; rfl) i o.cells (by rw [List.getElem?_map, ho]; rfl)
  have hcell : cellsIn (ops.map OpX.cells).flatten (0 + i * 3) 3 = some o.cells := cellsIn_of (by omega) (by rw [Nat.zero_add]; exact f2)
  have e1 : ((i : Nat) : Int) < ((ops.length : Nat) : Int) := by omega
  obtain ⟨k, us, a2, c2, n⟩ := o
  have hsum : sumL (ops.drop i) = us.length + sumL (ops.drop (i + 1)) := by
    rw [List.drop_eq_getElem_cons hi]
    have : ops[i] = ⟨k, us, a2, c2, n⟩ := by
      rw [List.getElem?_eq_getElem hi] at ho
      exact Option.some.inj ho
    rw [this]
    rfl
  have hPA : P < A.next := by have := hk.nx; omega
  have hqA : A0.next < A.next := hk.wf.lt hq
  have hokB : IsB us := hok.bytes
  have hokn : n ≤ 9223372036854775807 := hok.nb
  have hBu : BsAt A (.slice a2 us.length c2) us := hk.bs hw0 hP0 hok.bs
  obtain ⟨all1, g1, ct1, V1', B1, s1, s2, s3, s4⟩ := hS hk.wf hI k n hokB hBu hokn (by omega) (by omega)
  obtain ⟨av, cv, rfl⟩ := s3.form
  let W : List Value := [.slice av all1.length cv, .int .i64 g1, .bool ct1]
  have hqB : B1.get A0.next = some (.arr 50 [V, .int .i64 g, .bool ct] .own) := by rw [s2.old _ hqA (by omega)]; exact hq
  have kE : KP P A0 (B1.set A0.next (some (.arr 50 W .own))) := (hk.trans s2).set hqB (Nat.le_refl _) _
  have hw2 : IntKind.i64.wrap ((i : Int) + 1) = ((i + 1 : Nat) : Int) := by rw [wrap64 (by omega) (by omega)]; omega
  refine ⟨?s, _, all1, g1, ct1, .slice av all1.length cv, kexec_run ?run, ?kp, kE, ⟨⟨av, cv, rfl⟩, s3.bs.set5 s3.typ (q := A0.next) (fun cs md e => by rw [hqB] at e; cases e) _, s3.typ.set5 (q := A0.next) (fun cs md e => by rw [hqB] at e; cases e) _, s3.bytes, s3.gl, (Hp.get_set_ne _ _ (by omega)).trans s3.pipe⟩, Hp.get_set_same _ _ _, by omega⟩
  case run =>
    conv => lhs; whnf
    rw [kdec e1]
    conv => lhs; whnf
    refine bind_of (cellsAt_of hq _ _) ?_
    conv => lhs; whnf
    rw [kdec e1]
    conv => lhs; whnf
    refine bind_of ((cellsAt_of hgi _ _).trans hcell) ?_
    conv => lhs; whnf
    refine bind_of s1 ?_
    conv => lhs; whnf
    refine bind_of (dstore_of hqB (t := 50) (o := 0) (cs' := W) rfl) ?_
    conv => lhs; whnf
  case kp =>
    show [_, _, _, _, _, (7, Value.int .i64 (IntKind.i64.wrap ((i : Int) + 1)))] = _
    rw [hw2]

omit hS hPl hw0 hops hib hibP hP0 in
theorem cut_end (lf : Nat) {A : Hp} (a : Option Addr) (m c i : Nat) (V1 V5 V6 : Value) (hi : ¬ i < m) :
    ∃ σ1, exec Tryd.bk.E call Tryd.f6.ntmps (Tryd.bk.inf 6) lf (loopOf Tryd.f6 0) [(0, .slice a m c), (1, V1), (4, .bool false), (5, V5), (6, V6), (7, .int .i64 (i : Nat))] A = some (.exit 0, σ1, A) ∧
      keepSl (some [0, 1, 4, 5, 6, 7]) σ1 = [(0, .slice a m c), (1, V1), (4, .bool false), (5, V5), (6, V6), (7, .int .i64 (i : Nat))] := by
  have e1 : ¬ ((i : Nat) : Int) < ((m : Nat) : Int) := by omega
  refine ⟨?s, kexec_run ?run, ?kp⟩
  case run =>
    conv => lhs; whnf
    rw [kdecn e1]
  case kp => rfl

theorem cut_loop (lf : Nat) {A : Hp} {c : Nat} {V V1 : Value} (hk : KP P A0 A) (hI : PW P [] 0 false V A) (hq : A.get A0.next = some (.arr 50 [V, .int .i64 ((0 : Nat) : Int), .bool false] .own)) (hm : ops.length ≤ 1048576) (hb : sumL ops ≤ 100000000) (hN : sumL ops < N) (hlf : ops.length < lf) :
    ∃ A1 V5 all g ct V', loopD (some [0, 1, 4, 5, 6, 7]) (exec Tryd.bk.E call Tryd.f6.ntmps (Tryd.bk.inf 6) lf (loopOf Tryd.f6 0)) lf [(0, .slice (some ⟨ib, 0, some 3⟩) ops.length c), (1, V1), (4, .bool false), (5, ptr P), (6, ptr A0.next), (7, .int .i64 ((0 : Nat) : Int))] A =
      some (.exit 0, [(0, .slice (some ⟨ib, 0, some 3⟩) ops.length c), (1, V1), (4, .bool false), (5, ptr P), (6, ptr A0.next), (7, V5)], A1) ∧ KP P A0 A1 ∧ PW P all g ct V' A1 ∧ all.length ≤ sumL ops := by
  have key := loop_rule (ks := some [0, 1, 4, 5, 6, 7]) (f := exec Tryd.bk.E call Tryd.f6.ntmps (Tryd.bk.inf 6) lf (loopOf Tryd.f6 0)) (S := PS)
    (fun s => [(0, .slice (some ⟨ib, 0, some 3⟩) ops.length c), (1, V1), (4, .bool false), (5, ptr P), (6, ptr A0.next), (7, .int .i64 (s.i : Nat))])
    (fun s A => s.i ≤ ops.length ∧ KP P A0 A ∧ PW P s.all s.g s.ct s.v A ∧ A.get A0.next = some (.arr 50 [s.v, .int .i64 s.g, .bool s.ct] .own) ∧ s.all.length + sumL (ops.drop s.i) ≤ sumL ops) (fun s => ops.length - s.i)
    (fun e σ A1 => e = .exit 0 ∧ ∃ V5 all g ct V', σ = [(0, .slice (some ⟨ib, 0, some 3⟩) ops.length c), (1, V1), (4, .bool false), (5, ptr P), (6, ptr A0.next), (7, V5)] ∧ KP P A0 A1 ∧ PW P all g ct V' A1 ∧ all.length ≤ sumL ops) (fun s A hs => ?_)
    lf ⟨0, [], 0, false, V⟩ A ⟨Nat.zero_le _, hk, hI, hq, by simp⟩ (by simp only; omega)
  · obtain ⟨e, σ1, A1, k1, rfl, V5, all, g, ct, V', rfl, k2, k3, k4⟩ := key
    exact ⟨A1, V5, all, g, ct, V', k1, k2, k3, k4⟩
  · obtain ⟨i, all, g, ct, v⟩ := s
    obtain ⟨z1, z2, z3, z4, z5⟩ := hs
    simp only at z1 z2 z3 z4 z5 ⊢
    by_cases him : i < ops.length
    · obtain ⟨σ1, A1, all', g', ct', V', r1, r2, r3, r4, r5, r6⟩ := cut_round hS hPl hw0 hops hib hibP hP0 lf (c := c) (V1 := V1) z2 z3 z4 him hm (by omega) (by omega)
      exact ⟨.normal, σ1, A1, r1, .inl ⟨rfl, ⟨i + 1, all', g', ct', V'⟩, r2, ⟨him, r3, r4, r5, by simp only; omega⟩, by simp only; omega⟩⟩
    · obtain ⟨σ1, r1, r2⟩ := cut_end (call := call) lf (A := A) (some ⟨ib, 0, some 3⟩) ops.length c i V1 (ptr P) (ptr A0.next) him
      exact ⟨.exit 0, σ1, A, r1, .inr ⟨by simp, rfl, _, all, g, ct, v, r2, z2, z3, by omega⟩⟩
end
end Go.Dn.Pipe
end

section
namespace Go.Dn.Pipe
open Go.Proofs
set_option maxHeartbeats 4000000
set_option maxRecDepth 100000
attribute [local irreducible] Hp.get Hp.set Hp.push dappend dcopy dstore cellsAt callD loopD dstring guardL hideL backL

theorem cellsIn_sub {cs us : List Value} {o n k m : Nat} (h : cellsIn cs o n = some us) (hk : k + m ≤ n) : cellsIn cs (o + k) m = some ((us.drop k).take m) := by
  unfold cellsIn at h
  cases hb : Nat.ble (o + n) cs.length with
  | false => rw [hb] at h; cases h
  | true =>
    rw [hb] at h
    simp only [cond_true, Option.some.injEq] at h
    have hb' : o + n ≤ cs.length := by simpa using hb
    refine cellsIn_of (by omega) ?_
    rw [← h, List.drop_take, List.drop_drop, List.take_take]
    congr 1
    omega

/-- behind a cut -/
structure CW (P : Nat) (all : List Value) (g : Nat) (A : Hp) : Prop where
  wf : A.wf
  pipe : A.get P = some (.abs 1 (pxOf all g true).dat)

section
variable {call : CallT} {N : Nat} (h : StepFns call N) {P : Nat} {all : List Value} {g : Nat} (hl : all.length ≤ 100000000) (hg : g ≤ all.length)
include h hl hg

omit h hl hg in
theorem CW.same {A : Hp} (hI : CW P all g A) : KP P A (A.set P (some (.abs 1 (pxOf all g true).dat))) ∧ CW P all g (A.set P (some (.abs 1 (pxOf all g true).dat))) :=
  ⟨⟨hI.wf.put hI.pipe _, by rw [Hp.next_set]; exact Nat.le_refl _, fun j hj hjP => Hp.get_set_ne _ _ hjP⟩, ⟨hI.wf.put hI.pipe _, Hp.get_set_same _ _ _⟩⟩
omit hg in
theorem CW.len {A : Hp} (hI : CW P all g A) : ∃ A', call 16 [ptr P] A = some (.int .i64 0, A') ∧ KP P A A' ∧ CW P all g A' := by
  have := h.len (LenR.mk A P _ hI.pipe (show all.length ≤ _ by omega))
  exact ⟨_, this, hI.same⟩
omit hl hg in
theorem CW.passed {A : Hp} (hI : CW P all g A) : ∃ A', call 18 [ptr P] A = some (.int .u64 (g : Nat), A') ∧ KP P A A' ∧ CW P all g A' :=
  ⟨_, h.passed (PassedR.mk A P _ hI.pipe), hI.same⟩
omit hl hg in
theorem CW.broken {A : Hp} (hI : CW P all g A) : ∃ A', call 19 [ptr P] A = some (.bool true, A') ∧ KP P A A' ∧ CW P all g A' :=
  ⟨_, h.broken (BrokenR.mk A P _ hI.pipe), hI.same⟩
omit hg in
theorem CW.cut {A : Hp} (hI : CW P all g A) : ∃ A', call 26 [ptr P] A = some (.int .i64 0, A') ∧ KP P A A' ∧ CW P all g A' :=
  ⟨_, h.cut (CutR.mk A P _ hI.pipe (show all.length ≤ _ by omega)), hI.same⟩
theorem CW.move {A : Hp} (hI : CW P all g A) {n : Int} (hn : n ≤ 9223372036854775807) : ∃ A', call 17 [ptr P, .int .i64 n] A = some (.slice none 0 0, A') ∧ KP P A A' ∧ CW P all g A' := by
  have h1 := h.move (MoveR.mk A P _ hI.pipe n hn (show all.length ≤ _ by omega) (by simp [pxOf]))
  have e1 : (pxOf all g true).fl.take n.toNat = [] := by simp [pxOf]
  have e2 : (PX.dat { pxOf all g true with fl := (pxOf all g true).fl.drop n.toNat, s := IntKind.u64.wrap ((pxOf all g true).s + (([] : List Value).length : Nat)) }) = (pxOf all g true).dat := by
    have : IntKind.u64.wrap (((g : Nat) : Int) + ((0 : Nat) : Int)) = ((g : Nat) : Int) := by
      rw [show ((g : Nat) : Int) + ((0 : Nat) : Int) = ((g : Nat) : Int) by omega, wrapu (by omega)]
    unfold pxOf
    simp only [if_true, List.drop_nil, List.length_nil]
    rw [this]
  rw [e1, e2] at h1
  exact ⟨_, h1, hI.same⟩

theorem cut2_round (lf : Nat) {A0 A : Hp} (hw0 : A0.wf) (hPl : P < A0.next) {X : Dat} (hP0 : A0.get P = some (.abs 1 X)) {ops : List OpX} (hops : ∀ o ∈ ops, o.ok A0) {ib : Nat} (hib : A0.get ib = some (.arr 54 (ops.map OpX.cells).flatten .sh)) (hibP : ib ≠ P)
    (hk : KP P A0 A) (hI : CW P all g A) {c i : Nat} (hi : i < ops.length) (hm : ops.length ≤ 1048576) (hb : ∀ o ∈ ops, o.us.length ≤ 100000000) :
    ∃ σ1 A1, exec Tryd.bk.E call Tryd.f6.ntmps (Tryd.bk.inf 6) lf (loopOf Tryd.f6 1) [(1, .slice (some ⟨ib, 0, some 3⟩) ops.length c), (4, .bool false), (5, ptr P), (9, .int .u64 (g : Nat)), (12, .int .i64 (i : Nat))] A = some (.normal, σ1, A1) ∧
      keepSl (some [1, 4, 5, 9, 12]) σ1 = [(1, .slice (some ⟨ib, 0, some 3⟩) ops.length c), (4, .bool false), (5, ptr P), (9, .int .u64 (g : Nat)), (12, .int .i64 (i + 1 : Nat))] ∧ KP P A0 A1 ∧ CW P all g A1 := by
  obtain ⟨o, ho⟩ : ∃ o, ops[i]? = some o := ⟨_, List.getElem?_eq_getElem hi⟩
  have hok := hops o (List.mem_of_getElem? ho)
  have hub := hb o (List.mem_of_getElem? ho)
  obtain ⟨f1, f2⟩ := flat_row (css := ops.map OpX.cells) (sz := 3) (fun k c hc => by
    rw [List.getElem?_map] at hc
    cases hh : ops[k]? with
    | none => rw [hh] at hc; cases hc
    | some x => rw [hh] at hc; cases hc; rfl) i o.cells (by rw [List.getElem?_map, ho]; rfl)
  have hcell : cellsIn (ops.map OpX.cells).flatten (0 + i * 3) 3 = some o.cells := cellsIn_of (by omega) (by rw [Nat.zero_add]; exact f2)
  obtain ⟨k, us, a2, c2, n⟩ := o
  have hc1 : cellsIn (ops.map OpX.cells).flatten (0 + i * 3 + 1) 1 = some [.slice a2 us.length c2] := cellsIn_sub (k := 1) (m := 1) hcell (by omega)
  have hc2 : cellsIn (ops.map OpX.cells).flatten (0 + i * 3 + 2) 1 = some [.int .i64 n] := cellsIn_sub (k := 2) (m := 1) hcell (by omega)
  have e1 : ((i : Nat) : Int) < ((ops.length : Nat) : Int) := by omega
  have hokB : IsB us := hok.bytes
  have hokn : n ≤ 9223372036854775807 := hok.nb
  have hBu : BsAt A (.slice a2 us.length c2) us := hk.bs hw0 hP0 hok.bs
  have hgi : A.get ib = some (.arr 54 (ops.map OpX.cells).flatten .sh) := by rw [hk.old ib (hw0.lt hib) hibP]; exact hib
  have hub' : us.length ≤ 100000000 := hub
  obtain ⟨wv, A1, A2, s1, s2, s3, s4, s5, s6⟩ := putcut_phase h hI.wf hI.pipe rfl hBu.elems hokB.plain (by omega)
  have k2 : KP P A0 A2 := hk.trans ⟨s3, s4, s5⟩
  have hgi2 : A2.get ib = some (.arr 54 (ops.map OpX.cells).flatten .sh) := by rw [k2.old ib (hw0.lt hib) hibP]; exact hib
  obtain ⟨A3, t1, t2, t3⟩ := CW.move h hl hg ⟨s3, s6⟩ hokn
  obtain ⟨A4, u1, u2, u3⟩ := t3.len h hl
  obtain ⟨A5, v1, v2, v3⟩ := u3.passed h
  obtain ⟨A6, x1, x2, x3⟩ := v3.broken h
  obtain ⟨A7, y1, y2, y3⟩ := x3.cut h hl
  have k7 : KP P A0 A7 := ((((k2.trans t2).trans u2).trans v2).trans x2).trans y2
  have hw2 : IntKind.i64.wrap ((i : Int) + 1) = ((i + 1 : Nat) : Int) := by rw [wrap64 (by omega) (by omega)]; omega
  refine ⟨?s, A7, kexec_run ?run, ?kp, k7, y3⟩
  case run =>
    conv => lhs; whnf
    rw [kdec e1]
    conv => lhs; whnf
    rw [kdec e1]
    conv => lhs; whnf
    refine bind_of ((cellsAt_of hgi _ _).trans hc1) ?_
    conv => lhs; whnf
    refine bind_of s1 ?_
    conv => lhs; whnf
    refine bind_of s2 ?_
    conv => lhs; whnf
    refine bind_of (h.code27 _) ?_
    conv => lhs; whnf
    rw [kdec e1]
    conv => lhs; whnf
    refine bind_of ((cellsAt_of hgi2 _ _).trans hc2) ?_
    conv => lhs; whnf
    refine bind_of t1 ?_
    conv => lhs; whnf
    refine bind_of u1 ?_
    conv => lhs; whnf
    refine bind_of v1 ?_
    conv => lhs; whnf
    rw [bne_self_eq_false]
    conv => lhs; whnf
    refine bind_of x1 ?_
    conv => lhs; whnf
    refine bind_of y1 ?_
    conv => lhs; whnf
  case kp =>
    show [_, _, _, _, (12, Value.int .i64 (IntKind.i64.wrap ((i : Int) + 1)))] = _
    rw [hw2]
end
end Go.Dn.Pipe
end

section
namespace Go.Dn.Pipe
open Go.Proofs
set_option maxHeartbeats 4000000
set_option maxRecDepth 100000
attribute [local irreducible] Hp.get Hp.set Hp.push dappend dcopy dstore cellsAt callD loopD exec dstring guardL hideL backL

section
variable {call : CallT} {N : Nat} (h : StepFns call N) {P : Nat} {all : List Value} {g : Nat} (hl : all.length ≤ 100000000) (hg : g ≤ all.length)

theorem cut2_end (lf : Nat) {A : Hp} (a : Option Addr) (m c i : Nat) (V5 V9 : Value) (hi : ¬ i < m) :
    ∃ σ1, exec Tryd.bk.E call Tryd.f6.ntmps (Tryd.bk.inf 6) lf (loopOf Tryd.f6 1) [(1, .slice a m c), (4, .bool false), (5, V5), (9, V9), (12, .int .i64 (i : Nat))] A = some (.exit 2, σ1, A) ∧
      keepSl (some [1, 4, 5, 9, 12]) σ1 = [(1, .slice a m c), (4, .bool false), (5, V5), (9, V9), (12, .int .i64 (i : Nat))] := by
  have e1 : ¬ ((i : Nat) : Int) < ((m : Nat) : Int) := by omega
  refine ⟨?s, kexec_run ?run, ?kp⟩
  case run =>
    conv => lhs; whnf
    rw [kdecn e1]
  case kp => rfl

include h hl hg in
theorem cut2_loop (lf : Nat) {A0 A : Hp} (hw0 : A0.wf) (hPl : P < A0.next) {X : Dat} (hP0 : A0.get P = some (.abs 1 X)) {ops : List OpX} (hops : ∀ o ∈ ops, o.ok A0) {a : Option Addr} {c : Nat} (hv : ArgSl 54 3 A0 (.slice a ops.length c) (ops.map OpX.cells).flatten ops.length)
    (hk : KP P A0 A) (hI : CW P all g A) (hm : ops.length ≤ 1048576) (hb : ∀ o ∈ ops, o.us.length ≤ 100000000) (hlf : ops.length < lf) :
    ∃ A1 V12, loopD (some [1, 4, 5, 9, 12]) (exec Tryd.bk.E call Tryd.f6.ntmps (Tryd.bk.inf 6) lf (loopOf Tryd.f6 1)) lf [(1, .slice a ops.length c), (4, .bool false), (5, ptr P), (9, .int .u64 (g : Nat)), (12, .int .i64 ((0 : Nat) : Int))] A =
      some (.exit 2, [(1, .slice a ops.length c), (4, .bool false), (5, ptr P), (9, .int .u64 (g : Nat)), (12, V12)], A1) ∧ CW P all g A1 := by
  have key := loop_rule (ks := some [1, 4, 5, 9, 12]) (f := exec Tryd.bk.E call Tryd.f6.ntmps (Tryd.bk.inf 6) lf (loopOf Tryd.f6 1)) (S := Nat)
    (fun i => [(1, .slice a ops.length c), (4, .bool false), (5, ptr P), (9, .int .u64 (g : Nat)), (12, .int .i64 (i : Nat))])
    (fun i A => i ≤ ops.length ∧ KP P A0 A ∧ CW P all g A) (fun i => ops.length - i)
    (fun e σ A1 => e = .exit 2 ∧ ∃ V12, σ = [(1, .slice a ops.length c), (4, .bool false), (5, ptr P), (9, .int .u64 (g : Nat)), (12, V12)] ∧ CW P all g A1) (fun i A hs => ?_)
    lf 0 A ⟨Nat.zero_le _, hk, hI⟩ (by omega)
  · obtain ⟨e, σ1, A1, k1, rfl, V12, rfl, k2⟩ := key
    exact ⟨A1, V12, k1, k2⟩
  · obtain ⟨z1, z2, z3⟩ := hs
    by_cases him : i < ops.length
    · obtain ⟨ib, rfl, hib⟩ : ∃ ib, a = some ⟨ib, 0, some 3⟩ ∧ A0.get ib = some (.arr 54 (ops.map OpX.cells).flatten .sh) := by
        generalize hv0 : (Value.slice a ops.length c) = v0 at hv
        generalize (ops.map OpX.cells).flatten = fl at hv
        generalize ops.length = ol at hv hv0 him
        cases hv with
        | nil c hc => omega
        | «at» id _ _ hg hl => cases hv0; exact ⟨id, rfl, hg⟩
      obtain ⟨σ1, A1, r1, r2, r3, r4⟩ := cut2_round h hl hg lf hw0 hPl hP0 hops hib (by rintro rfl; rw [hP0] at hib; cases hib) z2 z3 (c := c) him hm hb
      exact ⟨.normal, σ1, A1, r1, .inl ⟨rfl, i + 1, r2, ⟨him, r3, r4⟩, by omega⟩⟩
    · obtain ⟨σ1, r1, r2⟩ := cut2_end (call := call) lf (A := A) a ops.length c i (ptr P) (.int .u64 (g : Nat)) him
      exact ⟨.exit 2, σ1, A, r1, .inr ⟨by simp, rfl, _, r2, z3⟩⟩
end

theorem KP.setP {P : Nat} {A B : Hp} (h : KP P A B) {o : Ob} (hg : B.get P = some o) (o' : Ob) : KP P A (B.set P (some o')) :=
  ⟨h.wf.put hg _, by rw [Hp.next_set]; exact h.nx, fun j hj hp => by rw [Hp.get_set_ne _ _ hp, h.old j hj hp]⟩

theorem cut_walk {call : CallT} {N M : Nat} (h : StepFns call M) (hS : StepOK call N) {A : Hp} (hw : A.wf) {ops os2 : List OpX} (hops : ∀ o ∈ ops, o.ok A) (hops2 : ∀ o ∈ os2, o.ok A) {a a2 : Option Addr} {c c2 : Nat} (hv : ArgSl 54 3 A (.slice a ops.length c) (ops.map OpX.cells).flatten ops.length)
    (hv2 : ArgSl 54 3 A (.slice a2 os2.length c2) (os2.map OpX.cells).flatten os2.length) (hm : ops.length ≤ 1048576) (hm2 : os2.length ≤ 1048576) (hb : sumL ops ≤ 100000000) (hb2 : ∀ o ∈ os2, o.us.length ≤ 100000000) (hN : sumL ops < N) (lf : Nat) (hlf : ops.length < lf) (hlf2 : os2.length < lf) :
    ∃ A', kfn Tryd.bk.E call (Tryd.bk.inf 6) lf Tryd.f6 [.slice a ops.length c, .slice a2 os2.length c2] A = some (.bool true, A') := by
  have hnew := h.new (NewR.mk A)
  let A1 : Hp := A.push (.abs 1 PX.new.dat)
  let Z : List Value := [.slice none 0 0, .int .i64 ((0 : Nat) : Int), .bool false]
  let A2 : Hp := (A1.push (.arr 50 Z .own)).set A1.next (some (.arr 50 Z .own))
  have hw1 : A1.wf := hw.push _
  have hn1 : A1.next = A.next + 1 := by simp [A1]
  have hP1 : A1.get A.next = some (.abs 1 PX.new.dat) := Hp.get_push_same _ _
  have k1 : KP A.next A1 A2 := ((Kp.push hw1 (.arr 50 Z .own)).toP A.next).set (Hp.get_push_same _ _) (Nat.le_refl _) _
  have old : ∀ j, j < A.next → A1.get j = A.get j := fun j hj => Hp.get_push_ne _ _ (by omega)
  have hI : PW A.next [] 0 false (.slice none 0 0) A2 := ⟨⟨none, 0, rfl⟩, .nil 0 (by omega), fun i hi => by simp [blkOf] at hi, fun j x hx => by simp at hx, Nat.le_refl _, by
    rw [Hp.get_set_ne _ _ (by omega), Hp.get_push_ne _ _ (by omega)]; exact hP1⟩
  have hq : A2.get A1.next = some (.arr 50 Z .own) := Hp.get_set_same _ _ _
  have ok1 : ∀ o ∈ ops, o.ok A1 := fun o ho => ⟨(hops o ho).bs.old hw old, (hops o ho).bytes, (hops o ho).nb⟩
  have ok2 : ∀ o ∈ os2, o.ok A1 := fun o ho => ⟨(hops2 o ho).bs.old hw old, (hops2 o ho).bytes, (hops2 o ho).nb⟩
  have key : ∃ A3 V5 all g ct V', loopD (some [0, 1, 4, 5, 6, 7]) (exec Tryd.bk.E call Tryd.f6.ntmps (Tryd.bk.inf 6) lf (loopOf Tryd.f6 0)) lf [(0, .slice a ops.length c), (1, .slice a2 os2.length c2), (4, .bool false), (5, ptr A.next), (6, ptr A1.next), (7, .int .i64 ((0 : Nat) : Int))] A2 =
      some (.exit 0, [(0, .slice a ops.length c), (1, .slice a2 os2.length c2), (4, .bool false), (5, ptr A.next), (6, ptr A1.next), (7, V5)], A3) ∧ KP A.next A1 A3 ∧ PW A.next all g ct V' A3 ∧ all.length ≤ sumL ops := by
    generalize hv0 : (Value.slice a ops.length c) = v0 at hv
    generalize hfl : (ops.map OpX.cells).flatten = fl at hv
    generalize hol : ops.length = ol at hv hv0
    cases hv with
    | nil cc hc =>
      cases hv0
      obtain ⟨σ1, r1, r2⟩ := cut_end (call := call) lf (A := A2) none 0 c 0 (.slice a2 os2.length c2) (ptr A.next) (ptr A1.next) (by omega)
      have := loop_out (ks := some [0, 1, 4, 5, 6, 7]) r1 (by simp) (n := lf) (by omega)
      rw [r2] at this
      exact ⟨A2, _, [], 0, false, _, this, k1, hI, Nat.zero_le _⟩
    | «at» id _ _ hg hl =>
      cases hv0
      subst hol hfl
      have hidl := hw.lt hg
      exact cut_loop hS (A0 := A1) (P := A.next) (by omega) hw1 ok1 (ib := id) (by rw [old id hidl]; exact hg) (by omega) hP1 lf k1 hI hq hm hb hN hlf
  obtain ⟨A3, V5, all, g, ct, V', l1, l2, l3, l4⟩ := key
  have hgl := l3.gl
  have hP3 := l3.pipe
  have hfl : (pxOf all g ct).fl.length = lftOf ct all.length g := by
    unfold pxOf lftOf
    cases ct <;> simp
  have hlen : ∀ B : Hp, B.get A.next = some (.abs 1 (pxOf all g ct).dat) → call 16 [ptr A.next] B = some (.int .i64 (lftOf ct all.length g : Nat), B.set A.next (some (.abs 1 (pxOf all g ct).dat))) := fun B hB => by
    have := h.len (LenR.mk B A.next _ hB (show all.length ≤ _ by omega))
    rw [hfl] at this
    exact this
  have c1 := hlen A3 hP3
  let B1 : Hp := A3.set A.next (some (.abs 1 (pxOf all g ct).dat))
  have hB1 : B1.get A.next = some (.abs 1 (pxOf all g ct).dat) := Hp.get_set_same _ _ _
  have c2' := h.passed (PassedR.mk B1 A.next _ hB1)
  let B2 : Hp := B1.set A.next (some (.abs 1 (pxOf all g ct).dat))
  have hB2 : B2.get A.next = some (.abs 1 (pxOf all g ct).dat) := Hp.get_set_same _ _ _
  have c3 := h.broken (BrokenR.mk B2 A.next _ hB2)
  let B3 : Hp := B2.set A.next (some (.abs 1 (pxOf all g ct).dat))
  have hB3 : B3.get A.next = some (.abs 1 (pxOf all g ct).dat) := Hp.get_set_same _ _ _
  have c4 := h.cut (CutR.mk B3 A.next _ hB3 (show all.length ≤ _ by omega))
  rw [hfl] at c4
  let B4 : Hp := B3.set A.next (some (.abs 1 (pxOf all g true).dat))
  have w1 : B1.wf := l2.wf.put hP3 _
  have w2 : B2.wf := w1.put hB1 _
  have w3 : B3.wf := w2.put hB2 _
  have w4 : B4.wf := w3.put hB3 _
  have kB4 : KP A.next A1 B4 := ((((l2.setP hP3 _).setP hB1 _).setP hB2 _).setP hB3 _)
  have hC : CW A.next all g B4 := ⟨w4, Hp.get_set_same _ _ _⟩
  have hv2' : ArgSl 54 3 A1 (.slice a2 os2.length c2) (os2.map OpX.cells).flatten os2.length := hv2.keep fun i o hi => by rw [old i (hw.lt hi)]; exact hi
  obtain ⟨A5, V12, m1, m2⟩ := cut2_loop h (by omega) hgl lf hw1 (by omega) hP1 ok2 hv2' kB4 hC hm2 hb2 hlf2
  obtain ⟨A6, x1, x2, x3⟩ := m2.broken h
  obtain ⟨A7, y1, y2, y3⟩ := x3.len h (by omega)
  refine ⟨A7, ?run⟩
  case run =>
    cases ct with
    | true =>
      have e0 : lftOf true all.length g = 0 := rfl
      rw [e0] at c1 c4
      conv => lhs; whnf
      refine bind_of (h.wakes _) ?_
      conv => lhs; whnf
      refine bind_of hnew ?_
      conv => lhs; whnf
      refine bind_of (dstore_of (Hp.get_push_same _ _) (t := 50) (o := 0) (cs' := Z) rfl) ?_
      conv => lhs; whnf
      refine bind_of l1 ?_
      conv => lhs; whnf
      refine bind_of c1 ?_
      conv => lhs; whnf
      refine bind_of c2' ?_
      conv => lhs; whnf
      refine bind_of c3 ?_
      conv => lhs; whnf
      refine bind_of c4 ?_
      conv => lhs; whnf
      refine bind_of m1 ?_
      conv => lhs; whnf
      refine bind_of x1 ?_
      conv => lhs; whnf
      refine bind_of y1 ?_
      conv => lhs; whnf
      rfl
    | false =>
      conv => lhs; whnf
      refine bind_of (h.wakes _) ?_
      conv => lhs; whnf
      refine bind_of hnew ?_
      conv => lhs; whnf
      refine bind_of (dstore_of (Hp.get_push_same _ _) (t := 50) (o := 0) (cs' := Z) rfl) ?_
      conv => lhs; whnf
      refine bind_of l1 ?_
      conv => lhs; whnf
      refine bind_of c1 ?_
      conv => lhs; whnf
      refine bind_of c2' ?_
      conv => lhs; whnf
      refine bind_of c3 ?_
      conv => lhs; whnf
      refine bind_of c4 ?_
      conv => lhs; whnf
      rw [bne_self_eq_false]
      conv => lhs; whnf
      refine bind_of m1 ?_
      conv => lhs; whnf
      refine bind_of x1 ?_
      conv => lhs; whnf
      refine bind_of y1 ?_
      conv => lhs; whnf
      rfl

end Go.Dn.Pipe
end

section
namespace Go.Dn.Pipe
open Go.Proofs Go.ChangeShapes
set_option maxRecDepth 100000

theorem T2_free2 : ∀ f args A, f ∈ [15, 28, 30, 57, 58, 25, 6] → T2 f args A = none := by
  intro f args A h
  simp only [List.mem_cons, List.not_mem_nil, or_false] at h
  rcases h with rfl | rfl | rfl | rfl | rfl | rfl | rfl <;> rfl

theorem len_sum {ops : List OpX} : ∀ o ∈ ops, o.us.length ≤ sumL ops := by
  induction ops with
  | nil => simp
  | cons x l ih =>
    intro o ho
    show _ ≤ x.us.length + sumL l
    rcases List.mem_cons.1 ho with rfl | ho
    · omega
    · have := ih o ho; omega

theorem cut_run {base : CallT} (hw : ∀ A, base 12 [] A = some (.bool true, A)) (h0 : ∀ A, base 27 [.nilIface] A = some (.int .i64 0, A)) (h27 : ∀ A, base 27 [cutIf] A = some (.int .i64 27, A))
    (hn : ∀ f args A, f ∈ [15, 28, 30, 57, 58, 25, 6] → base f args A = none) {A : Hp} (hA : A.wf) {ops os2 : List OpX} (hops : ∀ o ∈ ops, o.ok A) (hops2 : ∀ o ∈ os2, o.ok A) {v v2 : Value} (hv : ArgSl 54 3 A v (ops.map OpX.cells).flatten ops.length) (hv2 : ArgSl 54 3 A v2 (os2.map OpX.cells).flatten os2.length)
    (hm : ops.length ≤ 1048576) (hm2 : os2.length ≤ 1048576) (hb : sumL ops ≤ 100000000) (hb2 : sumL os2 ≤ 100000000) :
    ∃ n A', callD Tryd.bk (T4 base) n 6 [v, v2] A = some (.bool true, A') := by
  have hn2 : ∀ f args A, f ∈ [15, 28, 30, 57, 58] → base f args A = none := fun f args A hf => hn f args A (by
    simp only [List.mem_cons, List.not_mem_nil, or_false] at hf
    rcases hf with rfl | rfl | rfl | rfl | rfl <;> simp)
  have form : ∀ {v : Value} {os : List OpX}, ArgSl 54 3 A v (os.map OpX.cells).flatten os.length → ∃ a c, v = .slice a os.length c := fun {v os} hv => by
    generalize os.length = m at hv
    generalize (os.map OpX.cells).flatten = fl at hv
    cases hv with
    | nil c hc => exact ⟨none, c, rfl⟩
    | «at» id _ us hg hl => exact ⟨some _, _, rfl⟩
  obtain ⟨a, c, rfl⟩ := form hv
  obtain ⟨a2, c2, rfl⟩ := form hv2
  let k := ops.length + os2.length + sumL ops + 1
  have f1 := T4_fns hw h0 h27 hn2 k
  have f2 := T4_fns hw h0 h27 hn2 (k + 1)
  have h25 : ∀ args A r, kfn Tryd.bk.E (callD Tryd.bk (T4 base) (k + 2)) (Tryd.bk.inf 25) (k + 2) Tryd.f25 args A = some r → callD Tryd.bk (T4 base) (k + 3) 25 args A = some r := fun args A r h =>
    callD_of (hn 25 _ _ (by simp)) (fn := Tryd.f25) rfl h
  have hS : StepOK (callD Tryd.bk (T4 base) (k + 3)) (k + 1) := step_ok f1 (k + 2) h25
  obtain ⟨A', r⟩ := cut_walk f2 hS hA hops hops2 hv hv2 hm hm2 hb (fun o ho => by have := len_sum o ho; omega) (by omega) (k + 3) (by omega) (by omega)
  exact ⟨k + 4, A', callD_of (hn 6 _ _ (by simp)) (fn := Tryd.f6) rfl r⟩
end Go.Dn.Pipe
end
