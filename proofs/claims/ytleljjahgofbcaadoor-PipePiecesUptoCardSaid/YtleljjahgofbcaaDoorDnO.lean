/-
  Part of the abstract machine for this program.
-/
import Derived.Test.YtleljjahgofbcaaDoorDnN
import Derived.Test.YtleljjahgofbcaaDoorDnJ

section
namespace Go.Dn.Pipe
open Go.Proofs
set_option maxHeartbeats 4000000
set_option maxRecDepth 100000
attribute [local irreducible] Hp.get Hp.set Hp.push dappend dcopy dstore cellsAt callD loopD

/-- a piece's length, not under nought -/
theorem p_cond12 {call : CallT} (lf : Nat) {A : Hp} (V0 V1 V2 V6 V7 V8 V9 V10 V11 a b c d e f g h i u0 u1 u2 u3 u4 u5 u6 u7 u8 u9 : Value) (k : Int) :
    exec Tryd.bk.E call Tryd.f3.ntmps (Tryd.bk.inf 3) lf (condOf Tryd.f3 12) [(0, V0), (1, V1), (2, V2), (6, V6), (7, V7), (8, V8), (9, V9), (10, V10), (11, V11), (20, u0), (21, u1), (22, u2), (23, u3), (24, u4), (25, u5), (26, u6), (27, u7), (28, u8), (29, u9), (32, a), (33, b), (34, c), (35, d), (36, e), (37, f), (38, g), (39, h), (12, .int .i64 k), (40, i), (41, .bool (decide (k < 0)))] A =
      some (.normal, [(0, V0), (1, V1), (2, V2), (6, V6), (7, V7), (8, V8), (9, V9), (10, V10), (11, V11), (12, .int .i64 (if k < 0 then 0 else k))], A) := by
  by_cases hk : k < 0
  · rw [if_pos hk, kdec hk]
    refine (exec_cond_true rfl (σ1 := ?s) (A1 := A) (e := .normal) ?h).trans ?r
    case h =>
      conv => lhs; whnf
    case r => rfl
  · rw [if_neg hk, kdecn hk]
    refine (exec_cond_false rfl (σ1 := ?s2) (A1 := A) (e := .normal) ?h2).trans ?r2
    case h2 =>
      conv => lhs; whnf
    case r2 => rfl

/-- a piece's length, not over what is left -/
theorem p_cond14 {call : CallT} (lf : Nat) {A : Hp} (V1 V2 V6 V7 V9 V10 V11 a b c d e : Value) (k p r : Int) (b1 : Option Addr) (n1 c1 : Nat) (hr : IntKind.i64.wrap ((n1 : Int) - p) = r) :
    exec Tryd.bk.E call Tryd.f3.ntmps (Tryd.bk.inf 3) lf (condOf Tryd.f3 14) [(0, .slice b1 n1 c1), (1, V1), (2, V2), (6, V6), (7, V7), (8, .int .i64 p), (9, V9), (10, V10), (11, V11), (12, .int .i64 k), (42, a), (43, b), (44, c), (45, d), (46, e), (47, .bool (decide (k > r)))] A =
      some (.normal, [(0, .slice b1 n1 c1), (1, V1), (2, V2), (6, V6), (7, V7), (8, .int .i64 p), (9, V9), (10, V10), (11, V11), (12, .int .i64 (if k > r then r else k))], A) := by
  by_cases hk : k > r
  · rw [if_pos hk, kdec hk]
    refine (exec_cond_true rfl (σ1 := ?s) (A1 := A) (e := .normal) ?h).trans ?r
    case h =>
      conv => lhs; whnf
    case r => rw [← hr]; rfl
  · rw [if_neg hk, kdecn hk]
    refine (exec_cond_false rfl (σ1 := ?s2) (A1 := A) (e := .normal) ?h2).trans ?r2
    case h2 =>
      conv => lhs; whnf
    case r2 => rfl
end Go.Dn.Pipe
end

section
namespace Go.Dn.Pipe
open Go.Proofs
set_option maxHeartbeats 4000000
set_option maxRecDepth 100000
attribute [local irreducible] Hp.get Hp.set Hp.push dappend dcopy dstore cellsAt callD loopD exec

theorem p_cond10 {call : CallT} (lf : Nat) {A : Hp} (V2 V6 V7 V9 V10 a b c u0 u1 u2 u3 u4 u5 u6 u7 u8 u9 : Value) (k : Int) (p kk : Nat) (bi bo : Nat) (n1 c1 j : Nat) {ib o2 n2 c2 : Nat} {xs cs : List Value} {T : TypeId} {md : Md} (hg : A.get ib = some (.arr T cs md)) (hu : (cs.drop o2).take n2 = xs) (hj : xs[j]? = some (.int .i64 k)) (hjl : j < n2)
    (hp : p ≤ n1) (hn : n1 ≤ 1000000000) (hc : n1 ≤ c1 / 2) (hkk : (if (if k < 0 then 0 else k) > ((n1 - p : Nat) : Int) then ((n1 - p : Nat) : Int) else if k < 0 then 0 else k) = (kk : Nat)) {wv : Value} {A1 A2 : Hp}
    (h15 : call 15 [.slice (some ⟨bi, bo + p * 1, some 1⟩) (p + kk - p) (2 * (c1 / 2 - p) + c1 % 2)] A = some (wv, A1)) (h14 : call 14 [V7, wv] A1 = some (.tuple #[.int .i64 (kk : Nat), .nilIface], A2)) :
    exec Tryd.bk.E call Tryd.f3.ntmps (Tryd.bk.inf 3) lf (condOf Tryd.f3 10) [(0, .slice (some ⟨bi, bo, some 1⟩) n1 c1), (1, .slice (some ⟨ib, o2, some 1⟩) n2 c2), (2, V2), (6, V6), (7, V7), (8, .int .i64 (p : Nat)), (9, V9), (10, V10), (11, .int .i64 (j : Nat)), (20, u0), (21, u1), (22, u2), (23, u3), (24, u4), (25, u5), (26, u6), (27, u7), (28, u8), (29, u9), (32, a), (33, b), (34, c), (35, .bool true)] A =
      some (.normal, [(0, .slice (some ⟨bi, bo, some 1⟩) n1 c1), (1, .slice (some ⟨ib, o2, some 1⟩) n2 c2), (2, V2), (6, V6), (7, V7), (8, .int .i64 (p + kk : Nat)), (9, V9), (10, V10), (11, .int .i64 (j : Nat))], A2) := by
  have hkl : p + kk ≤ n1 := by
    split at hkk <;> split at hkk <;> omega
  have hr : IntKind.i64.wrap ((n1 : Int) - (p : Nat)) = ((n1 - p : Nat) : Int) := by rw [wrap64 (by omega) (by omega)]; omega
  refine (exec_cond_true rfl (σ1 := ?s) (A1 := A2) (e := .normal) ?h).trans ?r
  case h =>
    conv => lhs; whnf
    rw [kdec (by omega)]
    conv => lhs; whnf
    rw [cell_of hg hu j _ hj ?_]
    rotate_left
    · simp
    conv => lhs; whnf
    refine bind_of (p_cond12 lf _ _ _ _ _ _ _ _ _ _ _ _ _ _ _ _ _ _ _ _ _ _ _ _ _ _ _ _ _) ?_
    conv => lhs; whnf
    rw [hr]
    refine bind_of (p_cond14 lf _ _ _ _ _ _ _ _ _ _ _ _ _ _ _ _ _ _ hr) ?_
    rw [hkk]
    conv => lhs; whnf
    rw [show IntKind.i64.wrap ((p : Int) + (kk : Int)) = ((p + kk : Nat) : Int) by rw [wrap64 (by omega) (by omega)]; omega]
    rw [kdec (by omega)]
    conv => lhs; whnf
    rw [kdec (by omega)]
    conv => lhs; whnf
    rw [kdec (by omega)]
    conv => lhs; whnf
    refine bind_of h15 ?_
    conv => lhs; whnf
    refine bind_of h14 ?_
    conv => lhs; whnf
    rw [show (((kk : Nat) : Int) != ((kk : Nat) : Int)) = false from bne_self_eq_false _]
    conv => lhs; whnf
  case r =>
    rw [show IntKind.i64.wrap ((p : Int) + (kk : Int)) = ((p + kk : Nat) : Int) by rw [wrap64 (by omega) (by omega)]; omega]
    rfl
end Go.Dn.Pipe
end

section
namespace Go.Dn.Pipe
open Go.Proofs
set_option maxHeartbeats 4000000
set_option maxRecDepth 100000
attribute [local irreducible] Hp.get Hp.set Hp.push dappend dcopy dstore cellsAt callD loopD exec

theorem p_cond20 {call : CallT} (lf : Nat) {A : Hp} (V0 V1 V6 V7 V8 V10 a b c : Value) (k : Int) (g lft ol oc : Nat) (ov : Option Addr) (j : Nat) {ib o2 n2 c2 : Nat} {xs cs : List Value} {T : TypeId} {md : Md} (hg : A.get ib = some (.arr T cs md)) (hu : (cs.drop o2).take n2 = xs) (hj : xs[j]? = some (.int .i64 k)) (hjl : j < n2)
    (hgl : g + ol ≤ 1000000000) (hol : ol = min k.toNat lft) {A1 A2 A3 : Hp} {V10' : Value} (hg1 : A1.get ib = some (.arr T cs md)) (hg2 : A2.get ib = some (.arr T cs md))
    (h16 : call 16 [V7] A = some (.int .i64 (lft : Nat), A1)) (h17 : call 17 [V7, .int .i64 k] A1 = some (.slice ov ol oc, A2)) (hap : dappend Tryd.bk.E 22 22 A2 V10 (.slice ov ol oc) = some (V10', A3)) :
    exec Tryd.bk.E call Tryd.f3.ntmps (Tryd.bk.inf 3) lf (condOf Tryd.f3 20) [(0, V0), (1, V1), (2, .slice (some ⟨ib, o2, some 1⟩) n2 c2), (6, V6), (7, V7), (8, V8), (9, .int .i64 (g : Nat)), (10, V10), (11, .int .i64 (j : Nat)), (74, a), (75, b), (76, c), (77, .bool true)] A =
      some (.normal, [(0, V0), (1, V1), (2, .slice (some ⟨ib, o2, some 1⟩) n2 c2), (6, V6), (7, V7), (8, V8), (9, .int .i64 (g + ol : Nat)), (10, V10'), (11, .int .i64 (j : Nat))], A3) := by
  have hw : IntKind.i64.wrap ((g : Int) + (ol : Int)) = ((g + ol : Nat) : Int) := by rw [wrap64 (by omega) (by omega)]; omega
  have hcell : cellsAt A2 ib (o2 + ((j : Nat) : Int).toNat * 1) 1 = some [.int .i64 k] := cell_of hg2 hu j _ hj (by simp)
  rcases Nat.lt_or_ge ol lft with ho | ho <;> rcases Int.lt_trichotomy k 0 with hk | hk | hk
  · refine (exec_cond_true rfl (σ1 := ?s0) (A1 := A3) (e := .normal) ?h0).trans ?r0
    case h0 =>
      conv => lhs; whnf
      refine bind_of h16 ?_
      conv => lhs; whnf
      rw [kdec (by omega)]
      conv => lhs; whnf
      rw [cell_of hg1 hu j _ hj ?_]
      rotate_left
      · simp
      conv => lhs; whnf
      refine bind_of h17 ?_
      conv => lhs; whnf
      repeat (first | (rw [hcell]; conv => lhs; whnf) | (rw [kdec (by omega)]; conv => lhs; whnf) | (rw [kdecn (by omega)]; conv => lhs; whnf))
      refine bind_of hap ?_
      conv => lhs; whnf
    case r0 =>
      rw [hw]
      rfl
  · refine (exec_cond_true rfl (σ1 := ?s1) (A1 := A3) (e := .normal) ?h1).trans ?r1
    case h1 =>
      conv => lhs; whnf
      refine bind_of h16 ?_
      conv => lhs; whnf
      rw [kdec (by omega)]
      conv => lhs; whnf
      rw [cell_of hg1 hu j _ hj ?_]
      rotate_left
      · simp
      conv => lhs; whnf
      refine bind_of h17 ?_
      conv => lhs; whnf
      repeat (first | (rw [hcell]; conv => lhs; whnf) | (rw [kdec (by omega)]; conv => lhs; whnf) | (rw [kdecn (by omega)]; conv => lhs; whnf))
      refine bind_of hap ?_
      conv => lhs; whnf
    case r1 =>
      rw [hw]
      rfl
  · refine (exec_cond_true rfl (σ1 := ?s2) (A1 := A3) (e := .normal) ?h2).trans ?r2
    case h2 =>
      conv => lhs; whnf
      refine bind_of h16 ?_
      conv => lhs; whnf
      rw [kdec (by omega)]
      conv => lhs; whnf
      rw [cell_of hg1 hu j _ hj ?_]
      rotate_left
      · simp
      conv => lhs; whnf
      refine bind_of h17 ?_
      conv => lhs; whnf
      repeat (first | (rw [hcell]; conv => lhs; whnf) | (rw [kdec (by omega)]; conv => lhs; whnf) | (rw [kdecn (by omega)]; conv => lhs; whnf))
      refine bind_of hap ?_
      conv => lhs; whnf
    case r2 =>
      rw [hw]
      rfl
  · refine (exec_cond_true rfl (σ1 := ?s3) (A1 := A3) (e := .normal) ?h3).trans ?r3
    case h3 =>
      conv => lhs; whnf
      refine bind_of h16 ?_
      conv => lhs; whnf
      rw [kdec (by omega)]
      conv => lhs; whnf
      rw [cell_of hg1 hu j _ hj ?_]
      rotate_left
      · simp
      conv => lhs; whnf
      refine bind_of h17 ?_
      conv => lhs; whnf
      repeat (first | (rw [hcell]; conv => lhs; whnf) | (rw [kdec (by omega)]; conv => lhs; whnf) | (rw [kdecn (by omega)]; conv => lhs; whnf))
      refine bind_of hap ?_
      conv => lhs; whnf
    case r3 =>
      rw [hw]
      rfl
  · refine (exec_cond_true rfl (σ1 := ?s4) (A1 := A3) (e := .normal) ?h4).trans ?r4
    case h4 =>
      conv => lhs; whnf
      refine bind_of h16 ?_
      conv => lhs; whnf
      rw [kdec (by omega)]
      conv => lhs; whnf
      rw [cell_of hg1 hu j _ hj ?_]
      rotate_left
      · simp
      conv => lhs; whnf
      refine bind_of h17 ?_
      conv => lhs; whnf
      repeat (first | (rw [hcell]; conv => lhs; whnf) | (rw [kdec (by omega)]; conv => lhs; whnf) | (rw [kdecn (by omega)]; conv => lhs; whnf))
      refine bind_of hap ?_
      conv => lhs; whnf
    case r4 =>
      rw [hw]
      rfl
  · refine (exec_cond_true rfl (σ1 := ?s5) (A1 := A3) (e := .normal) ?h5).trans ?r5
    case h5 =>
      conv => lhs; whnf
      refine bind_of h16 ?_
      conv => lhs; whnf
      rw [kdec (by omega)]
      conv => lhs; whnf
      rw [cell_of hg1 hu j _ hj ?_]
      rotate_left
      · simp
      conv => lhs; whnf
      refine bind_of h17 ?_
      conv => lhs; whnf
      repeat (first | (rw [hcell]; conv => lhs; whnf) | (rw [kdec (by omega)]; conv => lhs; whnf) | (rw [kdecn (by omega)]; conv => lhs; whnf))
      refine bind_of hap ?_
      conv => lhs; whnf
    case r5 =>
      rw [hw]
      rfl
end Go.Dn.Pipe
end

section
/-
  'PipePieces': what stands behind each round
-/
namespace Go.Dn.Pipe
open Go.Proofs
set_option maxHeartbeats 4000000
set_option maxRecDepth 100000
attribute [local irreducible] Hp.get Hp.set Hp.push dappend dcopy dstore cellsAt callD loopD

theorem take_put {us : List Value} {p g kk : Nat} (h1 : g ≤ p) (h2 : p ≤ us.length) : (us.take p).drop g ++ (us.drop p).take kk = (us.take (p + kk)).drop g := by
  rw [List.take_add, List.drop_append_of_le_length (by simp; omega)]
theorem take_got {us : List Value} {p g : Nat} (n : Nat) (h1 : g ≤ p) (h2 : p ≤ us.length) : us.take g ++ ((us.take p).drop g).take n = us.take (g + min n (p - g)) := by
  rw [List.take_add]
  congr 1
  rw [List.drop_take, List.take_take]
theorem drop_got {us : List Value} {p g : Nat} (n : Nat) (h1 : g ≤ p) (h2 : p ≤ us.length) : ((us.take p).drop g).drop n = (us.take p).drop (g + min n (p - g)) := by
  rw [List.drop_drop]
  rcases Nat.lt_or_ge n (p - g) with h | h
  · rw [Nat.min_eq_left (by omega)]
  · rw [Nat.min_eq_right h, List.drop_eq_nil_of_le (by simp; omega), List.drop_eq_nil_of_le (by simp; omega)]

structure PI (A0 : Hp) (P : Nat) (us : List Value) (put got : Nat) (V : Value) (A : Hp) : Prop where
  wf : A.wf
  nx : A0.next ≤ A.next
  old : ∀ j, j < A0.next → j ≠ P → A.get j = A0.get j
  pipe : A.get P = some (.abs 1 (PX.dat ⟨(us.take put).drop got, put, (got : Nat), false⟩))
  out : ∃ io, CanAt 5 1 A V io (us.take got) got ∧ ∀ i, io = some i → A0.next ≤ i
  gp : got ≤ put
  pn : put ≤ us.length

section
variable {call : CallT} (h : PipeFns call) {A0 : Hp} {P : Nat} {us : List Value} (hPl : P < A0.next) (hu : us.length ≤ 1048576) (hup : ∀ u ∈ us, plain0 u = true)
include h hPl hu hup

theorem PI.put {put got kk : Nat} {V : Value} {A : Hp} (hI : PI A0 P us put got V A) (hk : put + kk ≤ us.length) {v : Value} (hv : elemsOf A 1 v = some (kk, (us.drop put).take kk)) :
    ∃ wv A1 A2, call 15 [v] A = some (wv, A1) ∧ call 14 [ptr P, wv] A1 = some (.tuple #[.int .i64 (kk : Nat), .nilIface], A2) ∧ PI A0 P us (put + kk) got V A2 := by
  have hl : ((us.drop put).take kk).length = kk := by simp; omega
  obtain ⟨wv, A1, A2, c1, c2, c3, c4, c5, c6⟩ := put_phase h hI.wf hI.pipe rfl (by rw [hl]; exact hv) (fun u hu' => hup u (List.mem_of_mem_drop (List.mem_of_mem_take hu'))) (by simp only [hl]; omega)
  rw [hl] at c2
  refine ⟨wv, A1, A2, c1, c2, c3, by have := hI.nx; omega, fun j hj hjP => ?_, ?_, ?_, by have := hI.gp; omega, hk⟩
  · rw [c5 j (by have := hI.nx; omega) hjP]; exact hI.old j hj hjP
  · rw [c6]
    simp only [hl]
    rw [take_put hI.gp hI.pn]
  · obtain ⟨io, o1, o2⟩ := hI.out
    refine ⟨io, o1.keep fun i hi => ?_, o2⟩
    subst hi
    exact c5 i (o1.lt hI.wf) (by have := o2 i rfl; omega)

theorem PI.move {put got : Nat} {V : Value} {A : Hp} (hI : PI A0 P us put got V A) {k : Int} (hk : k ≤ 9223372036854775807) :
    ∃ a c A2 V' A3, call 17 [ptr P, .int .i64 k] A = some (.slice a (min k.toNat (put - got)) c, A2) ∧ dappend Tryd.bk.E 22 22 A2 V (.slice a (min k.toNat (put - got)) c) = some (V', A3) ∧
      (∀ j, j < A0.next → j ≠ P → A2.get j = A0.get j) ∧ PI A0 P us put (got + min k.toNat (put - got)) V' A3 := by
  obtain ⟨io, o1, o2⟩ := hI.out
  have hg := hI.gp
  have hp := hI.pn
  have hl : (((us.take put).drop got).take k.toNat).length = min k.toNat (put - got) := by simp; omega
  have hlt : (us.take got).length = got := by simp; omega
  obtain ⟨a, c, A2, V', io', A3, c1, c2, c3, c4, c5, c6, c7, c8, c9⟩ := move_phase h hI.wf hI.pipe (by simp only; omega) (fun u hu' => hup u (List.mem_of_mem_take (List.mem_of_mem_drop hu'))) hk (by rw [hlt]; exact o1)
    (fun e => by have := o2 P e; omega) (by simp; omega)
  simp only [hl] at c1 c2 c3 c8
  rw [take_got _ hg hp] at c3
  rw [drop_got _ hg hp] at c8
  have hl3 : (us.take (got + min k.toNat (put - got))).length = got + min k.toNat (put - got) := by simp; omega
  rw [hl3] at c3
  refine ⟨a, c, A2, V', A3, c1, c2, fun j hj hjP => ?_, c4, by have := hI.nx; omega, fun j hj hjP => ?_, ?_, ⟨io', c3, fun i hi => ?_⟩, by omega, hp⟩
  · rw [c6 j (by have := hI.nx; omega) hjP]; exact hI.old j hj hjP
  · rw [c7 j (by have := hI.nx; omega) hjP (fun e => by have := o2 j e; omega)]; exact hI.old j hj hjP
  · rw [c8]
    rw [show IntKind.u64.wrap ((got : Nat) + ((min k.toNat (put - got) : Nat) : Int)) = ((got + min k.toNat (put - got) : Nat) : Int) by
      have hb : got + min k.toNat (put - got) ≤ 1048576 := by omega
      rw [show ((got : Nat) : Int) + ((min k.toNat (put - got) : Nat) : Int) = ((got + min k.toNat (put - got) : Nat) : Int) by omega]
      exact wrapu (by omega)]
  · rcases c9 i hi with e | e
    · exact o2 i e
    · have := hI.nx; omega

omit h hPl hu hup in
theorem PI.same {put got : Nat} {V : Value} {A : Hp} (hI : PI A0 P us put got V A) : PI A0 P us put got V (A.set P (some (.abs 1 (PX.dat ⟨(us.take put).drop got, put, (got : Nat), false⟩)))) := by
  refine ⟨hI.wf.put hI.pipe _, by rw [Hp.next_set]; exact hI.nx, fun j hj hjP => ?_, Hp.get_set_same _ _ _, ?_, hI.gp, hI.pn⟩
  · rw [get_set_self hI.pipe]; exact hI.old j hj hjP
  · obtain ⟨io, o1, o2⟩ := hI.out
    exact ⟨io, o1.keep fun i hi => get_set_self hI.pipe i, o2⟩

omit hPl hup in
theorem PI.len {put got : Nat} {V : Value} {A : Hp} (hI : PI A0 P us put got V A) : ∃ A1, call 16 [ptr P] A = some (.int .i64 (put - got : Nat), A1) ∧ PI A0 P us put got V A1 := by
  have hg := hI.gp
  have hp := hI.pn
  have h1 := h.len (LenR.mk A P _ hI.pipe (by simp only; omega))
  have hl : ((us.take put).drop got).length = put - got := by simp; omega
  simp only [hl] at h1
  exact ⟨_, h1, hI.same⟩
omit hPl hu hup in
theorem PI.passed {put got : Nat} {V : Value} {A : Hp} (hI : PI A0 P us put got V A) : ∃ A1, call 18 [ptr P] A = some (.int .u64 (got : Nat), A1) ∧ PI A0 P us put got V A1 :=
  ⟨_, h.passed (PassedR.mk A P _ hI.pipe), hI.same⟩
omit hPl hu hup in
theorem PI.broken {put got : Nat} {V : Value} {A : Hp} (hI : PI A0 P us put got V A) : ∃ A1, call 19 [ptr P] A = some (.bool false, A1) ∧ PI A0 P us put got V A1 :=
  ⟨_, h.broken (BrokenR.mk A P _ hI.pipe), hI.same⟩
end
end Go.Dn.Pipe
end

section
namespace Go.Dn.Pipe
open Go.Proofs
set_option maxHeartbeats 4000000
set_option maxRecDepth 100000
attribute [local irreducible] Hp.get Hp.set Hp.push dappend dcopy dstore cellsAt callD loopD exec

theorem p_cond10_false {call : CallT} (lf : Nat) {A : Hp} (V0 V1 V2 V6 V7 V8 V9 V10 V11 a b c u0 u1 u2 u3 u4 u5 u6 u7 u8 u9 : Value) :
    exec Tryd.bk.E call Tryd.f3.ntmps (Tryd.bk.inf 3) lf (condOf Tryd.f3 10) [(0, V0), (1, V1), (2, V2), (6, V6), (7, V7), (8, V8), (9, V9), (10, V10), (11, V11), (20, u0), (21, u1), (22, u2), (23, u3), (24, u4), (25, u5), (26, u6), (27, u7), (28, u8), (29, u9), (32, a), (33, b), (34, c), (35, .bool false)] A =
      some (.normal, [(0, V0), (1, V1), (2, V2), (6, V6), (7, V7), (8, V8), (9, V9), (10, V10), (11, V11)], A) := by
  refine (exec_cond_false rfl (σ1 := ?s2) (A1 := A) (e := .normal) ?h2).trans ?r2
  case h2 =>
    conv => lhs; whnf
  case r2 => rfl
theorem p_cond20_false {call : CallT} (lf : Nat) {A : Hp} (V0 V1 V2 V6 V7 V8 V9 V10 V11 a b c : Value) :
    exec Tryd.bk.E call Tryd.f3.ntmps (Tryd.bk.inf 3) lf (condOf Tryd.f3 20) [(0, V0), (1, V1), (2, V2), (6, V6), (7, V7), (8, V8), (9, V9), (10, V10), (11, V11), (74, a), (75, b), (76, c), (77, .bool false)] A =
      some (.normal, [(0, V0), (1, V1), (2, V2), (6, V6), (7, V7), (8, V8), (9, V9), (10, V10), (11, V11)], A) := by
  refine (exec_cond_false rfl (σ1 := ?s2) (A1 := A) (e := .normal) ?h2).trans ?r2
  case h2 =>
    conv => lhs; whnf
  case r2 => rfl

/-- nothing to put in -/
theorem p_cond10_nil {call : CallT} (lf : Nat) {A : Hp} (V2 V6 V7 V9 V10 a b c u0 u1 u2 u3 u4 u5 u6 u7 u8 u9 : Value) (k : Int) (c1 j : Nat) {ib o2 n2 c2 : Nat} {xs cs : List Value} {T : TypeId} {md : Md} (hg : A.get ib = some (.arr T cs md)) (hu : (cs.drop o2).take n2 = xs) (hj : xs[j]? = some (.int .i64 k)) (hjl : j < n2)
    (hc : c1 ≤ 1) {wv : Value} {A1 A2 : Hp}
    (h15 : call 15 [.slice none 0 c1] A = some (wv, A1)) (h14 : call 14 [V7, wv] A1 = some (.tuple #[.int .i64 ((0 : Nat) : Int), .nilIface], A2)) :
    exec Tryd.bk.E call Tryd.f3.ntmps (Tryd.bk.inf 3) lf (condOf Tryd.f3 10) [(0, .slice none 0 c1), (1, .slice (some ⟨ib, o2, some 1⟩) n2 c2), (2, V2), (6, V6), (7, V7), (8, .int .i64 ((0 : Nat) : Int)), (9, V9), (10, V10), (11, .int .i64 (j : Nat)), (20, u0), (21, u1), (22, u2), (23, u3), (24, u4), (25, u5), (26, u6), (27, u7), (28, u8), (29, u9), (32, a), (33, b), (34, c), (35, .bool true)] A =
      some (.normal, [(0, .slice none 0 c1), (1, .slice (some ⟨ib, o2, some 1⟩) n2 c2), (2, V2), (6, V6), (7, V7), (8, .int .i64 ((0 : Nat) : Int)), (9, V9), (10, V10), (11, .int .i64 (j : Nat))], A2) := by
  have hr : IntKind.i64.wrap (((0 : Nat) : Int) - ((0 : Nat) : Int)) = 0 := rfl
  have hkk : (if (if k < 0 then 0 else k) > 0 then 0 else if k < 0 then 0 else k) = ((0 : Nat) : Int) := by
    split <;> split <;> omega
  obtain rfl | rfl : c1 = 0 ∨ c1 = 1 := by omega
  · refine (exec_cond_true rfl (σ1 := ?s) (A1 := A2) (e := .normal) ?h).trans ?r
    case h =>
      conv => lhs; whnf
      rw [kdec (by omega)]
      conv => lhs; whnf
      rw [cell_of hg hu j _ hj ?_]
      rotate_left
      · simp
      conv => lhs; whnf
      refine bind_of (p_cond12 lf _ _ _ _ _ _ _ _ _ _ _ _ _ _ _ _ _ _ _ _ _ _ _ _ _ _ _ _ _) ?_
      conv => lhs; whnf
      rw [hr]
      refine bind_of (p_cond14 lf _ _ _ _ _ _ _ _ _ _ _ _ _ _ _ _ _ _ hr) ?_
      rw [hkk]
      conv => lhs; whnf
      refine bind_of h15 ?_
      conv => lhs; whnf
      refine bind_of h14 ?_
      conv => lhs; whnf
    case r => rfl
  · refine (exec_cond_true rfl (σ1 := ?s2) (A1 := A2) (e := .normal) ?h2).trans ?r2
    case h2 =>
      conv => lhs; whnf
      rw [kdec (by omega)]
      conv => lhs; whnf
      rw [cell_of hg hu j _ hj ?_]
      rotate_left
      · simp
      conv => lhs; whnf
      refine bind_of (p_cond12 lf _ _ _ _ _ _ _ _ _ _ _ _ _ _ _ _ _ _ _ _ _ _ _ _ _ _ _ _ _) ?_
      conv => lhs; whnf
      rw [hr]
      refine bind_of (p_cond14 lf _ _ _ _ _ _ _ _ _ _ _ _ _ _ _ _ _ _ hr) ?_
      rw [hkk]
      conv => lhs; whnf
      refine bind_of h15 ?_
      conv => lhs; whnf
      refine bind_of h14 ?_
      conv => lhs; whnf
    case r2 => rfl

/-- the round's end -/
theorem p_round {call : CallT} (lf : Nat) {A A1 A2 : Hp} (V0 V6 V7 V8 V9 V10 : Value) (v1 v2 : Option Addr) (n1 c1 n2 c2 : Nat) (j put got : Nat) (V' : Value)
    (hj : j < n1 ∨ j < n2) (hjb : j < 1000000000)
    (h10 : ∀ a b c u0 u1 u2 u3 u4 u5 u6 u7 u8 u9, exec Tryd.bk.E call Tryd.f3.ntmps (Tryd.bk.inf 3) lf (condOf Tryd.f3 10) [(0, V0), (1, .slice v1 n1 c1), (2, .slice v2 n2 c2), (6, V6), (7, V7), (8, V8), (9, V9), (10, V10), (11, .int .i64 (j : Nat)), (20, u0), (21, u1), (22, u2), (23, u3), (24, u4), (25, u5), (26, u6), (27, u7), (28, u8), (29, u9), (32, a), (33, b), (34, c), (35, .bool (decide ((j : Int) < (n1 : Int))))] A =
      some (.normal, [(0, V0), (1, .slice v1 n1 c1), (2, .slice v2 n2 c2), (6, V6), (7, V7), (8, .int .i64 (put : Nat)), (9, V9), (10, V10), (11, .int .i64 (j : Nat))], A1))
    (h20 : ∀ a b c, exec Tryd.bk.E call Tryd.f3.ntmps (Tryd.bk.inf 3) lf (condOf Tryd.f3 20) [(0, V0), (1, .slice v1 n1 c1), (2, .slice v2 n2 c2), (6, V6), (7, V7), (8, .int .i64 (put : Nat)), (9, V9), (10, V10), (11, .int .i64 (j : Nat)), (74, a), (75, b), (76, c), (77, .bool (decide ((j : Int) < (n2 : Int))))] A1 =
      some (.normal, [(0, V0), (1, .slice v1 n1 c1), (2, .slice v2 n2 c2), (6, V6), (7, V7), (8, .int .i64 (put : Nat)), (9, .int .i64 (got : Nat)), (10, V'), (11, .int .i64 (j : Nat))], A2))
    (hgp : got ≤ put) (hpn : put ≤ 1000000000) {A3 A4 A5 : Hp} (h16 : call 16 [V7] A2 = some (.int .i64 (put - got : Nat), A3)) (h18 : call 18 [V7] A3 = some (.int .u64 (got : Nat), A4)) (h19 : call 19 [V7] A4 = some (.bool false, A5)) :
    ∃ σ1, exec Tryd.bk.E call Tryd.f3.ntmps (Tryd.bk.inf 3) lf (loopOf Tryd.f3 0) [(0, V0), (1, .slice v1 n1 c1), (2, .slice v2 n2 c2), (6, V6), (7, V7), (8, V8), (9, V9), (10, V10), (11, .int .i64 (j : Nat))] A = some (.normal, σ1, A5) ∧
      keepSl (some [0, 1, 2, 6, 7, 8, 9, 10, 11]) σ1 = [(0, V0), (1, .slice v1 n1 c1), (2, .slice v2 n2 c2), (6, V6), (7, V7), (8, .int .i64 (put : Nat)), (9, .int .i64 (got : Nat)), (10, V'), (11, .int .i64 (j + 1 : Nat))] := by
  have hw1 : IntKind.i64.wrap ((put : Int) - (got : Int)) = ((put - got : Nat) : Int) := by rw [wrap64 (by omega) (by omega)]; omega
  have hw2 : IntKind.i64.wrap ((j : Int) + 1) = ((j + 1 : Nat) : Int) := by rw [wrap64 (by omega) (by omega)]; omega
  have hw3 : IntKind.u64.wrap (got : Int) = (got : Int) := wrapu (by omega)
  rcases Nat.lt_or_ge j n1 with hj1 | hj1
  · refine ⟨?s, kexec_run ?run, ?kp⟩
    case run =>
      conv => lhs; whnf
      rw [kdec (show (j : Int) < (n1 : Int) by omega)]
      conv => lhs; whnf
      refine bind_of (h10 _ _ _ _ _ _ _ _ _ _ _ _ _) ?_
      conv => lhs; whnf
      refine bind_of (h20 _ _ _) ?_
      conv => lhs; whnf
      refine bind_of h16 ?_
      conv => lhs; whnf
      rw [hw1, bne_self_eq_false]
      conv => lhs; whnf
      refine bind_of h18 ?_
      conv => lhs; whnf
      rw [hw3, bne_self_eq_false]
      conv => lhs; whnf
      refine bind_of h19 ?_
      conv => lhs; whnf
    case kp =>
      show [_, _, _, _, _, _, _, _, (11, Value.int .i64 (IntKind.i64.wrap ((j : Int) + 1)))] = _
      rw [hw2]
  · refine ⟨?s2, kexec_run ?run2, ?kp2⟩
    case run2 =>
      conv => lhs; whnf
      rw [kdecn (show ¬ (j : Int) < (n1 : Int) by omega)]
      conv => lhs; whnf
      rw [kdec (show (j : Int) < (n2 : Int) by omega)]
      conv => lhs; whnf
      refine bind_of (h10 _ _ _ _ _ _ _ _ _ _ _ _ _) ?_
      conv => lhs; whnf
      refine bind_of (h20 _ _ _) ?_
      conv => lhs; whnf
      refine bind_of h16 ?_
      conv => lhs; whnf
      rw [hw1, bne_self_eq_false]
      conv => lhs; whnf
      refine bind_of h18 ?_
      conv => lhs; whnf
      rw [hw3, bne_self_eq_false]
      conv => lhs; whnf
      refine bind_of h19 ?_
      conv => lhs; whnf
    case kp2 =>
      show [_, _, _, _, _, _, _, _, (11, Value.int .i64 (IntKind.i64.wrap ((j : Int) + 1)))] = _
      rw [hw2]

/-- the loop's end -/
theorem p_end {call : CallT} (lf : Nat) {A : Hp} (V0 V6 V7 V8 V9 V10 : Value) (v1 v2 : Option Addr) (n1 c1 n2 c2 : Nat) (j : Nat) (hj1 : ¬ j < n1) (hj2 : ¬ j < n2) :
    ∃ σ1, exec Tryd.bk.E call Tryd.f3.ntmps (Tryd.bk.inf 3) lf (loopOf Tryd.f3 0) [(0, V0), (1, .slice v1 n1 c1), (2, .slice v2 n2 c2), (6, V6), (7, V7), (8, V8), (9, V9), (10, V10), (11, .int .i64 (j : Nat))] A = some (.exit 0, σ1, A) ∧
      keepSl (some [0, 1, 2, 6, 7, 8, 9, 10, 11]) σ1 = [(0, V0), (1, .slice v1 n1 c1), (2, .slice v2 n2 c2), (6, V6), (7, V7), (8, V8), (9, V9), (10, V10), (11, .int .i64 (j : Nat))] := by
  refine ⟨?s, kexec_run ?run, ?kp⟩
  case run =>
    conv => lhs; whnf
    rw [kdecn (show ¬ (j : Int) < (n1 : Int) by omega)]
    conv => lhs; whnf
    rw [kdecn (show ¬ (j : Int) < (n2 : Int) by omega)]
  case kp => rfl
end Go.Dn.Pipe
end

section
/-
  'PipePieces', run
-/
namespace Go.Dn.Pipe
open Go.Proofs
set_option maxHeartbeats 4000000
set_option maxRecDepth 100000
attribute [local irreducible] Hp.get Hp.set Hp.push dappend dcopy dstore cellsAt callD loopD exec dstring

structure LS where
  j : Nat
  put : Nat
  got : Nat
  v : Value

section
variable {call : CallT} (h : PipeFns call) {A0 : Hp} {P : Nat} {X : Dat} (hP0 : A0.get P = some (.abs 1 X)) {us : List Value} (hPl : P < A0.next) (hu : us.length ≤ 1048576) (hup : ∀ u ∈ us, plain0 u = true) (hw0 : A0.wf)
  {a0 a1 a2 : Option Addr} {c0 n1 c1 n2 c2 : Nat} {is ks : List Value} (h0 : ArgSl 5 1 A0 (.slice a0 us.length c0) us us.length)
  (h1 : ArgSl 3 1 A0 (.slice a1 n1 c1) is n1) (hi1 : ∀ (j : Nat) x, is[j]? = some x → ∃ k, x = .int .i64 k ∧ k ≤ 9223372036854775807)
  (h2 : ArgSl 3 1 A0 (.slice a2 n2 c2) ks n2) (hi2 : ∀ (j : Nat) x, ks[j]? = some x → ∃ k, x = .int .i64 k ∧ k ≤ 9223372036854775807)
include h hP0 hPl hu hup hw0 h0 h1 hi1

theorem phase_put (lf : Nat) (V2 V6 V9 V10 : Value) {j put got : Nat} {V : Value} {A : Hp} (hI : PI A0 P us put got V A) :
    ∃ put' A1, (∀ a b c u0 u1 u2 u3 u4 u5 u6 u7 u8 u9, exec Tryd.bk.E call Tryd.f3.ntmps (Tryd.bk.inf 3) lf (condOf Tryd.f3 10) [(0, .slice a0 us.length c0), (1, .slice a1 n1 c1), (2, V2), (6, V6), (7, ptr P), (8, .int .i64 (put : Nat)), (9, V9), (10, V10), (11, .int .i64 (j : Nat)),
        (20, u0), (21, u1), (22, u2), (23, u3), (24, u4), (25, u5), (26, u6), (27, u7), (28, u8), (29, u9), (32, a), (33, b), (34, c), (35, .bool (decide ((j : Int) < (n1 : Int))))] A =
      some (.normal, [(0, .slice a0 us.length c0), (1, .slice a1 n1 c1), (2, V2), (6, V6), (7, ptr P), (8, .int .i64 (put' : Nat)), (9, V9), (10, V10), (11, .int .i64 (j : Nat))], A1)) ∧ PI A0 P us put' got V A1 := by
  by_cases hj : j < n1
  · rw [kdec (show (j : Int) < (n1 : Int) by omega)]
    generalize hv1 : (Value.slice a1 n1 c1) = v1 at h1
    have hpn := hI.pn
    cases h1 with
    | nil c hc => omega
    | «at» ib _ _ hg hl =>
    cases hv1
    have hjl : j < is.length := by rw [hl]; omega
    obtain ⟨k, hk, hkb⟩ := hi1 j _ (List.getElem?_eq_getElem hjl)
    have hxj : is[j]? = some (.int .i64 k) := by rw [List.getElem?_eq_getElem hjl, hk]
    have hibP : ib ≠ P := by rintro rfl; rw [hP0] at hg; cases hg
    have hgA : A.get ib = some (.arr 3 is .sh) := by rw [hI.old ib (hw0.lt hg) hibP]; exact hg
    have hu1 : (is.drop 0).take n1 = is := by rw [List.drop_zero, List.take_of_length_le (by omega)]
    generalize hv0 : (Value.slice a0 us.length c0) = v0 at h0
    generalize hnn : us.length = nn at h0 hv0
    cases h0 with
    | nil c hc =>
      cases hv0
      have hp0 : put = 0 := by simp at hpn; omega
      subst hp0
      obtain ⟨wv, A1, A2, q1, q2, q3⟩ := hI.put h hPl hu hup (kk := 0) (v := .slice none 0 c0) (by simp) (BsAt.nil c0 hc).elems
      exact ⟨0, A2, fun a b c u0 u1 u2 u3 u4 u5 u6 u7 u8 u9 => p_cond10_nil lf V2 V6 (ptr P) V9 V10 a b c u0 u1 u2 u3 u4 u5 u6 u7 u8 u9 k c0 j hgA hu1 hxj hj hc q1 q2, q3⟩
    | «at» bi _ _ hg0 hl0 =>
      cases hv0
      subst hnn
      have hbP : bi ≠ P := by rintro rfl; rw [hP0] at hg0; cases hg0
      have hgA0 : A.get bi = some (.arr 5 us .sh) := by rw [hI.old bi (hw0.lt hg0) hbP]; exact hg0
      have hkk : (if (if k < 0 then 0 else k) > ((us.length - put : Nat) : Int) then ((us.length - put : Nat) : Int) else if k < 0 then 0 else k) = (((if (if k < 0 then 0 else k) > ((us.length - put : Nat) : Int) then ((us.length - put : Nat) : Int) else if k < 0 then 0 else k).toNat : Nat) : Int) := by
        split <;> split <;> omega
      have hkl : (if (if k < 0 then 0 else k) > ((us.length - put : Nat) : Int) then ((us.length - put : Nat) : Int) else if k < 0 then 0 else k).toNat ≤ us.length - put := by
        split <;> split <;> omega
      generalize (if (if k < 0 then 0 else k) > ((us.length - put : Nat) : Int) then ((us.length - put : Nat) : Int) else if k < 0 then 0 else k).toNat = kk at hkk hkl
      have hb : BsAt A (.slice (some ⟨bi, 0 + put * 1, some 1⟩) (put + kk - put) (2 * (2 * us.length / 2 - put) + 2 * us.length % 2)) ((us.drop put).take kk) :=
        .at bi (0 + put * 1) (put + kk - put) _ 5 us _ .sh hgA0 (by omega) (by rw [show 0 + put * 1 = put by omega, show put + kk - put = kk by omega]) (by omega)
      have hbe := hb.elems
      rw [show ((us.drop put).take kk).length = kk by simp; omega] at hbe
      obtain ⟨wv, A1, A2, q1, q2, q3⟩ := hI.put h hPl hu hup (kk := kk) (by omega) hbe
      exact ⟨put + kk, A2, fun a b c u0 u1 u2 u3 u4 u5 u6 u7 u8 u9 => p_cond10 lf V2 V6 (ptr P) V9 V10 a b c u0 u1 u2 u3 u4 u5 u6 u7 u8 u9 k put kk bi 0 us.length (2 * us.length) j hgA hu1 hxj hj hpn (by omega) (by omega) hkk q1 q2, q3⟩
  · rw [kdecn (show ¬ (j : Int) < (n1 : Int) by omega)]
    exact ⟨put, A, fun a b c u0 u1 u2 u3 u4 u5 u6 u7 u8 u9 => p_cond10_false lf _ _ _ _ _ _ _ _ _ a b c u0 u1 u2 u3 u4 u5 u6 u7 u8 u9, hI⟩

omit h0 h1 hi1 in
include h2 hi2 in
theorem phase_move (lf : Nat) (V0 V1 V6 : Value) {j put got : Nat} {V : Value} {A : Hp} (hI : PI A0 P us put got V A) :
    ∃ got' V' A1, (∀ a b c, exec Tryd.bk.E call Tryd.f3.ntmps (Tryd.bk.inf 3) lf (condOf Tryd.f3 20) [(0, V0), (1, V1), (2, .slice a2 n2 c2), (6, V6), (7, ptr P), (8, .int .i64 (put : Nat)), (9, .int .i64 (got : Nat)), (10, V), (11, .int .i64 (j : Nat)), (74, a), (75, b), (76, c), (77, .bool (decide ((j : Int) < (n2 : Int))))] A =
      some (.normal, [(0, V0), (1, V1), (2, .slice a2 n2 c2), (6, V6), (7, ptr P), (8, .int .i64 (put : Nat)), (9, .int .i64 (got' : Nat)), (10, V'), (11, .int .i64 (j : Nat))], A1)) ∧ PI A0 P us put got' V' A1 := by
  by_cases hj : j < n2
  · rw [kdec (show (j : Int) < (n2 : Int) by omega)]
    generalize hv1 : (Value.slice a2 n2 c2) = v1 at h2
    have hpn := hI.pn
    have hgp := hI.gp
    cases h2 with
    | nil c hc => omega
    | «at» ib _ _ hg hl =>
    cases hv1
    have hjl : j < ks.length := by rw [hl]; omega
    obtain ⟨k, hk, hkb⟩ := hi2 j _ (List.getElem?_eq_getElem hjl)
    have hxj : ks[j]? = some (.int .i64 k) := by rw [List.getElem?_eq_getElem hjl, hk]
    have hibP : ib ≠ P := by rintro rfl; rw [hP0] at hg; cases hg
    have hu1 : (ks.drop 0).take n2 = ks := by rw [List.drop_zero, List.take_of_length_le (by omega)]
    obtain ⟨A1, l1, l2⟩ := hI.len h hu
    obtain ⟨a, c, A2, V', A3, m1, m2, m3, m4⟩ := l2.move h hPl hu hup hkb
    have hg1 : A1.get ib = some (.arr 3 ks .sh) := by rw [l2.old ib (hw0.lt hg) hibP]; exact hg
    have hg2 : A2.get ib = some (.arr 3 ks .sh) := by rw [m3 ib (hw0.lt hg) hibP]; exact hg
    exact ⟨_, V', A3, fun a' b' c' => p_cond20 lf V0 V1 V6 (ptr P) (.int .i64 (put : Nat)) V a' b' c' k got (put - got) (min k.toNat (put - got)) c a j (by rw [hI.old ib (hw0.lt hg) hibP]; exact hg) hu1 hxj hj (by omega) rfl hg1 hg2 l1 m1 m2, m4⟩
  · rw [kdecn (show ¬ (j : Int) < (n2 : Int) by omega)]
    exact ⟨got, V, A, fun a b c => p_cond20_false lf _ _ _ _ _ _ _ _ _ a b c, hI⟩

include h2 hi2 in
theorem pieces_loop (lf : Nat) (hn1 : n1 ≤ 1048576) (hn2 : n2 ≤ 1048576) {V : Value} (hI : PI A0 P us 0 0 V A0) (hlf : n1 + n2 + 1 < lf) :
    ∃ A1 put got V' j, loopD (some [0, 1, 2, 6, 7, 8, 9, 10, 11]) (exec Tryd.bk.E call Tryd.f3.ntmps (Tryd.bk.inf 3) lf (loopOf Tryd.f3 0)) lf
        [(0, .slice a0 us.length c0), (1, .slice a1 n1 c1), (2, .slice a2 n2 c2), (6, .bool false), (7, ptr P), (8, .int .i64 ((0 : Nat) : Int)), (9, .int .i64 ((0 : Nat) : Int)), (10, V), (11, .int .i64 ((0 : Nat) : Int))] A0 =
      some (.exit 0, [(0, .slice a0 us.length c0), (1, .slice a1 n1 c1), (2, .slice a2 n2 c2), (6, .bool false), (7, ptr P), (8, .int .i64 (put : Nat)), (9, .int .i64 (got : Nat)), (10, V'), (11, .int .i64 (j : Nat))], A1) ∧ PI A0 P us put got V' A1 := by
  have key := loop_rule (ks := some [0, 1, 2, 6, 7, 8, 9, 10, 11]) (f := exec Tryd.bk.E call Tryd.f3.ntmps (Tryd.bk.inf 3) lf (loopOf Tryd.f3 0)) (S := LS)
    (fun s => [(0, .slice a0 us.length c0), (1, .slice a1 n1 c1), (2, .slice a2 n2 c2), (6, .bool false), (7, ptr P), (8, .int .i64 (s.put : Nat)), (9, .int .i64 (s.got : Nat)), (10, s.v), (11, .int .i64 (s.j : Nat))])
    (fun s A => PI A0 P us s.put s.got s.v A ∧ s.j ≤ n1 + n2) (fun s => n1 + n2 + 1 - s.j)
    (fun e σ A1 => e = .exit 0 ∧ ∃ s : LS, σ = [(0, .slice a0 us.length c0), (1, .slice a1 n1 c1), (2, .slice a2 n2 c2), (6, .bool false), (7, ptr P), (8, .int .i64 (s.put : Nat)), (9, .int .i64 (s.got : Nat)), (10, s.v), (11, .int .i64 (s.j : Nat))] ∧ PI A0 P us s.put s.got s.v A1) (fun s A hs => ?_)
    lf ⟨0, 0, 0, V⟩ A0 ⟨hI, Nat.zero_le _⟩ (by simp only; omega)
  · obtain ⟨e, σ1, A1, k1, rfl, s, rfl, k3⟩ := key
    exact ⟨A1, s.put, s.got, s.v, s.j, k1, k3⟩
  · obtain ⟨j, put, got, v⟩ := s
    obtain ⟨hs, hjn⟩ := hs
    simp only at hs hjn ⊢
    by_cases hj : j < n1 ∨ j < n2
    · obtain ⟨put', A1, x1, x2⟩ := phase_put h hP0 hPl hu hup hw0 h0 h1 hi1 lf (.slice a2 n2 c2) (.bool false) (.int .i64 (got : Nat)) v (j := j) hs
      obtain ⟨got', v', A2, y1, y2⟩ := phase_move h hP0 hPl hu hup hw0 h2 hi2 lf (.slice a0 us.length c0) (.slice a1 n1 c1) (.bool false) (j := j) x2
      obtain ⟨A3, z1, z2⟩ := y2.len h hu
      obtain ⟨A4, z3, z4⟩ := z2.passed h
      obtain ⟨A5, z5, z6⟩ := z4.broken h
      have hpn := y2.pn
      obtain ⟨σ1, r1, r2⟩ := p_round lf (.slice a0 us.length c0) (.bool false) (ptr P) (.int .i64 (put : Nat)) (.int .i64 (got : Nat)) v a1 a2 n1 c1 n2 c2 j put' got' v' hj (by omega) x1 y1 y2.gp (by omega) z1 z3 z5
      exact ⟨.normal, σ1, A5, r1, .inl ⟨rfl, ⟨j + 1, put', got', v'⟩, r2, ⟨z6, by simp only; omega⟩, by simp only; omega⟩⟩
    · obtain ⟨σ1, r1, r2⟩ := p_end (call := call) lf (A := A) (.slice a0 us.length c0) (.bool false) (ptr P) (.int .i64 (put : Nat)) (.int .i64 (got : Nat)) v a1 a2 n1 c1 n2 c2 j (by omega) (by omega)
      exact ⟨.exit 0, σ1, A, r1, .inr ⟨by simp, rfl, ⟨j, put, got, v⟩, r2, hs⟩⟩
end

theorem stB : StrT Tryd.bk.E 22 9 := ⟨⟨_, _, 5, _, rfl, rfl, rfl, rfl, rfl, rfl⟩⟩

end Go.Dn.Pipe
end

section
namespace Go.Dn.Pipe
open Go.Proofs
set_option maxHeartbeats 4000000
set_option maxRecDepth 100000
attribute [local irreducible] Hp.get Hp.set Hp.push dappend dcopy dstore cellsAt callD loopD exec dstring

theorem pieces_walk_at {call : CallT} (h : PipeFns call) {A : Hp} (hw : A.wf) {us : List Value} (hu : us.length ≤ 1048576) (hup : ∀ u ∈ us, plain0 u = true) (hub : ∀ (j : Nat) x, us[j]? = some x → ∃ n, x = .int .u8 n)
    {a0 a1 a2 : Option Addr} {c0 n1 c1 n2 c2 : Nat} {is ks : List Value} (h0 : ArgSl 5 1 A (.slice a0 us.length c0) us us.length)
    (h1 : ArgSl 3 1 A (.slice a1 n1 c1) is n1) (hi1 : ∀ (j : Nat) x, is[j]? = some x → ∃ k, x = .int .i64 k ∧ k ≤ 9223372036854775807)
    (h2 : ArgSl 3 1 A (.slice a2 n2 c2) ks n2) (hi2 : ∀ (j : Nat) x, ks[j]? = some x → ∃ k, x = .int .i64 k ∧ k ≤ 9223372036854775807)
    (hn1 : n1 ≤ 1048576) (hn2 : n2 ≤ 1048576) (lf : Nat) (hlf : n1 + n2 + 1 < lf) (hne : a0 ≠ none) :
    ∃ A', kfn Tryd.bk.E call (Tryd.bk.inf 3) lf Tryd.f3 [.slice a0 us.length c0, .slice a1 n1 c1, .slice a2 n2 c2] A = some (.bool true, A') := by
  have hnew := h.new (NewR.mk A)
  have hw1 : (A.push (.abs 1 PX.new.dat)).wf := hw.push _
  have hP0 : (A.push (.abs 1 PX.new.dat)).get A.next = some (.abs 1 PX.new.dat) := Hp.get_push_same _ _
  have hk : ∀ i o, A.get i = some o → (A.push (.abs 1 PX.new.dat)).get i = some o := fun i o hi => by rw [Hp.get_push_ne _ _ (by have := hw.lt hi; omega)]; exact hi
  have hI0 : PI (A.push (.abs 1 PX.new.dat)) A.next us 0 0 (.slice none 0 0) (A.push (.abs 1 PX.new.dat)) :=
    ⟨hw1, Nat.le_refl _, fun _ _ _ => rfl, by rw [hP0]; rfl, ⟨none, .nil, by simp⟩, Nat.le_refl _, Nat.zero_le _⟩
  obtain ⟨A1, put, got, V', j, l1, l2⟩ := pieces_loop h hP0 (by simp) hu hup hw1 (h0.keep hk) (h1.keep hk) hi1 (h2.keep hk) hi2 lf hn1 hn2 hI0 hlf
  obtain ⟨a, c, A2, V2, A3, m1, m2, m3, m4⟩ := l2.move h (by simp) hu hup (k := (us.length : Nat)) (by omega)
  have hgp := l2.gp
  have hpn := l2.pn
  rw [show got + min ((us.length : Nat) : Int).toNat (put - got) = put by omega] at m4
  generalize min ((us.length : Nat) : Int).toNat (put - got) = q at m1 m2
  obtain ⟨io, o1, _⟩ := m4.out
  have hw3 : IntKind.u64.wrap (put : Int) = (put : Int) := wrapu (by omega)
  obtain ⟨ns, hns⟩ := bytesOf_some (us := us.take put) fun j x hx => hub j x (by
    rw [List.getElem?_take] at hx
    split at hx
    · exact hx
    · cases hx)
  have hlt0 : ((us.take put).drop put).length = 0 := by simp
  have h16 : ∀ B : Hp, B.get A.next = some (.abs 1 (PX.dat ⟨(us.take put).drop put, put, (put : Nat), false⟩)) → call 16 [ptr A.next] B = some (.int .i64 0, B.set A.next (some (.abs 1 (PX.dat ⟨(us.take put).drop put, put, (put : Nat), false⟩)))) := fun B hB => by
    have := h.len (LenR.mk B A.next _ hB (by simp only; omega))
    simp only [hlt0] at this
    exact this
  have h18 : ∀ B : Hp, B.get A.next = some (.abs 1 (PX.dat ⟨(us.take put).drop put, put, (put : Nat), false⟩)) → call 18 [ptr A.next] B = some (.int .u64 (put : Nat), B.set A.next (some (.abs 1 (PX.dat ⟨(us.take put).drop put, put, (put : Nat), false⟩)))) := fun B hB =>
    h.passed (PassedR.mk B A.next _ hB)
  have hP3 := m4.pipe
  generalize (Ob.abs 1 (PX.dat ⟨(us.take put).drop put, put, (put : Nat), false⟩)) = X at h16 h18 hP3
  have hb1 := o1.slAt.bs
  have hd1 := dstring_bs stB hb1 hns
  generalize hv0 : (Value.slice a0 us.length c0) = v0 at h0
  generalize hut : us.take put = ut at o1 hb1 hd1 hns
  generalize hpp : put = pp at o1
  generalize hV2 : V2 = W2 at o1
  generalize hnn : us.length = nn at h0 hv0
  cases h0 with
  | nil cc hc => cases hv0; exact absurd rfl hne
  | «at» bi _ _ hg0 hl0 =>
    cases hv0
    subst hnn
    have hbl := hw.lt hg0
    have hg3 : A3.get bi = some (.arr 5 us .sh) := by
      rw [m4.old bi (by simp; omega) (by omega), Hp.get_push_ne _ _ (by omega)]; exact hg0
    have hb2 : BsAt A3 (.slice (some ⟨bi, 0 + 0 * 1, some 1⟩) (put - 0) (2 * (2 * us.length / 2 - 0) + 2 * us.length % 2)) ut :=
      .at bi (0 + 0 * 1) (put - 0) _ 5 us _ .sh hg3 (by omega) (by simpa using hut) (by omega)
    have hd2 := dstring_bs stB hb2 hns
    cases o1 with
    | nil =>
      refine ⟨?A'2, ?run2⟩
      case run2 =>
        conv => lhs; whnf
        refine bind_of (h.wakes _) ?_
        conv => lhs; whnf
        refine bind_of hnew ?_
        conv => lhs; whnf
        refine bind_of l1 ?_
        conv => lhs; whnf
        refine bind_of m1 ?_
        conv => lhs; whnf
        refine bind_of m2 ?_
        conv => lhs; whnf
        refine bind_of hd1 ?_
        refine bif_of (all_blk hb1 fun i => rfl) ?_
        conv => lhs; whnf
        rw [kdec (show ((put : Nat) : Int) ≤ ((2 * us.length / 2 : Nat) : Int) by omega)]
        conv => lhs; whnf
        refine bind_of hd2 ?_
        refine bif_of (all_blk hb2 fun i => rfl) ?_
        conv => lhs; whnf
        rw [beq_self_eq_true]
        subst hV2
        conv => lhs; whnf
        refine bind_of (h16 _ ?gg1) ?_
        case gg1 => exact hP3
        conv => lhs; whnf
        refine bind_of (h18 _ ?gg2) ?_
        case gg2 => exact Hp.get_set_same _ _ _
        conv => lhs; whnf
        rw [hw3, beq_self_eq_true]
        conv => lhs; whnf
        rfl
    | «at» i _ _ hg hl' hp =>
      refine ⟨?A'3, ?run3⟩
      case run3 =>
        conv => lhs; whnf
        refine bind_of (h.wakes _) ?_
        conv => lhs; whnf
        refine bind_of hnew ?_
        conv => lhs; whnf
        refine bind_of l1 ?_
        conv => lhs; whnf
        refine bind_of m1 ?_
        conv => lhs; whnf
        refine bind_of m2 ?_
        conv => lhs; whnf
        refine bind_of hd1 ?_
        refine bif_of (all_blk hb1 fun i => rfl) ?_
        conv => lhs; whnf
        rw [kdec (show ((put : Nat) : Int) ≤ ((2 * us.length / 2 : Nat) : Int) by omega)]
        conv => lhs; whnf
        refine bind_of hd2 ?_
        refine bif_of (all_blk hb2 fun i => rfl) ?_
        conv => lhs; whnf
        rw [beq_self_eq_true]
        subst hV2
        conv => lhs; whnf
        refine bind_of (h16 _ ?gg1) ?_
        case gg1 => exact hP3
        conv => lhs; whnf
        refine bind_of (h18 _ ?gg2) ?_
        case gg2 => exact Hp.get_set_same _ _ _
        conv => lhs; whnf
        rw [hw3, beq_self_eq_true]
        conv => lhs; whnf
        rfl
end Go.Dn.Pipe
end

section
namespace Go.Dn.Pipe
open Go.Proofs
set_option maxHeartbeats 4000000
set_option maxRecDepth 100000
attribute [local irreducible] Hp.get Hp.set Hp.push dappend dcopy dstore cellsAt callD loopD exec

theorem nil_part {A3 : Hp} {a0 : Option Addr} {c0 : Nat} (ha0 : a0 = none) (hc0 : c0 ≤ 1) : ∃ w, (∀ {R : Type} (K : Value → Option R), kslice Tryd.bk.E 22 (.slice a0 0 c0) none (some (.int .i64 ((0 : Nat) : Int))) none K = K w) ∧ BsAt A3 w [] := by
  subst ha0
  obtain rfl | rfl : c0 = 0 ∨ c0 = 1 := by omega
  · exact ⟨.slice none 0 0, fun _ => rfl, .nil 0 (by omega)⟩
  · exact ⟨.slice none 0 1, fun _ => rfl, .nil 1 (by omega)⟩


attribute [local irreducible] dstring kslice
theorem pieces_walk_nil {call : CallT} (h : PipeFns call) {A : Hp} (hw : A.wf) {a0 a1 a2 : Option Addr} {c0 n1 c1 n2 c2 : Nat} {is ks : List Value} (ha0 : a0 = none) (hc0 : c0 ≤ 1)
    (h1 : ArgSl 3 1 A (.slice a1 n1 c1) is n1) (hi1 : ∀ (j : Nat) x, is[j]? = some x → ∃ k, x = .int .i64 k ∧ k ≤ 9223372036854775807)
    (h2 : ArgSl 3 1 A (.slice a2 n2 c2) ks n2) (hi2 : ∀ (j : Nat) x, ks[j]? = some x → ∃ k, x = .int .i64 k ∧ k ≤ 9223372036854775807)
    (hn1 : n1 ≤ 1048576) (hn2 : n2 ≤ 1048576) (lf : Nat) (hlf : n1 + n2 + 1 < lf) :
    ∃ A', kfn Tryd.bk.E call (Tryd.bk.inf 3) lf Tryd.f3 [.slice a0 0 c0, .slice a1 n1 c1, .slice a2 n2 c2] A = some (.bool true, A') := by
  have hnew := h.new (NewR.mk A)
  have hw1 : (A.push (.abs 1 PX.new.dat)).wf := hw.push _
  have hP0 : (A.push (.abs 1 PX.new.dat)).get A.next = some (.abs 1 PX.new.dat) := Hp.get_push_same _ _
  have hk : ∀ i o, A.get i = some o → (A.push (.abs 1 PX.new.dat)).get i = some o := fun i o hi => by rw [Hp.get_push_ne _ _ (by have := hw.lt hi; omega)]; exact hi
  have hI0 : PI (A.push (.abs 1 PX.new.dat)) A.next [] 0 0 (.slice none 0 0) (A.push (.abs 1 PX.new.dat)) :=
    ⟨hw1, Nat.le_refl _, fun _ _ _ => rfl, by rw [hP0]; rfl, ⟨none, .nil, by simp⟩, Nat.le_refl _, Nat.zero_le _⟩
  obtain ⟨A1, put, got, V', j, l1, l2⟩ := pieces_loop (us := []) (a0 := a0) (c0 := c0) h hP0 (by simp) (by simp) (by simp) hw1 (by rw [ha0]; exact .nil c0 hc0) (h1.keep hk) hi1 (h2.keep hk) hi2 lf hn1 hn2 hI0 hlf
  obtain ⟨a, c, A2, V2, A3, m1, m2, m3, m4⟩ := l2.move h (by simp) (by simp) (by simp) (k := 0) (by omega)
  have hgp := l2.gp
  have hpn := l2.pn
  obtain rfl : put = 0 := by simpa using hpn
  obtain rfl : got = 0 := by omega
  simp only [Nat.sub_self, Nat.min_zero, Nat.add_zero] at m1 m2 m4
  obtain ⟨io, o1, _⟩ := m4.out
  have hb1 : BsAt A3 V2 [] := o1.slAt.bs
  obtain ⟨ns, hns⟩ := bytesOf_some (us := []) (by simp)
  have hd1 := dstring_bs stB hb1 hns
  have hP3 := m4.pipe
  have h16 : ∀ B : Hp, B.get A.next = some (.abs 1 (PX.dat ⟨[], 0, 0, false⟩)) → call 16 [ptr A.next] B = some (.int .i64 0, B.set A.next (some (.abs 1 (PX.dat ⟨[], 0, 0, false⟩)))) := fun B hB =>
    h.len (LenR.mk B A.next ⟨[], 0, 0, false⟩ hB (by simp))
  have h18 : ∀ B : Hp, B.get A.next = some (.abs 1 (PX.dat ⟨[], 0, 0, false⟩)) → call 18 [ptr A.next] B = some (.int .u64 0, B.set A.next (some (.abs 1 (PX.dat ⟨[], 0, 0, false⟩)))) := fun B hB =>
    h.passed (PassedR.mk B A.next ⟨[], 0, 0, false⟩ hB)
  have hP3' : A3.get A.next = some (.abs 1 (PX.dat ⟨[], 0, 0, false⟩)) := hP3
  obtain ⟨w, hds, hbw⟩ := nil_part (A3 := A3) ha0 hc0
  have hd2 := dstring_bs stB hbw hns
  refine ⟨?A', ?run⟩
  case run =>
    conv => lhs; whnf
    refine bind_of (h.wakes _) ?_
    conv => lhs; whnf
    refine bind_of hnew ?_
    conv => lhs; whnf
    refine bind_of l1 ?_
    conv => lhs; whnf
    refine bind_of m1 ?_
    conv => lhs; whnf
    refine bind_of m2 ?_
    conv => lhs; whnf
    refine bind_of hd1 ?_
    refine bif_of (all_blk hb1 fun i => rfl) ?_
    conv => lhs; whnf
    refine (hds _).trans ?_
    refine bind_of hd2 ?_
    refine bif_of (all_blk hbw fun i => rfl) ?_
    conv => lhs; whnf
    rw [beq_self_eq_true]
    conv => lhs; whnf
    generalize blkOf V2 = k1
    generalize blkOf w = k2
    cases k1 <;> cases k2 <;> (
      conv => lhs; whnf
      refine bind_of (h16 _ hP3') ?_
      conv => lhs; whnf
      refine bind_of (h18 _ (Hp.get_set_same _ _ _)) ?_
      conv => lhs; whnf
      rfl)

theorem pieces_run {base : CallT} (hb : ∀ A, base 12 [] A = some (.bool true, A)) (h15 : ∀ args A, base 15 args A = none) (h3 : ∀ args A, base 3 args A = none) {A : Hp} (hw : A.wf) {us : List Value} {n0 : Nat} {v0 v1 v2 : Value} (h0 : ArgSl 5 1 A v0 us n0) (hup : ∀ u ∈ us, plain0 u = true) (hub : ∀ (j : Nat) x, us[j]? = some x → ∃ n, x = .int .u8 n) (hu : us.length ≤ 1048576)
    {n1 n2 : Nat} {is ks : List Value} (h1 : ArgSl 3 1 A v1 is n1) (hi1 : ∀ (j : Nat) x, is[j]? = some x → ∃ k, x = .int .i64 k ∧ k ≤ 9223372036854775807) (hn1 : n1 ≤ 1048576)
    (h2 : ArgSl 3 1 A v2 ks n2) (hi2 : ∀ (j : Nat) x, ks[j]? = some x → ∃ k, x = .int .i64 k ∧ k ≤ 9223372036854775807) (hn2 : n2 ≤ 1048576) :
    ∃ n A', callD Tryd.bk (T3 base) n 3 [v0, v1, v2] A = some (.bool true, A') := by
  have form : ∀ {e sz : Nat} {v : Value} {xs : List Value} {n : Nat}, ArgSl e sz A v xs n → ∃ a c, v = .slice a n c := fun h => by
    cases h with
    | nil c hc => exact ⟨none, c, rfl⟩
    | «at» id n us hg hl => exact ⟨some _, _, rfl⟩
  have hf := T3_fns hb h15 (n1 + n2 + 2)
  obtain ⟨a1, c1, rfl⟩ := form h1
  obtain ⟨a2, c2, rfl⟩ := form h2
  have hn0 := h0.len
  rw [Nat.mul_one] at hn0
  subst hn0
  obtain ⟨a0, c0, rfl⟩ := form h0
  cases a0 with
  | none =>
    generalize hv0 : (Value.slice none us.length c0) = v0 at h0
    generalize hnn : us.length = nn at h0 hv0
    cases h0 with
    | nil cc hc =>
      cases hv0
      obtain ⟨A', hr⟩ := pieces_walk_nil hf hw (a0 := none) (c0 := c0) rfl hc h1 hi1 h2 hi2 hn1 hn2 (n1 + n2 + 3) (by omega)
      exact ⟨_, A', callD_of (h3 _ _) (fn := Tryd.f3) rfl hr⟩
    | «at» _ _ _ hg hl => cases hv0
  | some ad =>
    obtain ⟨A', hr⟩ := pieces_walk_at hf hw hu hup hub h0 h1 hi1 h2 hi2 hn1 hn2 (n1 + n2 + 3) (by omega) (by simp)
    exact ⟨_, A', callD_of (h3 _ _) (fn := Tryd.f3) rfl hr⟩
end Go.Dn.Pipe
end
