/-
  Part of the abstract machine for this program.
-/
import Derived.Test.YtombnpednnngoaaDoorPF
import Derived.Test.YtombnpednnngoaaDoorPD
import Derived.Test.YtombnpednnngoaaDoorPC

section
/-
  'Same' of two lists of tickets
-/
namespace Go.Dn.Ln
open Go.Proofs
set_option maxHeartbeats 4000000
set_option maxRecDepth 100000
attribute [local irreducible] Hp.get Hp.set Hp.push dappend dcopy dstore cellsAt callD loopD

theorem deq_tick (xk yk : Nat) (xs ys xv yv : Int) : deqF Tryd.bk.E 20 29 (.agg #[.int .i64 (xk : Nat), .int .u32 xs, .int .u32 xv]) (.agg #[.int .i64 (yk : Nat), .int .u32 ys, .int .u32 yv]) = some (decide ((xk, xs, xv) = (yk, ys, yv))) := by
  by_cases h1 : xk = yk
  · subst h1
    by_cases h2 : xs = ys
    · subst h2
      by_cases h3 : xv = yv
      · subst h3
        rw [kdec rfl]
        conv => lhs; whnf
        rw [beq_self_eq_true]
        conv => lhs; whnf
        rw [beq_self_eq_true]
        conv => lhs; whnf
        rw [beq_self_eq_true]
        try rfl
      · rw [kdecn (by simp [h3])]
        conv => lhs; whnf
        rw [beq_self_eq_true]
        conv => lhs; whnf
        rw [beq_self_eq_true]
        conv => lhs; whnf
        rw [show (xv == yv) = false from beq_eq_false_iff_ne.2 h3]
        try rfl
    · rw [kdecn (by simp [h2])]
      conv => lhs; whnf
      rw [beq_self_eq_true]
      conv => lhs; whnf
      rw [show (xs == ys) = false from beq_eq_false_iff_ne.2 h2]
      try rfl
  · rw [kdecn (by simp [h1])]
    conv => lhs; whnf
    rw [show (((xk : Nat) : Int) == ((yk : Nat) : Int)) = false from beq_eq_false_iff_ne.2 fun e => h1 (by omega)]
    try rfl

theorem same_step {call : CallT} (lf : Nat) {A : Hp} {T1 T2 : List Tk} {i1 i2 c1 c2 i : Nat} (h1 : A.get i1 = some (.arr 29 (T1.map tkc).flatten .own)) (h2 : A.get i2 = some (.arr 29 (T2.map tkc).flatten .own)) (hl : T1.length = T2.length) {x y : Tk} (hx : T1[i]? = some x) (hy : T2[i]? = some y) (hm : T1.length ≤ 100000000) :
    ∃ σ1 e, exec Tryd.bk.E call Tryd.f21.ntmps (Tryd.bk.inf 21) lf (loopOf Tryd.f21 0) [(0, .slice (some ⟨i1, 0, some 3⟩) T1.length c1), (1, .slice (some ⟨i2, 0, some 3⟩) T2.length c2), (4, .bool false), (12, .int .i64 (T1.length : Nat)), (13, .int .i64 (i : Nat))] A = some (e, σ1, A) ∧
      ((x = y ∧ e = .normal ∧ keepSl (some [0, 1, 4, 12, 13]) σ1 = [(0, .slice (some ⟨i1, 0, some 3⟩) T1.length c1), (1, .slice (some ⟨i2, 0, some 3⟩) T2.length c2), (4, .bool false), (12, .int .i64 (T1.length : Nat)), (13, .int .i64 (i + 1 : Nat))]) ∨
        (x ≠ y ∧ e = .ret ∧ keepSl (some [0, 1, 4, 12, 13]) σ1 = [(0, .slice (some ⟨i1, 0, some 3⟩) T1.length c1), (1, .slice (some ⟨i2, 0, some 3⟩) T2.length c2), (4, .bool false), (12, .int .i64 (T1.length : Nat)), (13, .int .i64 (i : Nat))])) := by
  have hi : i < T1.length := (List.getElem?_eq_some_iff.1 hx).1
  have e1 : ((i : Nat) : Int) < ((T1.length : Nat) : Int) := by omega
  have e2 : ((i : Nat) : Int) < ((T2.length : Nat) : Int) := by omega
  have hw2 : IntKind.i64.wrap ((i : Int) + 1) = ((i + 1 : Nat) : Int) := by rw [w64 (by omega) (by omega)]; omega
  obtain ⟨xk, xs, xv⟩ := x
  obtain ⟨yk, ys, yv⟩ := y
  have q1 : cellsIn (T1.map tkc).flatten (0 + i * 3) 3 = some [.int .i64 (xk : Nat), .int .u32 xs, .int .u32 xv] := tick_row hx
  have q2 : cellsIn (T2.map tkc).flatten (0 + i * 3) 3 = some [.int .i64 (yk : Nat), .int .u32 ys, .int .u32 yv] := tick_row hy
  by_cases hxy : (xk, xs, xv) = (yk, ys, yv)
  · refine ⟨?s, .normal, kexec_run ?run, .inl ⟨hxy, rfl, ?kp⟩⟩
    case run =>
      conv => lhs; whnf
      rw [kdec e1]
      conv => lhs; whnf
      rw [kdec e1]
      conv => lhs; whnf
      refine bind_of ((cellsAt_of h1 _ _).trans q1) ?_
      conv => lhs; whnf
      rw [kdec e2]
      conv => lhs; whnf
      refine bind_of ((cellsAt_of h2 _ _).trans q2) ?_
      conv => lhs; whnf
      refine bind_of (a := Value.bool false) ?hv ?hr
      case hv =>
        conv => lhs; whnf
        rw [deq_tick, kdec hxy]
        try rfl
      case hr =>
        conv => lhs; whnf
        try rfl
    case kp =>
      show [_, _, _, _, (13, Value.int .i64 (IntKind.i64.wrap ((i : Int) + 1)))] = _
      rw [hw2]
  · refine ⟨?s2, .ret, kexec_run ?run2, .inr ⟨hxy, rfl, ?kp2⟩⟩
    case run2 =>
      conv => lhs; whnf
      rw [kdec e1]
      conv => lhs; whnf
      rw [kdec e1]
      conv => lhs; whnf
      refine bind_of ((cellsAt_of h1 _ _).trans q1) ?_
      conv => lhs; whnf
      rw [kdec e2]
      conv => lhs; whnf
      refine bind_of ((cellsAt_of h2 _ _).trans q2) ?_
      conv => lhs; whnf
      refine bind_of (a := Value.bool true) ?hv2 ?hr2
      case hv2 =>
        conv => lhs; whnf
        rw [deq_tick, kdecn hxy]
        try rfl
      case hr2 =>
        conv => lhs; whnf
        try rfl
    case kp2 => rfl

theorem same_end {call : CallT} (lf : Nat) {A : Hp} (V0 V1 : Value) (m i : Nat) (hi : ¬ i < m) :
    ∃ σ1, exec Tryd.bk.E call Tryd.f21.ntmps (Tryd.bk.inf 21) lf (loopOf Tryd.f21 0) [(0, V0), (1, V1), (4, .bool false), (12, .int .i64 (m : Nat)), (13, .int .i64 (i : Nat))] A = some (.exit 0, σ1, A) ∧
      keepSl (some [0, 1, 4, 12, 13]) σ1 = [(0, V0), (1, V1), (4, .bool false), (12, .int .i64 (m : Nat)), (13, .int .i64 (i : Nat))] := by
  have e1 : ¬ ((i : Nat) : Int) < ((m : Nat) : Int) := by omega
  refine ⟨?s, kexec_run ?run, ?kp⟩
  case run =>
    conv => lhs; whnf
    rw [kdecn e1]
  case kp => rfl

theorem same_loop {call : CallT} (lf : Nat) {A : Hp} {T1 T2 : List Tk} {V1 V2 : Value} {o1 o2 : Option Nat} (h1 : CanAt 29 3 A V1 o1 (T1.map tkc).flatten T1.length) (h2 : CanAt 29 3 A V2 o2 (T2.map tkc).flatten T2.length) (hl : T1.length = T2.length) (hm : T1.length ≤ 100000000) (hlf : T1.length < lf) :
    ∃ e L, loopD (some [0, 1, 4, 12, 13]) (exec Tryd.bk.E call Tryd.f21.ntmps (Tryd.bk.inf 21) lf (loopOf Tryd.f21 0)) lf [(0, V1), (1, V2), (4, .bool false), (12, .int .i64 (T1.length : Nat)), (13, .int .i64 ((0 : Nat) : Int))] A =
      some (e, [(0, V1), (1, V2), (4, .bool false), (12, .int .i64 (T1.length : Nat)), (13, L)], A) ∧ ((e = .exit 0 ∧ T1 = T2) ∨ (e = .ret ∧ T1 ≠ T2)) := by
  by_cases h0 : T1.length = 0
  · have hT : T1 = T2 := by rw [List.length_eq_zero_iff.1 h0, List.length_eq_zero_iff.1 (by omega : T2.length = 0)]
    obtain ⟨σ1, r1, r2⟩ := same_end (call := call) lf (A := A) V1 V2 T1.length 0 (by omega)
    obtain ⟨k, rfl⟩ : ∃ k, lf = k + 1 := ⟨lf - 1, by omega⟩
    have := loopD_end (ks := some [0, 1, 4, 12, 13]) (n := k) r1 (by simp)
    rw [r2] at this
    exact ⟨_, _, this, .inl ⟨rfl, hT⟩⟩
  · obtain ⟨i1, rfl⟩ : ∃ i, o1 = some i := by
      generalize T1.length = m at h1 h0
      generalize (T1.map tkc).flatten = fl at h1
      cases h1 with
      | nil => exact absurd rfl h0
      | «at» i _ _ _ _ _ => exact ⟨i, rfl⟩
    obtain ⟨i2, rfl⟩ : ∃ i, o2 = some i := by
      rw [hl] at h0
      generalize T2.length = m at h2 h0
      generalize (T2.map tkc).flatten = fl at h2
      cases h2 with
      | nil => exact absurd rfl h0
      | «at» i _ _ _ _ _ => exact ⟨i, rfl⟩
    obtain ⟨rfl, g1, _⟩ := h1.some_form
    obtain ⟨rfl, g2, _⟩ := h2.some_form
    have key := loop_rule (ks := some [0, 1, 4, 12, 13]) (f := exec Tryd.bk.E call Tryd.f21.ntmps (Tryd.bk.inf 21) lf (loopOf Tryd.f21 0)) (S := Nat)
      (fun i => [(0, .slice (some ⟨i1, 0, some 3⟩) T1.length (2 * T1.length)), (1, .slice (some ⟨i2, 0, some 3⟩) T2.length (2 * T2.length)), (4, .bool false), (12, .int .i64 (T1.length : Nat)), (13, .int .i64 (i : Nat))])
      (fun i B => i ≤ T1.length ∧ B = A ∧ T1.take i = T2.take i) (fun i => T1.length - i)
      (fun e σ B => B = A ∧ ∃ L, σ = [(0, .slice (some ⟨i1, 0, some 3⟩) T1.length (2 * T1.length)), (1, .slice (some ⟨i2, 0, some 3⟩) T2.length (2 * T2.length)), (4, .bool false), (12, .int .i64 (T1.length : Nat)), (13, L)] ∧ ((e = .exit 0 ∧ T1 = T2) ∨ (e = .ret ∧ T1 ≠ T2))) (fun i B hs => ?_)
      lf 0 A ⟨Nat.zero_le _, rfl, rfl⟩ (by omega)
    · obtain ⟨e, σ1, A1, r1, rfl, L, rfl, r2⟩ := key
      exact ⟨e, L, r1, r2⟩
    · obtain ⟨z1, rfl, z3⟩ := hs
      by_cases him : i < T1.length
      · obtain ⟨x, hx⟩ : ∃ x, T1[i]? = some x := ⟨_, List.getElem?_eq_getElem him⟩
        obtain ⟨y, hy⟩ : ∃ y, T2[i]? = some y := ⟨_, List.getElem?_eq_getElem (by omega)⟩
        obtain ⟨σ1, e, r1, r2⟩ := same_step (call := call) lf (c1 := 2 * T1.length) (c2 := 2 * T2.length) g1 g2 hl hx hy hm
        rcases r2 with ⟨rfl, rfl, r3⟩ | ⟨hne, rfl, r3⟩
        · exact ⟨.normal, σ1, B, r1, .inl ⟨rfl, i + 1, r3, ⟨him, rfl, by rw [take_succ hx, take_succ hy, z3]⟩, by omega⟩⟩
        · refine ⟨.ret, σ1, B, r1, .inr ⟨by simp, rfl, _, r3, .inr ⟨rfl, fun hT => hne ?_⟩⟩⟩
          rw [hT, hy] at hx
          exact (Option.some.inj hx).symm
      · obtain rfl : i = T1.length := by omega
        obtain ⟨σ1, r1, r2⟩ := same_end (call := call) lf (A := B) (.slice (some ⟨i1, 0, some 3⟩) T1.length (2 * T1.length)) (.slice (some ⟨i2, 0, some 3⟩) T2.length (2 * T2.length)) T1.length T1.length him
        rw [List.take_length, hl, List.take_length] at z3
        exact ⟨.exit 0, σ1, B, r1, .inr ⟨by simp, rfl, _, r2, .inl ⟨rfl, z3⟩⟩⟩

/-- Same -/
theorem same_walk {call : CallT} (lf : Nat) {A : Hp} {T1 T2 : List Tk} {V1 V2 : Value} {o1 o2 : Option Nat} (h1 : CanAt 29 3 A V1 o1 (T1.map tkc).flatten T1.length) (h2 : CanAt 29 3 A V2 o2 (T2.map tkc).flatten T2.length) (hm : T1.length ≤ 100000000) (hlf : T1.length < lf) :
    kfn Tryd.bk.E call (Tryd.bk.inf 21) lf Tryd.f21 [V1, V2] A = some (.bool (decide (T1 = T2)), A) := by
  by_cases hl : T1.length = T2.length
  · obtain ⟨e, L, r1, r2⟩ := same_loop (call := call) lf h1 h2 hl hm hlf
    have e1 : ((T1.length : Nat) : Int) = ((T2.length : Nat) : Int) := by omega
    obtain ⟨a1, c1, rfl⟩ := h1.sl3
    obtain ⟨a2, c2, rfl⟩ := h2.sl3
    rcases r2 with ⟨rfl, r2⟩ | ⟨rfl, r2⟩
    · rw [kdec r2]
      conv => lhs; whnf
      rw [show (((T1.length : Nat) : Int) != ((T2.length : Nat) : Int)) = false from bne_eq_false_iff_eq.2 e1]
      conv => lhs; whnf
      refine bind_of r1 ?_
      conv => lhs; whnf
      try rfl
    · rw [kdecn r2]
      conv => lhs; whnf
      rw [show (((T1.length : Nat) : Int) != ((T2.length : Nat) : Int)) = false from bne_eq_false_iff_eq.2 e1]
      conv => lhs; whnf
      refine bind_of r1 ?_
      conv => lhs; whnf
      try rfl
  · have e1 : ((T1.length : Nat) : Int) ≠ ((T2.length : Nat) : Int) := by omega
    obtain ⟨a1, c1, rfl⟩ := h1.sl3
    obtain ⟨a2, c2, rfl⟩ := h2.sl3
    rw [kdecn (show ¬ T1 = T2 from fun e => hl (by rw [e]))]
    conv => lhs; whnf
    rw [show (((T1.length : Nat) : Int) != ((T2.length : Nat) : Int)) = true from bne_iff_ne.2 e1]
    conv => lhs; whnf
    try rfl
end Go.Dn.Ln
end

section
/-
  the document's lane (layer 11): may a ticket be, where is it
-/
namespace Go.Dn.Ln
open Go.Proofs
set_option maxHeartbeats 4000000
set_option maxRecDepth 100000
attribute [local irreducible] Hp.get Hp.set Hp.push dappend dcopy dstore cellsAt callD loopD

def mayC (k s v : Int) : Int := if k < 1 ∨ 7 < k then 12 else if (s == 0) = decide (k ≥ 5) then (if (k = 1 ∨ k = 2 ∨ k = 4) ∧ v ≠ 0 ∨ k = 3 ∧ v = 0 ∨ k = 7 ∧ v > 2 then 15 else 0) else 14

theorem may_walk {call : CallT} (lf : Nat) (A : Hp) (k s v : Int) :
    kfn Tryd.bk.E call (Tryd.bk.inf 93) lf Tryd.f93 [.agg #[.int .i64 k, .int .u32 s, .int .u32 v]] A = some (.int .i64 (mayC k s v), A.push (.arr 29 [.int .i64 k, .int .u32 s, .int .u32 v] .own)) := by
  have c1 : ∀ o n, cellsAt (A.push (.arr 29 [.int .i64 k, .int .u32 s, .int .u32 v] .own)) A.next o n = cellsIn [.int .i64 k, .int .u32 s, .int .u32 v] o n := fun o n => cellsAt_push_same o n
  by_cases h1 : k < 1
  · rw [show mayC k s v = 12 by unfold mayC; rw [if_pos (.inl h1)]]
    conv => lhs; whnf
    refine bind_of (c1 _ _) ?_
    conv => lhs; whnf
    rw [kdec h1]
    conv => lhs; whnf
    try rfl
  by_cases h7 : k > 7
  · rw [show mayC k s v = 12 by unfold mayC; rw [if_pos (.inr h7)]]
    conv => lhs; whnf
    refine bind_of (c1 _ _) ?_
    conv => lhs; whnf
    rw [kdecn h1]
    conv => lhs; whnf
    rw [kdec h7]
    conv => lhs; whnf
    try rfl
  have h17 : k = 1 ∨ k = 2 ∨ k = 3 ∨ k = 4 ∨ k = 5 ∨ k = 6 ∨ k = 7 := by omega
  rcases h17 with rfl | rfl | rfl | rfl | rfl | rfl | rfl
  · by_cases hs : s = 0
    · rw [show mayC 1 s v = 14 by simp [mayC, hs]]
      conv => lhs; whnf
      refine bind_of (c1 _ _) ?_
      conv => lhs; whnf
      refine bind_of (c1 _ _) ?_
      conv => lhs; whnf
      rw [show (s == 0) = true from beq_iff_eq.2 hs]
      conv => lhs; whnf
      try rfl
    · by_cases hv : v = 0
      · rw [show mayC 1 s v = 0 by simp [mayC, hs, hv]]
        conv => lhs; whnf
        refine bind_of (c1 _ _) ?_
        conv => lhs; whnf
        refine bind_of (c1 _ _) ?_
        conv => lhs; whnf
        rw [show (s == 0) = false from beq_eq_false_iff_ne.2 hs]
        conv => lhs; whnf
        refine bind_of (c1 _ _) ?_
        conv => lhs; whnf
        rw [show (v != 0) = false from bne_eq_false_iff_eq.2 hv]
        conv => lhs; whnf
        try rfl
      · rw [show mayC 1 s v = 15 by simp [mayC, hs, hv]]
        conv => lhs; whnf
        refine bind_of (c1 _ _) ?_
        conv => lhs; whnf
        refine bind_of (c1 _ _) ?_
        conv => lhs; whnf
        rw [show (s == 0) = false from beq_eq_false_iff_ne.2 hs]
        conv => lhs; whnf
        refine bind_of (c1 _ _) ?_
        conv => lhs; whnf
        rw [show (v != 0) = true from bne_iff_ne.2 hv]
        conv => lhs; whnf
        try rfl
  · by_cases hs : s = 0
    · rw [show mayC 2 s v = 14 by simp [mayC, hs]]
      conv => lhs; whnf
      refine bind_of (c1 _ _) ?_
      conv => lhs; whnf
      refine bind_of (c1 _ _) ?_
      conv => lhs; whnf
      rw [show (s == 0) = true from beq_iff_eq.2 hs]
      conv => lhs; whnf
      try rfl
    · by_cases hv : v = 0
      · rw [show mayC 2 s v = 0 by simp [mayC, hs, hv]]
        conv => lhs; whnf
        refine bind_of (c1 _ _) ?_
        conv => lhs; whnf
        refine bind_of (c1 _ _) ?_
        conv => lhs; whnf
        rw [show (s == 0) = false from beq_eq_false_iff_ne.2 hs]
        conv => lhs; whnf
        refine bind_of (c1 _ _) ?_
        conv => lhs; whnf
        rw [show (v != 0) = false from bne_eq_false_iff_eq.2 hv]
        conv => lhs; whnf
        try rfl
      · rw [show mayC 2 s v = 15 by simp [mayC, hs, hv]]
        conv => lhs; whnf
        refine bind_of (c1 _ _) ?_
        conv => lhs; whnf
        refine bind_of (c1 _ _) ?_
        conv => lhs; whnf
        rw [show (s == 0) = false from beq_eq_false_iff_ne.2 hs]
        conv => lhs; whnf
        refine bind_of (c1 _ _) ?_
        conv => lhs; whnf
        rw [show (v != 0) = true from bne_iff_ne.2 hv]
        conv => lhs; whnf
        try rfl
  · by_cases hs : s = 0
    · rw [show mayC 3 s v = 14 by simp [mayC, hs]]
      conv => lhs; whnf
      refine bind_of (c1 _ _) ?_
      conv => lhs; whnf
      refine bind_of (c1 _ _) ?_
      conv => lhs; whnf
      rw [show (s == 0) = true from beq_iff_eq.2 hs]
      conv => lhs; whnf
      try rfl
    · by_cases hv : v = 0
      · rw [show mayC 3 s v = 15 by simp [mayC, hs, hv]]
        conv => lhs; whnf
        refine bind_of (c1 _ _) ?_
        conv => lhs; whnf
        refine bind_of (c1 _ _) ?_
        conv => lhs; whnf
        rw [show (s == 0) = false from beq_eq_false_iff_ne.2 hs]
        conv => lhs; whnf
        refine bind_of (c1 _ _) ?_
        conv => lhs; whnf
        rw [show (v == 0) = true from beq_iff_eq.2 hv]
        conv => lhs; whnf
        try rfl
      · rw [show mayC 3 s v = 0 by simp [mayC, hs, hv]]
        conv => lhs; whnf
        refine bind_of (c1 _ _) ?_
        conv => lhs; whnf
        refine bind_of (c1 _ _) ?_
        conv => lhs; whnf
        rw [show (s == 0) = false from beq_eq_false_iff_ne.2 hs]
        conv => lhs; whnf
        refine bind_of (c1 _ _) ?_
        conv => lhs; whnf
        rw [show (v == 0) = false from beq_eq_false_iff_ne.2 hv]
        conv => lhs; whnf
        try rfl
  · by_cases hs : s = 0
    · rw [show mayC 4 s v = 14 by simp [mayC, hs]]
      conv => lhs; whnf
      refine bind_of (c1 _ _) ?_
      conv => lhs; whnf
      refine bind_of (c1 _ _) ?_
      conv => lhs; whnf
      rw [show (s == 0) = true from beq_iff_eq.2 hs]
      conv => lhs; whnf
      try rfl
    · by_cases hv : v = 0
      · rw [show mayC 4 s v = 0 by simp [mayC, hs, hv]]
        conv => lhs; whnf
        refine bind_of (c1 _ _) ?_
        conv => lhs; whnf
        refine bind_of (c1 _ _) ?_
        conv => lhs; whnf
        rw [show (s == 0) = false from beq_eq_false_iff_ne.2 hs]
        conv => lhs; whnf
        refine bind_of (c1 _ _) ?_
        conv => lhs; whnf
        rw [show (v != 0) = false from bne_eq_false_iff_eq.2 hv]
        conv => lhs; whnf
        try rfl
      · rw [show mayC 4 s v = 15 by simp [mayC, hs, hv]]
        conv => lhs; whnf
        refine bind_of (c1 _ _) ?_
        conv => lhs; whnf
        refine bind_of (c1 _ _) ?_
        conv => lhs; whnf
        rw [show (s == 0) = false from beq_eq_false_iff_ne.2 hs]
        conv => lhs; whnf
        refine bind_of (c1 _ _) ?_
        conv => lhs; whnf
        rw [show (v != 0) = true from bne_iff_ne.2 hv]
        conv => lhs; whnf
        try rfl
  · by_cases hs : s = 0
    · rw [show mayC 5 s v = 0 by simp [mayC, hs]]
      conv => lhs; whnf
      refine bind_of (c1 _ _) ?_
      conv => lhs; whnf
      refine bind_of (c1 _ _) ?_
      conv => lhs; whnf
      rw [show (s == 0) = true from beq_iff_eq.2 hs]
      conv => lhs; whnf
      try rfl
    · rw [show mayC 5 s v = 14 by simp [mayC, hs]]
      conv => lhs; whnf
      refine bind_of (c1 _ _) ?_
      conv => lhs; whnf
      refine bind_of (c1 _ _) ?_
      conv => lhs; whnf
      rw [show (s == 0) = false from beq_eq_false_iff_ne.2 hs]
      conv => lhs; whnf
      try rfl
  · by_cases hs : s = 0
    · rw [show mayC 6 s v = 0 by simp [mayC, hs]]
      conv => lhs; whnf
      refine bind_of (c1 _ _) ?_
      conv => lhs; whnf
      refine bind_of (c1 _ _) ?_
      conv => lhs; whnf
      rw [show (s == 0) = true from beq_iff_eq.2 hs]
      conv => lhs; whnf
      try rfl
    · rw [show mayC 6 s v = 14 by simp [mayC, hs]]
      conv => lhs; whnf
      refine bind_of (c1 _ _) ?_
      conv => lhs; whnf
      refine bind_of (c1 _ _) ?_
      conv => lhs; whnf
      rw [show (s == 0) = false from beq_eq_false_iff_ne.2 hs]
      conv => lhs; whnf
      try rfl
  · by_cases hs : s = 0
    · by_cases hv : v > 2
      · rw [show mayC 7 s v = 15 by simp [mayC, hs, hv]]
        conv => lhs; whnf
        refine bind_of (c1 _ _) ?_
        conv => lhs; whnf
        refine bind_of (c1 _ _) ?_
        conv => lhs; whnf
        rw [show (s == 0) = true from beq_iff_eq.2 hs]
        conv => lhs; whnf
        refine bind_of (c1 _ _) ?_
        conv => lhs; whnf
        rw [kdec hv]
        conv => lhs; whnf
        try rfl
      · rw [show mayC 7 s v = 0 by simp [mayC, hs, hv]]
        conv => lhs; whnf
        refine bind_of (c1 _ _) ?_
        conv => lhs; whnf
        refine bind_of (c1 _ _) ?_
        conv => lhs; whnf
        rw [show (s == 0) = true from beq_iff_eq.2 hs]
        conv => lhs; whnf
        refine bind_of (c1 _ _) ?_
        conv => lhs; whnf
        rw [kdecn hv]
        conv => lhs; whnf
        try rfl
    · rw [show mayC 7 s v = 14 by simp [mayC, hs]]
      conv => lhs; whnf
      refine bind_of (c1 _ _) ?_
      conv => lhs; whnf
      refine bind_of (c1 _ _) ?_
      conv => lhs; whnf
      rw [show (s == 0) = false from beq_eq_false_iff_ne.2 hs]
      conv => lhs; whnf
      try rfl
end Go.Dn.Ln
end

section
/-
  the document's lane (layer 11): lists of tickets as they lie; Find, Count
-/
namespace Go.Dn.Ln
open Go.Proofs
set_option maxHeartbeats 4000000
set_option maxRecDepth 100000
attribute [local irreducible] Hp.get Hp.set Hp.push dappend dcopy dstore cellsAt callD loopD

/-- a list of tickets of one's own -/
structure TsAt (A : Hp) (V : Value) (io : Option Nat) (ts : List Tk) : Prop where
  form : ∃ a c, V = .slice a ts.length c ∧ (ts ≠ [] → ∃ i, io = some i ∧ a = some ⟨i, 0, some 3⟩ ∧ A.get i = some (.arr 29 (ts.map tkc).flatten .own))
  sl : SlAt 29 3 A V io (ts.map tkc).flatten ts.length
theorem CanAt.ts {A : Hp} {V : Value} {io : Option Nat} {ts : List Tk} (h : CanAt 29 3 A V io (ts.map tkc).flatten ts.length) : TsAt A V io ts := by
  obtain ⟨a, c, rfl⟩ := h.sl3
  refine ⟨⟨a, c, rfl, fun hne => ?_⟩, h.slAt⟩
  obtain ⟨i, rfl⟩ := can_some h (fun e => hne (List.length_eq_zero_iff.1 e))
  obtain ⟨e, g, _⟩ := h.some_form
  simp only [Value.slice.injEq] at e
  exact ⟨i, rfl, e.1, g⟩
theorem TsAt.keep {A A' : Hp} {V : Value} {io : Option Nat} {ts : List Tk} (h : TsAt A V io ts) (hk : ∀ i, io = some i → A'.get i = A.get i) : TsAt A' V io ts := by
  obtain ⟨a, c, h1, h2⟩ := h.form
  refine ⟨⟨a, c, h1, fun hne => ?_⟩, h.sl.keep hk⟩
  obtain ⟨i, g1, g2, g3⟩ := h2 hne
  exact ⟨i, g1, g2, by rw [hk i g1]; exact g3⟩
theorem TsAt.lt {A : Hp} {V : Value} {i : Nat} {ts : List Tk} (h : TsAt A V (some i) ts) (hw : A.wf) : i < A.next := by
  obtain ⟨cs, hcs⟩ := h.sl.lt
  exact hw.lt hcs

theorem row_cells {cs : List Value} {o : Nat} {a b c : Value} (h : cellsIn cs o 3 = some [a, b, c]) : cellsIn cs o 1 = some [a] ∧ cellsIn cs (o + 1) 1 = some [b] ∧ cellsIn cs (o + 2) 1 = some [c] := by
  by_cases hl : o + 3 ≤ cs.length
  · have hb : Nat.ble (o + 3) cs.length = true := by simpa using hl
    unfold cellsIn at h
    rw [hb] at h
    simp only [cond_true, Option.some.injEq] at h
    have e1 : (cs.drop o)[0]? = some a := by
      have := congrArg (fun l => l[0]?) h
      simpa [List.getElem?_take] using this
    have e2 : (cs.drop o)[1]? = some b := by
      have := congrArg (fun l => l[1]?) h
      simpa [List.getElem?_take] using this
    have e3 : (cs.drop o)[2]? = some c := by
      have := congrArg (fun l => l[2]?) h
      simpa [List.getElem?_take] using this
    rw [List.getElem?_drop] at e1 e2 e3
    have one : ∀ j x, cs[j]? = some x → (cs.drop j).take 1 = [x] := fun j x hx => by
      obtain ⟨h1, h2⟩ := List.getElem?_eq_some_iff.1 hx
      rw [List.drop_eq_getElem_cons h1, h2]; rfl
    exact ⟨cellsIn_of (by omega) (one _ _ e1), cellsIn_of (by omega) (one _ _ e2), cellsIn_of (by omega) (one _ _ e3)⟩
  · have hb : Nat.ble (o + 3) cs.length = false := by
      cases h2 : Nat.ble (o + 3) cs.length with
      | false => rfl
      | true => exact absurd (by simpa using h2) hl
    unfold cellsIn at h
    rw [hb] at h
    cases h

theorem find_step {call : CallT} (lf : Nat) {A : Hp} {ts : List Tk} {it c i : Nat} (hg : A.get it = some (.arr 29 (ts.map tkc).flatten .own)) (k s : Int) {x : Tk} (hx : ts[i]? = some x) (hm : ts.length ≤ 100000000) :
    ∃ σ1 e, exec Tryd.bk.E call Tryd.f82.ntmps (Tryd.bk.inf 82) lf (loopOf Tryd.f82 0) [(0, .slice (some ⟨it, 0, some 3⟩) ts.length c), (1, .int .i64 k), (2, .int .u32 s), (6, .int .i64 0), (7, .int .i64 (i : Nat))] A = some (e, σ1, A) ∧
      ((wm k s x = false ∧ e = .normal ∧ keepSl (some [0, 1, 2, 6, 7]) σ1 = [(0, .slice (some ⟨it, 0, some 3⟩) ts.length c), (1, .int .i64 k), (2, .int .u32 s), (6, .int .i64 0), (7, .int .i64 (i + 1 : Nat))]) ∨
        (wm k s x = true ∧ e = .ret ∧ keepSl (some [0, 1, 2, 6, 7]) σ1 = [(0, .slice (some ⟨it, 0, some 3⟩) ts.length c), (1, .int .i64 k), (2, .int .u32 s), (6, .int .i64 (i : Nat)), (7, .int .i64 (i : Nat))])) := by
  have hi : i < ts.length := (List.getElem?_eq_some_iff.1 hx).1
  have e1 : ((i : Nat) : Int) < ((ts.length : Nat) : Int) := by omega
  have hw2 : IntKind.i64.wrap ((i : Int) + 1) = ((i + 1 : Nat) : Int) := by rw [w64 (by omega) (by omega)]; omega
  obtain ⟨xk, xs, xv⟩ := x
  obtain ⟨r0, r1, r2⟩ := row_cells (show cellsIn (ts.map tkc).flatten (0 + i * 3) 3 = some [.int .i64 (xk : Nat), .int .u32 xs, .int .u32 xv] from tick_row hx)
  by_cases hk : ((xk : Nat) : Int) = k
  · by_cases hs : xs = s
    · have hm : wm k s (xk, xs, xv) = true := by simp [wm, hk, hs]
      refine ⟨?s1, .ret, kexec_run ?run1, .inr ⟨hm, rfl, ?kp1⟩⟩
      case run1 =>
        conv => lhs; whnf
        rw [kdec e1]
        conv => lhs; whnf
        rw [kdec e1]
        conv => lhs; whnf
        refine bind_of ((cellsAt_of hg _ _).trans r0) ?_
        conv => lhs; whnf
        rw [show (((xk : Nat) : Int) == k) = true from beq_iff_eq.2 hk]
        conv => lhs; whnf
        rw [kdec e1]
        conv => lhs; whnf
        refine bind_of ((cellsAt_of hg _ _).trans r1) ?_
        conv => lhs; whnf
        rw [show (xs == s) = true from beq_iff_eq.2 hs]
        conv => lhs; whnf
        try rfl
      case kp1 => rfl
    · have hm : wm k s (xk, xs, xv) = false := by simp [wm, hs]
      refine ⟨?s2, .normal, kexec_run ?run2, .inl ⟨hm, rfl, ?kp2⟩⟩
      case run2 =>
        conv => lhs; whnf
        rw [kdec e1]
        conv => lhs; whnf
        rw [kdec e1]
        conv => lhs; whnf
        refine bind_of ((cellsAt_of hg _ _).trans r0) ?_
        conv => lhs; whnf
        rw [show (((xk : Nat) : Int) == k) = true from beq_iff_eq.2 hk]
        conv => lhs; whnf
        rw [kdec e1]
        conv => lhs; whnf
        refine bind_of ((cellsAt_of hg _ _).trans r1) ?_
        conv => lhs; whnf
        rw [show (xs == s) = false from beq_eq_false_iff_ne.2 hs]
        conv => lhs; whnf
        try rfl
      case kp2 =>
        show [_, _, _, _, (7, Value.int .i64 (IntKind.i64.wrap ((i : Int) + 1)))] = _
        rw [hw2]
  · have hm : wm k s (xk, xs, xv) = false := by simp [wm, hk]
    refine ⟨?s3, .normal, kexec_run ?run3, .inl ⟨hm, rfl, ?kp3⟩⟩
    case run3 =>
      conv => lhs; whnf
      rw [kdec e1]
      conv => lhs; whnf
      rw [kdec e1]
      conv => lhs; whnf
      refine bind_of ((cellsAt_of hg _ _).trans r0) ?_
      conv => lhs; whnf
      rw [show (((xk : Nat) : Int) == k) = false from beq_eq_false_iff_ne.2 hk]
      conv => lhs; whnf
      try rfl
    case kp3 =>
      show [_, _, _, _, (7, Value.int .i64 (IntKind.i64.wrap ((i : Int) + 1)))] = _
      rw [hw2]

/-- where the first of that kind and stream is -/
def findT (ts : List Tk) (k s : Int) : Int := if ts.any (wm k s) then ((ts.findIdx (wm k s) : Nat) : Int) else -1

theorem find_end {call : CallT} (lf : Nat) {A : Hp} (a : Option Addr) (m c i : Nat) (V1 V2 : Value) (hi : ¬ i < m) :
    ∃ σ1, exec Tryd.bk.E call Tryd.f82.ntmps (Tryd.bk.inf 82) lf (loopOf Tryd.f82 0) [(0, .slice a m c), (1, V1), (2, V2), (6, .int .i64 0), (7, .int .i64 (i : Nat))] A = some (.exit 0, σ1, A) ∧
      keepSl (some [0, 1, 2, 6, 7]) σ1 = [(0, .slice a m c), (1, V1), (2, V2), (6, .int .i64 0), (7, .int .i64 (i : Nat))] := by
  have e1 : ¬ ((i : Nat) : Int) < ((m : Nat) : Int) := by omega
  refine ⟨?s, kexec_run ?run, ?kp⟩
  case run =>
    conv => lhs; whnf
    rw [kdecn e1]
  case kp => rfl

theorem find_walk {call : CallT} (lf : Nat) {A : Hp} {V : Value} {io : Option Nat} {ts : List Tk} (h : TsAt A V io ts) (k s : Int) (hm : ts.length ≤ 100000000) (hlf : ts.length < lf) :
    kfn Tryd.bk.E call (Tryd.bk.inf 82) lf Tryd.f82 [V, .int .i64 k, .int .u32 s] A = some (.int .i64 (findT ts k s), A) := by
  obtain ⟨a, c, rfl, hf⟩ := h.form
  have key : ∃ e J L, loopD (some [0, 1, 2, 6, 7]) (exec Tryd.bk.E call Tryd.f82.ntmps (Tryd.bk.inf 82) lf (loopOf Tryd.f82 0)) lf [(0, .slice a ts.length c), (1, .int .i64 k), (2, .int .u32 s), (6, .int .i64 0), (7, .int .i64 ((0 : Nat) : Int))] A =
      some (e, [(0, .slice a ts.length c), (1, .int .i64 k), (2, .int .u32 s), (6, J), (7, L)], A) ∧ ((e = .exit 0 ∧ ts.any (wm k s) = false) ∨ (e = .ret ∧ ts.any (wm k s) = true ∧ J = .int .i64 (ts.findIdx (wm k s) : Nat))) := by
    by_cases h0 : ts = []
    · obtain ⟨σ1, r1, r2⟩ := find_end (call := call) lf (A := A) a ts.length c 0 (.int .i64 k) (.int .u32 s) (by rw [h0]; simp)
      have := loop_out' (ks := some [0, 1, 2, 6, 7]) r1 (by simp) (n := lf) (by omega)
      rw [r2] at this
      exact ⟨_, _, _, this, .inl ⟨rfl, by rw [h0]; rfl⟩⟩
    · obtain ⟨it, _, rfl, hg⟩ := hf h0
      have key := loop_rule (ks := some [0, 1, 2, 6, 7]) (f := exec Tryd.bk.E call Tryd.f82.ntmps (Tryd.bk.inf 82) lf (loopOf Tryd.f82 0)) (S := Nat)
        (fun i => [(0, .slice (some ⟨it, 0, some 3⟩) ts.length c), (1, .int .i64 k), (2, .int .u32 s), (6, .int .i64 0), (7, .int .i64 (i : Nat))])
        (fun i B => i ≤ ts.length ∧ B = A ∧ (ts.take i).any (wm k s) = false) (fun i => ts.length - i)
        (fun e σ B => B = A ∧ ∃ J L, σ = [(0, .slice (some ⟨it, 0, some 3⟩) ts.length c), (1, .int .i64 k), (2, .int .u32 s), (6, J), (7, L)] ∧ ((e = .exit 0 ∧ ts.any (wm k s) = false) ∨ (e = .ret ∧ ts.any (wm k s) = true ∧ J = .int .i64 (ts.findIdx (wm k s) : Nat)))) (fun i B hs => ?_)
        lf 0 A ⟨Nat.zero_le _, rfl, by simp⟩ (by omega)
      · obtain ⟨e, σ1, A1, r1, rfl, J, L, rfl, r2⟩ := key
        exact ⟨e, J, L, r1, r2⟩
      · obtain ⟨z1, rfl, z3⟩ := hs
        by_cases him : i < ts.length
        · obtain ⟨x, hx⟩ : ∃ x, ts[i]? = some x := ⟨_, List.getElem?_eq_getElem him⟩
          obtain ⟨σ1, e, r1, r2⟩ := find_step (call := call) lf (c := c) hg k s hx hm
          rcases r2 with ⟨hw, rfl, r3⟩ | ⟨hw, rfl, r3⟩
          · exact ⟨.normal, σ1, B, r1, .inl ⟨rfl, i + 1, r3, ⟨him, rfl, by rw [take_succ hx, List.any_append, z3]; simp [hw]⟩, by omega⟩⟩
          · refine ⟨.ret, σ1, B, r1, .inr ⟨by simp, rfl, _, _, r3, .inr ⟨rfl, ?_, ?_⟩⟩⟩
            · exact List.any_eq_true.2 ⟨x, List.mem_of_getElem? hx, hw⟩
            · have hsp : ts = ts.take i ++ x :: ts.drop (i + 1) := by
                obtain ⟨h1, h2⟩ := List.getElem?_eq_some_iff.1 hx
                rw [← h2, ← List.drop_eq_getElem_cons h1, List.take_append_drop]
              have : ts.findIdx (wm k s) = i := by
                rw [hsp, List.findIdx_append]
                have h1 : List.findIdx (wm k s) (ts.take i) = (ts.take i).length := List.findIdx_eq_length.2 fun y hy => by
                  have := List.any_eq_false.1 z3 y hy
                  simpa using this
                rw [h1, if_neg (Nat.lt_irrefl _), List.findIdx_cons, hw, List.length_take]
                simp
                omega
              rw [this]
        · obtain rfl : i = ts.length := by omega
          obtain ⟨σ1, r1, r2⟩ := find_end (call := call) lf (A := B) (some ⟨it, 0, some 3⟩) ts.length c ts.length (.int .i64 k) (.int .u32 s) him
          rw [List.take_length] at z3
          exact ⟨.exit 0, σ1, B, r1, .inr ⟨by simp, rfl, _, _, r2, .inl ⟨rfl, z3⟩⟩⟩
  obtain ⟨e, J, L, r1, r2⟩ := key
  unfold findT
  rcases r2 with ⟨rfl, r2⟩ | ⟨rfl, r2, rfl⟩
  · rw [r2]
    conv => lhs; whnf
    refine bind_of r1 ?_
    conv => lhs; whnf
    try rfl
  · rw [r2]
    conv => lhs; whnf
    refine bind_of r1 ?_
    conv => lhs; whnf
    try rfl
end Go.Dn.Ln
end

section
/-
  the document's lane (layer 11): Without, Count
-/
namespace Go.Dn.Ln
open Go.Proofs
set_option maxHeartbeats 4000000
set_option maxRecDepth 100000

/-- an append of nothing -/
theorem append_none {E : Env} {t t2 e sz bz : Nat} (hE : ElT E t e sz bz) (hE2 : ∃ i e2, E.T t2 = some i ∧ i.d = .slice e2) {A : Hp} {v x : Value} {io : Option Nat} {us ys : List Value} {n : Nat}
    (hv : SlAt e sz A v io us n) (hx : elemsOf A sz x = some (0, ys)) : dappend E t t2 A v x = some (v, A) := by
  obtain ⟨⟨i, h1, h2⟩, ⟨j, z, h3, h4, h5, h6, h7⟩, h8⟩ := hE
  obtain ⟨i2, e2, g1, g2⟩ := hE2
  unfold dappend
  rw [h1, g1]
  simp only [Option.bind_some, h2, g2, h3, h6, h4, hx]
  cases hv with
  | nil => rfl
  | «at» => rfl

theorem flat_tkc (r : List Tk) : (r.map tkc).flatten.length = r.length * 3 := by
  induction r with
  | nil => rfl
  | cons a l ih => simp only [List.map_cons, List.flatten_cons, List.length_append, ih, List.length_cons]; simp [tkc]; omega

theorem app_ts {A : Hp} (hw : A.wf) {V : Value} {io : Option Nat} {ts r : List Tk} (h : TsAt A V io ts) {x : Value} (hx : elemsOf A 3 x = some (r.length, (r.map tkc).flatten)) (hb : ts.length + r.length ≤ 200000000) :
    ∃ V' io' A', dappend Tryd.bk.E 22 22 A V x = some (V', A') ∧ TsAt A' V' io' (ts ++ r) ∧ A'.wf ∧ A.next ≤ A'.next ∧ (io' = io ∨ ∀ j, io' = some j → A.next ≤ j) ∧ ∀ j, j < A.next → io ≠ some j → A'.get j = A.get j := by
  by_cases h0 : r.length = 0
  · have hr : r = [] := List.length_eq_zero_iff.1 h0
    rw [h0] at hx
    refine ⟨V, io, A, append_none elT elT2 h.sl hx, by rw [hr, List.append_nil]; exact h, hw, Nat.le_refl _, .inl rfl, fun _ _ _ => rfl⟩
  · obtain ⟨v', A', i', a1, a2, a3, a4, a5, a6⟩ := append_sl elT elT2 h.sl hx (flat_tkc r) h0 (by omega) (by unfold maxLen; omega)
    refine ⟨v', some i', A', a1, CanAt.ts ?_, a5 hw, a4, .inr fun j hj => by cases hj; exact a3, a6⟩
    rw [List.map_append, List.flatten_append, List.length_append]
    exact a2

/-- a part of such a list -/
theorem sub_ts {A : Hp} {it : Nat} {ts : List Tk} (hg : A.get it = some (.arr 29 (ts.map tkc).flatten .own)) (o m c : Nat) (hl : o + m ≤ ts.length) :
    elemsOf A 3 (.slice (some ⟨it, 0 + o * 3, some 3⟩) m c) = some (((ts.drop o).take m).length, (((ts.drop o).take m).map tkc).flatten) := by
  have hlen : ((ts.drop o).take m).length = m := by rw [List.length_take, List.length_drop]; omega
  have hsp : ts = ts.take o ++ ((ts.drop o).take m ++ (ts.drop o).drop m) := by rw [List.take_append_drop, List.take_append_drop]
  have hu : ((ts.map tkc).flatten.drop (o * 3)).take (m * 3) = (((ts.drop o).take m).map tkc).flatten := by
    conv => lhs; rw [hsp]
    rw [List.map_append, List.flatten_append, List.map_append, List.flatten_append]
    have l1 : ((ts.take o).map tkc).flatten.length = o * 3 := by rw [flat_tkc, List.length_take]; congr 1; omega
    rw [← l1, List.drop_left]
    have l2 : (((ts.drop o).take m).map tkc).flatten.length = m * 3 := by rw [flat_tkc, hlen]
    rw [← l2, List.take_left]
  rw [hlen, Nat.zero_add]
  exact (SlAt.elems (SlAt.at (e := 29) (sz := 3) it (o * 3) m (2 * m) (ts.map tkc).flatten _ (.inl rfl) hg (by rw [flat_tkc]; omega) hu) : elemsOf A 3 (.slice (some ⟨it, o * 3, some 3⟩) m (2 * m)) = _)

section
attribute [local irreducible] Hp.get Hp.set Hp.push dappend dcopy dstore cellsAt callD loopD

theorem emp_ts {A : Hp} {i : Nat} (hg : A.get i = some (.arr 29 [] .own)) : TsAt A (.slice (some ⟨i, 0, some 3⟩) 0 1) (some i) [] :=
  ⟨⟨_, _, rfl, fun h => absurd rfl h⟩, .at i 0 0 1 [] [] (.inr rfl) hg (by simp) rfl⟩

theorem TsAt.cap {A : Hp} {a : Option Addr} {n c : Nat} {io : Option Nat} {ts : List Tk} (h : TsAt A (.slice a n c) io ts) : c / 2 = n ∧ n = ts.length := by
  have hs := h.sl
  generalize ts.length = m at hs ⊢
  generalize (ts.map tkc).flatten = fl at hs
  cases hs with
  | nil => exact ⟨rfl, rfl⟩
  | «at» _ _ _ _ _ _ hc => exact ⟨by omega, rfl⟩

/-- Without -/
theorem without_walk {call : CallT} (lf : Nat) {A : Hp} (hw : A.wf) {V : Value} {io : Option Nat} {ts : List Tk} (h : TsAt A V io ts) {i : Nat} (hi : i < ts.length) (hm : ts.length ≤ 100000000) :
    ∃ V' io' A', kfn Tryd.bk.E call (Tryd.bk.inf 81) lf Tryd.f81 [V, .int .i64 (i : Nat)] A = some (V', A') ∧ TsAt A' V' io' (ts.eraseIdx i) ∧ Kp A A' ∧ ∀ j, io' = some j → A.next ≤ j := by
  obtain ⟨a, c, rfl, hf⟩ := h.form
  obtain ⟨it, rfl, rfl, hg⟩ := hf (fun e => by rw [e] at hi; simp at hi)
  have hitl := hw.lt hg
  let B : Hp := A.push (.arr 29 [] .own)
  have k1 : Kp A B := Kp.push hw _
  have n1 : B.next = A.next + 1 := by simp [B]
  have t0 : TsAt B (.slice (some ⟨A.next, 0, some 3⟩) 0 1) (some A.next) [] := emp_ts (Hp.get_push_same _ _)
  have hgB : B.get it = some (.arr 29 (ts.map tkc).flatten .own) := by rw [k1.old _ hitl]; exact hg
  obtain ⟨V1, io1, B1, a1, a2, a3, a4, a5, a6⟩ := app_ts k1.wf t0 (sub_ts hgB 0 i (2 * (c / 2) + c % 2) (by omega)) (by rw [List.length_take, List.length_drop]; simp; omega)
  have n2 := a4
  have hgB1 : B1.get it = some (.arr 29 (ts.map tkc).flatten .own) := by rw [a6 it (by omega) (by simp; omega)]; exact hgB
  have hio1 : ∀ j, io1 = some j → A.next ≤ j := fun j hj => by
    rcases a5 with e | e
    · rw [e] at hj; cases hj; exact Nat.le_refl _
    · have := e j hj; omega
  obtain ⟨V2, io2, B2, b1, b2, b3, b4, b5, b6⟩ := app_ts a3 a2 (sub_ts hgB1 (i + 1) (ts.length - (i + 1)) (2 * (c / 2 - (i + 1)) + c % 2) (by omega)) (by simp only [List.length_append, List.length_take, List.length_drop, List.length_nil]; omega)
  have hio2 : ∀ j, io2 = some j → A.next ≤ j := fun j hj => by
    rcases b5 with e | e
    · exact hio1 j (by rw [← e]; exact hj)
    · have := e j hj; omega
  have hres : [] ++ (ts.drop 0).take i ++ (ts.drop (i + 1)).take (ts.length - (i + 1)) = ts.eraseIdx i := by
    have h2 : (ts.drop (i + 1)).take (ts.length - (i + 1)) = ts.drop (i + 1) := List.take_of_length_le (by rw [List.length_drop]; omega)
    rw [List.nil_append, List.drop_zero, h2, List.eraseIdx_eq_take_drop_succ]
  rw [hres] at b2
  have kB : Kp A B2 := ⟨b3, by omega, fun j hj => by rw [b6 j (by omega) (fun e => by have := hio1 j e; omega), a6 j (by omega) (by simp; omega), k1.old j hj]⟩
  have hcap := h.cap.1
  have e1 : ((i : Nat) : Int) ≤ ((c / 2 : Nat) : Int) := by omega
  have hw2 : IntKind.i64.wrap ((i : Int) + 1) = ((i + 1 : Nat) : Int) := by rw [w64 (by omega) (by omega)]; omega
  have e2 : (0 : Int) ≤ ((i + 1 : Nat) : Int) := by omega
  have e3 : ((i + 1 : Nat) : Int) ≤ ((ts.length : Nat) : Int) := by omega
  refine ⟨V2, io2, B2, ?run, b2, kB, hio2⟩
  case run =>
    conv => lhs; whnf
    rw [kdec e1]
    conv => lhs; whnf
    refine bind_of a1 ?_
    conv => lhs; whnf
    rw [hw2, kdec e2]
    conv => lhs; whnf
    rw [kdec e3]
    conv => lhs; whnf
    refine bind_of b1 ?_
    conv => lhs; whnf
    try rfl
end
end Go.Dn.Ln
end

section
/-
  the document's lane (layer 11): Same of such lists, Count, Forget
-/
namespace Go.Dn.Ln
open Go.Proofs
set_option maxHeartbeats 4000000
set_option maxRecDepth 100000
attribute [local irreducible] Hp.get Hp.set Hp.push dappend dcopy dstore cellsAt callD loopD

theorem same_loop_ts {call : CallT} (lf : Nat) {A : Hp} {T1 T2 : List Tk} {V1 V2 : Value} {o1 o2 : Option Nat} (h1 : TsAt A V1 o1 T1) (h2 : TsAt A V2 o2 T2) (hl : T1.length = T2.length) (hm : T1.length ≤ 100000000) (hlf : T1.length < lf) :
    ∃ e L, loopD (some [0, 1, 4, 12, 13]) (exec Tryd.bk.E call Tryd.f21.ntmps (Tryd.bk.inf 21) lf (loopOf Tryd.f21 0)) lf [(0, V1), (1, V2), (4, .bool false), (12, .int .i64 (T1.length : Nat)), (13, .int .i64 ((0 : Nat) : Int))] A =
      some (e, [(0, V1), (1, V2), (4, .bool false), (12, .int .i64 (T1.length : Nat)), (13, L)], A) ∧ ((e = .exit 0 ∧ T1 = T2) ∨ (e = .ret ∧ T1 ≠ T2)) := by
  by_cases h0 : T1.length = 0
  · have hT : T1 = T2 := by rw [List.length_eq_zero_iff.1 h0, List.length_eq_zero_iff.1 (by omega : T2.length = 0)]
    obtain ⟨σ1, r1, r2⟩ := same_end (call := call) lf (A := A) V1 V2 T1.length 0 (by omega)
    obtain ⟨k, rfl⟩ : ∃ k, lf = k + 1 := ⟨lf - 1, by omega⟩
    have := loopD_end (ks := some [0, 1, 4, 12, 13]) (n := k) r1 (by simp)
    rw [r2] at this
    exact ⟨_, _, this, .inl ⟨rfl, hT⟩⟩
  · obtain ⟨a1, c1, rfl, f1⟩ := h1.form
    obtain ⟨a2, c2, rfl, f2⟩ := h2.form
    obtain ⟨i1, _, rfl, g1⟩ := f1 (fun e => h0 (by rw [e]; rfl))
    obtain ⟨i2, _, rfl, g2⟩ := f2 (fun e => h0 (by rw [hl, e]; rfl))
    have key := loop_rule (ks := some [0, 1, 4, 12, 13]) (f := exec Tryd.bk.E call Tryd.f21.ntmps (Tryd.bk.inf 21) lf (loopOf Tryd.f21 0)) (S := Nat)
      (fun i => [(0, .slice (some ⟨i1, 0, some 3⟩) T1.length c1), (1, .slice (some ⟨i2, 0, some 3⟩) T2.length c2), (4, .bool false), (12, .int .i64 (T1.length : Nat)), (13, .int .i64 (i : Nat))])
      (fun i B => i ≤ T1.length ∧ B = A ∧ T1.take i = T2.take i) (fun i => T1.length - i)
      (fun e σ B => B = A ∧ ∃ L, σ = [(0, .slice (some ⟨i1, 0, some 3⟩) T1.length c1), (1, .slice (some ⟨i2, 0, some 3⟩) T2.length c2), (4, .bool false), (12, .int .i64 (T1.length : Nat)), (13, L)] ∧ ((e = .exit 0 ∧ T1 = T2) ∨ (e = .ret ∧ T1 ≠ T2))) (fun i B hs => ?_)
      lf 0 A ⟨Nat.zero_le _, rfl, rfl⟩ (by omega)
    · obtain ⟨e, σ1, A1, r1, rfl, L, rfl, r2⟩ := key
      exact ⟨e, L, r1, r2⟩
    · obtain ⟨z1, rfl, z3⟩ := hs
      by_cases him : i < T1.length
      · obtain ⟨x, hx⟩ : ∃ x, T1[i]? = some x := ⟨_, List.getElem?_eq_getElem him⟩
        obtain ⟨y, hy⟩ : ∃ y, T2[i]? = some y := ⟨_, List.getElem?_eq_getElem (by omega)⟩
        obtain ⟨σ1, e, r1, r2⟩ := same_step (call := call) lf (c1 := c1) (c2 := c2) g1 g2 hl hx hy hm
        rcases r2 with ⟨rfl, rfl, r3⟩ | ⟨hne, rfl, r3⟩
        · exact ⟨.normal, σ1, B, r1, .inl ⟨rfl, i + 1, r3, ⟨him, rfl, by rw [take_succ hx, take_succ hy, z3]⟩, by omega⟩⟩
        · refine ⟨.ret, σ1, B, r1, .inr ⟨by simp, rfl, _, r3, .inr ⟨rfl, fun hT => hne ?_⟩⟩⟩
          rw [hT, hy] at hx
          exact (Option.some.inj hx).symm
      · obtain rfl : i = T1.length := by omega
        obtain ⟨σ1, r1, r2⟩ := same_end (call := call) lf (A := B) (.slice (some ⟨i1, 0, some 3⟩) T1.length c1) (.slice (some ⟨i2, 0, some 3⟩) T2.length c2) T1.length T1.length him
        rw [List.take_length, hl, List.take_length] at z3
        exact ⟨.exit 0, σ1, B, r1, .inr ⟨by simp, rfl, _, r2, .inl ⟨rfl, z3⟩⟩⟩

/-- Same, of such lists -/
theorem same_ts {call : CallT} (lf : Nat) {A : Hp} {T1 T2 : List Tk} {V1 V2 : Value} {o1 o2 : Option Nat} (h1 : TsAt A V1 o1 T1) (h2 : TsAt A V2 o2 T2) (hm : T1.length ≤ 100000000) (hlf : T1.length < lf) :
    kfn Tryd.bk.E call (Tryd.bk.inf 21) lf Tryd.f21 [V1, V2] A = some (.bool (decide (T1 = T2)), A) := by
  by_cases hl : T1.length = T2.length
  · obtain ⟨e, L, r1, r2⟩ := same_loop_ts (call := call) lf h1 h2 hl hm hlf
    have e1 : ((T1.length : Nat) : Int) = ((T2.length : Nat) : Int) := by omega
    obtain ⟨a1, c1, rfl⟩ := h1.sl.sl3
    obtain ⟨a2, c2, rfl⟩ := h2.sl.sl3
    rcases r2 with ⟨rfl, r2⟩ | ⟨rfl, r2⟩
    · rw [kdec r2]
      conv => lhs; whnf
      rw [show (((T1.length : Nat) : Int) != ((T2.length : Nat) : Int)) = false from bne_eq_false_iff_eq.2 e1]
      conv => lhs; whnf
      refine bind_of r1 ?_
      conv => lhs; whnf
      try rfl
    · rw [kdecn r2]
      conv => lhs; whnf
      rw [show (((T1.length : Nat) : Int) != ((T2.length : Nat) : Int)) = false from bne_eq_false_iff_eq.2 e1]
      conv => lhs; whnf
      refine bind_of r1 ?_
      conv => lhs; whnf
      try rfl
  · have e1 : ((T1.length : Nat) : Int) ≠ ((T2.length : Nat) : Int) := by omega
    obtain ⟨a1, c1, rfl⟩ := h1.sl.sl3
    obtain ⟨a2, c2, rfl⟩ := h2.sl.sl3
    rw [kdecn (show ¬ T1 = T2 from fun e => hl (by rw [e]))]
    conv => lhs; whnf
    rw [show (((T1.length : Nat) : Int) != ((T2.length : Nat) : Int)) = true from bne_iff_ne.2 e1]
    conv => lhs; whnf
    try rfl
def isK (k : Int) (t : Tk) : Bool := ((t.1 : Nat) : Int) == k

theorem rcount_end {call : CallT} (lf : Nat) {A : Hp} (a : Option Addr) (m c i : Nat) (V1 V5 : Value) (hi : ¬ i < m) :
    ∃ σ1, exec Tryd.bk.E call Tryd.f42.ntmps (Tryd.bk.inf 42) lf (loopOf Tryd.f42 0) [(0, .slice a m c), (1, V1), (4, .int .i64 0), (5, V5), (6, .int .i64 (i : Nat))] A = some (.exit 0, σ1, A) ∧
      keepSl (some [0, 1, 4, 5, 6]) σ1 = [(0, .slice a m c), (1, V1), (4, .int .i64 0), (5, V5), (6, .int .i64 (i : Nat))] := by
  have e1 : ¬ ((i : Nat) : Int) < ((m : Nat) : Int) := by omega
  refine ⟨?s, kexec_run ?run, ?kp⟩
  case run =>
    conv => lhs; whnf
    rw [kdecn e1]
  case kp => rfl

theorem rcount_step {call : CallT} (lf : Nat) {A : Hp} {ts : List Tk} {it c i n : Nat} (hg : A.get it = some (.arr 29 (ts.map tkc).flatten .own)) (k : Int) {x : Tk} (hx : ts[i]? = some x) (hm : ts.length ≤ 100000000) (hn : n ≤ i) :
    ∃ σ1, exec Tryd.bk.E call Tryd.f42.ntmps (Tryd.bk.inf 42) lf (loopOf Tryd.f42 0) [(0, .slice (some ⟨it, 0, some 3⟩) ts.length c), (1, .int .i64 k), (4, .int .i64 0), (5, .int .i64 (n : Nat)), (6, .int .i64 (i : Nat))] A = some (.normal, σ1, A) ∧
      keepSl (some [0, 1, 4, 5, 6]) σ1 = [(0, .slice (some ⟨it, 0, some 3⟩) ts.length c), (1, .int .i64 k), (4, .int .i64 0), (5, .int .i64 ((if isK k x then n + 1 else n : Nat) : Nat)), (6, .int .i64 (i + 1 : Nat))] := by
  have hi : i < ts.length := (List.getElem?_eq_some_iff.1 hx).1
  have e1 : ((i : Nat) : Int) < ((ts.length : Nat) : Int) := by omega
  have hw2 : IntKind.i64.wrap ((i : Int) + 1) = ((i + 1 : Nat) : Int) := by rw [w64 (by omega) (by omega)]; omega
  have hw3 : IntKind.i64.wrap ((n : Int) + 1) = ((n + 1 : Nat) : Int) := by rw [w64 (by omega) (by omega)]; omega
  obtain ⟨xk, xs, xv⟩ := x
  obtain ⟨r0, _, _⟩ := row_cells (show cellsIn (ts.map tkc).flatten (0 + i * 3) 3 = some [.int .i64 (xk : Nat), .int .u32 xs, .int .u32 xv] from tick_row hx)
  by_cases hk : ((xk : Nat) : Int) = k
  · have hh : isK k (xk, xs, xv) = true := by simp [isK, hk]
    rw [hh]
    simp only [if_true]
    refine ⟨?s1, kexec_run ?run1, ?kp1⟩
    case run1 =>
      conv => lhs; whnf
      rw [kdec e1]
      conv => lhs; whnf
      rw [kdec e1]
      conv => lhs; whnf
      refine bind_of ((cellsAt_of hg _ _).trans r0) ?_
      conv => lhs; whnf
      rw [show (((xk : Nat) : Int) == k) = true from beq_iff_eq.2 hk]
      conv => lhs; whnf
      try rfl
    case kp1 =>
      show [_, _, _, (5, Value.int .i64 (IntKind.i64.wrap ((n : Int) + 1))), (6, Value.int .i64 (IntKind.i64.wrap ((i : Int) + 1)))] = _
      rw [hw2, hw3]
  · have hh : isK k (xk, xs, xv) = false := by simp [isK, hk]
    rw [hh]
    simp only [Bool.false_eq_true, if_false]
    refine ⟨?s2, kexec_run ?run2, ?kp2⟩
    case run2 =>
      conv => lhs; whnf
      rw [kdec e1]
      conv => lhs; whnf
      rw [kdec e1]
      conv => lhs; whnf
      refine bind_of ((cellsAt_of hg _ _).trans r0) ?_
      conv => lhs; whnf
      rw [show (((xk : Nat) : Int) == k) = false from beq_eq_false_iff_ne.2 hk]
      conv => lhs; whnf
      try rfl
    case kp2 =>
      show [_, _, _, _, (6, Value.int .i64 (IntKind.i64.wrap ((i : Int) + 1)))] = _
      rw [hw2]

theorem rcount_walk {call : CallT} (lf : Nat) {A : Hp} {V : Value} {io : Option Nat} {ts : List Tk} (h : TsAt A V io ts) (k : Int) (hm : ts.length ≤ 100000000) (hlf : ts.length < lf) :
    kfn Tryd.bk.E call (Tryd.bk.inf 42) lf Tryd.f42 [V, .int .i64 k] A = some (.int .i64 (ts.countP (isK k) : Nat), A) := by
  obtain ⟨a, c, rfl, hf⟩ := h.form
  have key : ∃ L, loopD (some [0, 1, 4, 5, 6]) (exec Tryd.bk.E call Tryd.f42.ntmps (Tryd.bk.inf 42) lf (loopOf Tryd.f42 0)) lf [(0, .slice a ts.length c), (1, .int .i64 k), (4, .int .i64 0), (5, .int .i64 ((0 : Nat) : Int)), (6, .int .i64 ((0 : Nat) : Int))] A =
      some (.exit 0, [(0, .slice a ts.length c), (1, .int .i64 k), (4, .int .i64 0), (5, .int .i64 (ts.countP (isK k) : Nat)), (6, L)], A) := by
    by_cases h0 : ts = []
    · obtain ⟨σ1, r1, r2⟩ := rcount_end (call := call) lf (A := A) a ts.length c 0 (.int .i64 k) (.int .i64 ((0 : Nat) : Int)) (by rw [h0]; simp)
      have := loop_out' (ks := some [0, 1, 4, 5, 6]) r1 (by simp) (n := lf) (by omega)
      rw [r2] at this
      exact ⟨_, by rw [this, h0]; rfl⟩
    · obtain ⟨it, _, rfl, hg⟩ := hf h0
      have key := loop_rule (ks := some [0, 1, 4, 5, 6]) (f := exec Tryd.bk.E call Tryd.f42.ntmps (Tryd.bk.inf 42) lf (loopOf Tryd.f42 0)) (S := Nat)
        (fun i => [(0, .slice (some ⟨it, 0, some 3⟩) ts.length c), (1, .int .i64 k), (4, .int .i64 0), (5, .int .i64 ((ts.take i).countP (isK k) : Nat)), (6, .int .i64 (i : Nat))])
        (fun i B => i ≤ ts.length ∧ B = A) (fun i => ts.length - i)
        (fun e σ B => B = A ∧ e = .exit 0 ∧ ∃ L, σ = [(0, .slice (some ⟨it, 0, some 3⟩) ts.length c), (1, .int .i64 k), (4, .int .i64 0), (5, .int .i64 (ts.countP (isK k) : Nat)), (6, L)]) (fun i B hs => ?_)
        lf 0 A ⟨Nat.zero_le _, rfl⟩ (by omega)
      · obtain ⟨e, σ1, A1, r1, rfl, rfl, L, rfl⟩ := key
        exact ⟨L, r1⟩
      · obtain ⟨z1, rfl⟩ := hs
        by_cases him : i < ts.length
        · obtain ⟨x, hx⟩ : ∃ x, ts[i]? = some x := ⟨_, List.getElem?_eq_getElem him⟩
          have hc : (ts.take i).countP (isK k) ≤ i := Nat.le_trans List.countP_le_length (by rw [List.length_take]; omega)
          obtain ⟨σ1, r1, r2⟩ := rcount_step (call := call) lf (c := c) hg k hx hm hc
          have hst : (ts.take (i + 1)).countP (isK k) = if isK k x then (ts.take i).countP (isK k) + 1 else (ts.take i).countP (isK k) := by
            rw [take_succ hx, List.countP_append, List.countP_singleton]
            split <;> rfl
          exact ⟨.normal, σ1, B, r1, .inl ⟨rfl, i + 1, by rw [hst]; exact r2, ⟨him, rfl⟩, by omega⟩⟩
        · obtain rfl : i = ts.length := by omega
          obtain ⟨σ1, r1, r2⟩ := rcount_end (call := call) lf (A := B) (some ⟨it, 0, some 3⟩) ts.length c ts.length (.int .i64 k) (.int .i64 (ts.countP (isK k) : Nat)) him
          simp only [List.take_length]
          exact ⟨.exit 0, σ1, B, r1, .inr ⟨by simp, rfl, rfl, _, r2⟩⟩
  obtain ⟨L, r1⟩ := key
  conv => lhs; whnf
  refine bind_of r1 ?_
  conv => lhs; whnf
  try rfl

end Go.Dn.Ln
end

section
/-
  the document's lane (layer 11): Forget
-/
namespace Go.Dn.Ln
open Go.Proofs
set_option maxHeartbeats 4000000
set_option maxRecDepth 100000
attribute [local irreducible] Hp.get Hp.set Hp.push dappend dcopy dstore cellsAt callD loopD

def keepF (s : Int) (ts : List Tk) : List Tk := ts.filter (fun t => !isS s t)

/-- one ticket more -/
theorem app_one {A : Hp} (hw : A.wf) {V : Value} {io : Option Nat} {ts : List Tk} (h : TsAt A V io ts) (t : Tk) (hb : ts.length ≤ 100000000) :
    ∃ V' io' A', dappend Tryd.bk.E 22 22 (A.push (.arr 29 (tkc t) .own)) V (.slice (some ⟨A.next, 0, some 3⟩) 1 3) = some (V', A') ∧ TsAt A' V' io' (ts ++ [t]) ∧ A'.wf ∧ A.next ≤ A'.next ∧ (∀ j, io' = some j → A.next ≤ j ∨ io = some j) ∧ ∀ j, j < A.next → io ≠ some j → A'.get j = A.get j := by
  have hx : elemsOf (A.push (.arr 29 (tkc t) .own)) 3 (.slice (some ⟨A.next, 0, some 3⟩) 1 3) = some (([t] : List Tk).length, (([t] : List Tk).map tkc).flatten) :=
    (SlAt.at (e := 29) (sz := 3) A.next 0 1 3 (tkc t) _ (.inr rfl) (Hp.get_push_same _ _) (by simp [tkc]) (by simp [tkc])).elems
  obtain ⟨V', io', A', a1, a2, a3, a4, a5, a6⟩ := app_ts (hw.push _) (h.keep fun j hj => Hp.get_push_ne _ _ (by subst hj; have := h.lt hw; omega)) hx (by simp only [List.length_singleton]; omega)
  have n1 : (A.push (.arr 29 (tkc t) .own)).next = A.next + 1 := by simp
  refine ⟨V', io', A', a1, a2, a3, by omega, fun j hj => ?_, fun j hj hio => by rw [a6 j (by omega) hio]; exact Hp.get_push_ne _ _ (by omega)⟩
  rcases a5 with e | e
  · exact .inr (by rw [← e]; exact hj)
  · have := e j hj; exact .inl (by omega)

theorem rforget_end {call : CallT} (lf : Nat) {A : Hp} (a : Option Addr) (m c i : Nat) (V1 V6 : Value) (hi : ¬ i < m) :
    ∃ σ1, exec Tryd.bk.E call Tryd.f83.ntmps (Tryd.bk.inf 83) lf (loopOf Tryd.f83 0) [(0, .slice a m c), (1, V1), (4, .slice none 0 0), (5, .int .i64 0), (6, V6), (7, .int .i64 (i : Nat))] A = some (.exit 0, σ1, A) ∧
      keepSl (some [0, 1, 4, 5, 6, 7]) σ1 = [(0, .slice a m c), (1, V1), (4, .slice none 0 0), (5, .int .i64 0), (6, V6), (7, .int .i64 (i : Nat))] := by
  have e1 : ¬ ((i : Nat) : Int) < ((m : Nat) : Int) := by omega
  refine ⟨?s, kexec_run ?run, ?kp⟩
  case run =>
    conv => lhs; whnf
    rw [kdecn e1]
  case kp => rfl

structure RF where
  i : Nat
  v : Value
  io : Option Nat

theorem rforget_walk {call : CallT} (lf : Nat) {A : Hp} (hw : A.wf) {V : Value} {io : Option Nat} {ts : List Tk} (h : TsAt A V io ts) (s : Int) (hm : ts.length ≤ 100000000) (hlf : ts.length < lf) :
    ∃ V' io' A', kfn Tryd.bk.E call (Tryd.bk.inf 83) lf Tryd.f83 [V, .int .u32 s] A = some (.tuple #[V', .int .i64 (ts.countP (isS s) : Nat)], A') ∧ TsAt A' V' io' (keepF s ts) ∧ Kp A A' ∧ ∀ j, io' = some j → A.next ≤ j := by
  obtain ⟨a, c, rfl, hf⟩ := h.form
  let B : Hp := A.push (.arr 29 [] .own)
  have k1 : Kp A B := Kp.push hw _
  have n1 : B.next = A.next + 1 := by simp [B]
  have t0 : TsAt B (.slice (some ⟨A.next, 0, some 3⟩) 0 1) (some A.next) [] := emp_ts (Hp.get_push_same _ _)
  have key : ∃ V6 io6 L A', loopD (some [0, 1, 4, 5, 6, 7]) (exec Tryd.bk.E call Tryd.f83.ntmps (Tryd.bk.inf 83) lf (loopOf Tryd.f83 0)) lf [(0, .slice a ts.length c), (1, .int .u32 s), (4, .slice none 0 0), (5, .int .i64 0), (6, .slice (some ⟨A.next, 0, some 3⟩) 0 1), (7, .int .i64 ((0 : Nat) : Int))] B =
      some (.exit 0, [(0, .slice a ts.length c), (1, .int .u32 s), (4, .slice none 0 0), (5, .int .i64 0), (6, V6), (7, L)], A') ∧ TsAt A' V6 io6 (keepF s ts) ∧ Kp A A' ∧ ∀ j, io6 = some j → A.next ≤ j := by
    by_cases h0 : ts = []
    · obtain ⟨σ1, r1, r2⟩ := rforget_end (call := call) lf (A := B) a ts.length c 0 (.int .u32 s) (.slice (some ⟨A.next, 0, some 3⟩) 0 1) (by rw [h0]; simp)
      have := loop_out' (ks := some [0, 1, 4, 5, 6, 7]) r1 (by simp) (n := lf) (by omega)
      rw [r2] at this
      exact ⟨_, _, _, B, this, by rw [h0]; exact t0, k1, fun j hj => by cases hj; exact Nat.le_refl _⟩
    · obtain ⟨it, hio, rfl, hg⟩ := hf h0
      have hitl := hw.lt hg
      have key := loop_rule (ks := some [0, 1, 4, 5, 6, 7]) (f := exec Tryd.bk.E call Tryd.f83.ntmps (Tryd.bk.inf 83) lf (loopOf Tryd.f83 0)) (S := RF)
        (fun q => [(0, .slice (some ⟨it, 0, some 3⟩) ts.length c), (1, .int .u32 s), (4, .slice none 0 0), (5, .int .i64 0), (6, q.v), (7, .int .i64 (q.i : Nat))])
        (fun q D => q.i ≤ ts.length ∧ Kp A D ∧ TsAt D q.v q.io (keepF s (ts.take q.i)) ∧ ∀ j, q.io = some j → A.next ≤ j) (fun q => ts.length - q.i)
        (fun e σ D => e = .exit 0 ∧ ∃ V6 io6 L, σ = [(0, .slice (some ⟨it, 0, some 3⟩) ts.length c), (1, .int .u32 s), (4, .slice none 0 0), (5, .int .i64 0), (6, V6), (7, L)] ∧ TsAt D V6 io6 (keepF s ts) ∧ Kp A D ∧ ∀ j, io6 = some j → A.next ≤ j) (fun q D hs => ?_)
        lf ⟨0, _, _⟩ B ⟨Nat.zero_le _, k1, t0, fun j hj => by cases hj; exact Nat.le_refl _⟩ (by simp only; omega)
      · obtain ⟨e, σ1, A1, r1, rfl, V6, io6, L, rfl, r2⟩ := key
        exact ⟨V6, io6, L, A1, r1, r2⟩
      · obtain ⟨i, v, io6⟩ := q
        obtain ⟨z1, z2, z3, z4⟩ := hs
        simp only at z1 z2 z3 z4 ⊢
        by_cases him : i < ts.length
        · obtain ⟨x, hx⟩ : ∃ x, ts[i]? = some x := ⟨_, List.getElem?_eq_getElem him⟩
          have e1 : ((i : Nat) : Int) < ((ts.length : Nat) : Int) := by omega
          have hw2 : IntKind.i64.wrap ((i : Int) + 1) = ((i + 1 : Nat) : Int) := by rw [w64 (by omega) (by omega)]; omega
          have hgD : D.get it = some (.arr 29 (ts.map tkc).flatten .own) := by rw [z2.old it hitl]; exact hg
          have hkl : (keepF s (ts.take i)).length ≤ 100000000 := Nat.le_trans List.filter_sublist.length_le (by rw [List.length_take]; omega)
          obtain ⟨xk, xs, xv⟩ := x
          have hrow : cellsIn (ts.map tkc).flatten (0 + i * 3) 3 = some [.int .i64 (xk : Nat), .int .u32 xs, .int .u32 xv] := tick_row hx
          obtain ⟨_, r1, _⟩ := row_cells hrow
          by_cases hs : xs = s
          · have hst : keepF s (ts.take (i + 1)) = keepF s (ts.take i) := by
              unfold keepF
              rw [take_succ hx, List.filter_append]
              simp [isS, hs]
            refine ⟨.normal, ?s1, D, kexec_run ?run1, .inl ⟨rfl, ⟨i + 1, v, io6⟩, ?kp1, ⟨him, z2, by rw [hst]; exact z3, z4⟩, by simp only; omega⟩⟩
            case run1 =>
              conv => lhs; whnf
              rw [kdec e1]
              conv => lhs; whnf
              rw [kdec e1]
              conv => lhs; whnf
              refine bind_of ((cellsAt_of hgD _ _).trans r1) ?_
              conv => lhs; whnf
              rw [show (xs != s) = false from bne_eq_false_iff_eq.2 hs]
              conv => lhs; whnf
              try rfl
            case kp1 =>
              show [_, _, _, _, _, (7, Value.int .i64 (IntKind.i64.wrap ((i : Int) + 1)))] = _
              rw [hw2]
          · have hst : keepF s (ts.take (i + 1)) = keepF s (ts.take i) ++ [(xk, xs, xv)] := by
              unfold keepF
              rw [take_succ hx, List.filter_append]
              simp [isS, hs]
            obtain ⟨V', io', D', a1, a2, a3, a4, a5, a6⟩ := app_one z2.wf z3 (xk, xs, xv) hkl
            have hnx := z2.nx
            refine ⟨.normal, ?s2, D', kexec_run ?run2, .inl ⟨rfl, ⟨i + 1, V', io'⟩, ?kp2, ⟨him, ⟨a3, by omega, ?old2⟩, by rw [hst]; exact a2, ?new2⟩, by simp only; omega⟩⟩
            case old2 =>
              intro j hj
              rw [a6 j (by omega) (fun e => by have := z4 j e; omega), z2.old j hj]
            case new2 =>
              intro j hj
              rcases a5 j hj with e | e
              · omega
              · exact z4 j e
            case run2 =>
              conv => lhs; whnf
              rw [kdec e1]
              conv => lhs; whnf
              rw [kdec e1]
              conv => lhs; whnf
              refine bind_of ((cellsAt_of hgD _ _).trans r1) ?_
              conv => lhs; whnf
              rw [show (xs != s) = true from bne_iff_ne.2 hs]
              conv => lhs; whnf
              rw [kdec e1]
              conv => lhs; whnf
              refine bind_of ((cellsAt_of hgD _ _).trans hrow) ?_
              conv => lhs; whnf
              refine bind_of a1 ?_
              conv => lhs; whnf
              try rfl
            case kp2 =>
              show [_, _, _, _, _, (7, Value.int .i64 (IntKind.i64.wrap ((i : Int) + 1)))] = _
              rw [hw2]
        · obtain rfl : i = ts.length := by omega
          obtain ⟨σ1, r1, r2⟩ := rforget_end (call := call) lf (A := D) (some ⟨it, 0, some 3⟩) ts.length c ts.length (.int .u32 s) v him
          rw [List.take_length] at z3
          exact ⟨.exit 0, σ1, D, r1, .inr ⟨by simp, rfl, v, io6, _, r2, z3, z2, z4⟩⟩
  obtain ⟨V6, io6, L, A', r1, r2, r3, r4⟩ := key
  obtain ⟨a6, c6, rfl⟩ := r2.sl.sl3
  have hcn : IntKind.i64.wrap ((ts.length : Nat) - ((keepF s ts).length : Nat)) = ((ts.countP (isS s) : Nat) : Int) := by
    have h1 : (keepF s ts).length = ts.countP (fun t => !isS s t) := by unfold keepF; rw [List.countP_eq_length_filter]
    have h2 := List.length_eq_countP_add_countP (isS s) (l := ts)
    have h3 : ts.countP (fun t => !isS s t) = ts.countP (fun t => decide ¬isS s t = true) := by
      congr 1
      funext t
      cases isS s t <;> rfl
    rw [h3] at h1
    rw [w64 (by omega) (by omega)]
    omega
  refine ⟨_, io6, A', ?run, r2, r3, r4⟩
  case run =>
    conv => lhs; whnf
    refine bind_of r1 ?_
    conv => lhs; whnf
    rw [hcn]
    try rfl
end Go.Dn.Ln
end
