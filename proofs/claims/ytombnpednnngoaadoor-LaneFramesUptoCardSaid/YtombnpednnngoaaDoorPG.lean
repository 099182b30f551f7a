/-
  Part of the abstract machine for this program.
-/
import Derived.Test.YtombnpednnngoaaDoorPF
import Derived.Test.YtombnpednnngoaaDoorPD
import Derived.Test.YtombnpednnngoaaDoorPC

section
/-
  'Same' of two lists of tickets
-/
namespace Go.Dn.Ln
open Go.Proofs
set_option maxHeartbeats 4000000
set_option maxRecDepth 100000
attribute [local irreducible] Hp.get Hp.set Hp.push dappend dcopy dstore cellsAt callD loopD

theorem deq_tick (xk yk : Nat) (xs ys xv yv : Int) : deqF Tryd.bk.E 20 29 (.agg #[.int .i64 (xk : Nat), .int .u32 xs, .int .u32 xv]) (.agg #[.int .i64 (yk : Nat), .int .u32 ys, .int .u32 yv]) = some (decide ((xk, xs, xv) = (yk, ys, yv))) := by
  by_cases h1 : xk = yk
  · subst h1
    by_cases h2 : xs = ys
    · subst h2
      by_cases h3 : xv = yv
      · subst h3
        rw [kdec rfl]
        conv => lhs; whnf
        rw [beq_self_eq_true]
        conv => lhs; whnf
        rw [beq_self_eq_true]
        conv => lhs; whnf
        rw [beq_self_eq_true]
        try rfl
      · rw [kdecn (by simp [h3])]
        conv => lhs; whnf
        rw [beq_self_eq_true]
        conv => lhs; whnf
        rw [beq_self_eq_true]
        conv => lhs; whnf
        rw [show (xv == yv) = false from beq_eq_false_iff_ne.2 h3]
        try rfl
    · rw [kdecn (by simp [h2])]
      conv => lhs; whnf
      rw [beq_self_eq_true]
      conv => lhs; whnf
      rw [show (xs == ys) = false from beq_eq_false_iff_ne.2 h2]
      try rfl
  · rw [kdecn (by simp [h1])]
    conv => lhs; whnf
    rw [show (((xk : Nat) : Int) == ((yk : Nat) : Int)) = false from beq_eq_false_iff_ne.2 fun e => h1 (by omega)]
    try rfl

theorem same_step {call : CallT} (lf : Nat) {A : Hp} {T1 T2 : List Tk} {i1 i2 c1 c2 i : Nat} (h1 : A.get i1 = some (.arr 29 (T1.map tkc).flatten .own)) (h2 : A.get i2 = some (.arr 29 (T2.map tkc).flatten .own)) (hl : T1.length = T2.length) {x y : Tk} (hx : T1[i]? = some x) (hy : T2[i]? = some y) (hm : T1.length ≤ 100000000) :
    ∃ σ1 e, exec Tryd.bk.E call Tryd.f21.ntmps (Tryd.bk.inf 21) lf (loopOf Tryd.f21 0) [(0, .slice (some ⟨i1, 0, some 3⟩) T1.length c1), (1, .slice (some ⟨i2, 0, some 3⟩) T2.length c2), (4, .bool false), (12, .int .i64 (T1.length : Nat)), (13, .int .i64 (i : Nat))] A = some (e, σ1, A) ∧
      ((x = y ∧ e = .normal ∧ keepSl (some [0, 1, 4, 12, 13]) σ1 = [(0, .slice (some ⟨i1, 0, some 3⟩) T1.length c1), (1, .slice (some ⟨i2, 0, some 3⟩) T2.length c2), (4, .bool false), (12, .int .i64 (T1.length : Nat)), (13, .int .i64 (i + 1 : Nat))]) ∨
        (x ≠ y ∧ e = .ret ∧ keepSl (some [0, 1, 4, 12, 13]) σ1 = [(0, .slice (some ⟨i1, 0, some 3⟩) T1.length c1), (1, .slice (some ⟨i2, 0, some 3⟩) T2.length c2), (4, .bool false), (12, .int .i64 (T1.length : Nat)), (13, .int .i64 (i : Nat))])) := by
  have hi : i < T1.length := (List.getElem?_eq_some_iff.1 hx).1
  have e1 : ((i : Nat) : Int) < ((T1.length : Nat) : Int) := by omega
  have e2 : ((i : Nat) : Int) < ((T2.length : Nat) : Int) := by omega
  have hw2 : IntKind.i64.wrap ((i : Int) + 1) = ((i + 1 : Nat) : Int) := by rw [w64 (by omega) (by omega)]; omega
  obtain ⟨xk, xs, xv⟩ := x
  obtain ⟨yk, ys, yv⟩ := y
  have q1 : cellsIn (T1.map tkc).flatten (0 + i * 3) 3 = some [.int .i64 (xk : Nat), .int .u32 xs, .int .u32 xv] := tick_row hx
  have q2 : cellsIn (T2.map tkc).flatten (0 + i * 3) 3 = some [.int .i64 (yk : Nat), .int .u32 ys, .int .u32 yv] := tick_row hy
  by_cases hxy : (xk, xs, xv) = (yk, ys, yv)
  · refine ⟨?s, .normal, kexec_run ?run, .inl ⟨hxy, rfl, ?kp⟩⟩
    case run =>
      conv => lhs; whnf
      rw [kdec e1]
      conv => lhs; whnf
      rw [kdec e1]
      conv => lhs; whnf
      refine bind_of ((cellsAt_of h1 _ _).trans q1) ?_
      conv => lhs; whnf
      rw [kdec e2]
      conv => lhs; whnf
      refine bind_of ((cellsAt_of h2 _ _).trans q2) ?_
      conv => lhs; whnf
      refine bind_of (a := Value.bool false) ?hv ?hr
      case hv =>
        conv => lhs; whnf
        rw [deq_tick, kdec hxy]
        try rfl
      case hr =>
        conv => lhs; whnf
        try rfl
    case kp =>
      show [_, _, _, _, (13, Value.int .i64 (IntKind.i64.wrap ((i : Int) + 1)))] = _
      rw [hw2]
  · refine ⟨?s2, .ret, kexec_run ?run2, .inr ⟨hxy, rfl, ?kp2⟩⟩
    case run2 =>
      conv => lhs; whnf
      rw [kdec e1]
      conv => lhs; whnf
      rw [kdec e1]
      conv => lhs; whnf
      refine bind_of ((cellsAt_of h1 _ _).trans q1) ?_
      conv => lhs; whnf
      rw [kdec e2]
      conv => lhs; whnf
      refine bind_of ((cellsAt_of h2 _ _).trans q2) ?_
      conv => lhs; whnf
      refine bind_of (a := Value.bool true) ?hv2 ?hr2
      case hv2 =>
        conv => lhs; whnf
        rw [deq_tick, kdecn hxy]
        try rfl
      case hr2 =>
        conv => lhs; whnf
        try rfl
    case kp2 => rfl

theorem same_end {call : CallT} (lf : Nat) {A : Hp} (V0 V1 : Value) (m i : Nat) (hi : ¬ i < m) :
    ∃ σ1, exec Tryd.bk.E call Tryd.f21.ntmps (Tryd.bk.inf 21) lf (loopOf Tryd.f21 0) [(0, V0), (1, V1), (4, .bool false), (12, .int .i64 (m : Nat)), (13, .int .i64 (i : Nat))] A = some (.exit 0, σ1, A) ∧
      keepSl (some [0, 1, 4, 12, 13]) σ1 = [(0, V0), (1, V1), (4, .bool false), (12, .int .i64 (m : Nat)), (13, .int .i64 (i : Nat))] := by
  have e1 : ¬ ((i : Nat) : Int) < ((m : Nat) : Int) := by omega
  refine ⟨?s, kexec_run ?run, ?kp⟩
  case run =>
    conv => lhs; whnf
    rw [kdecn e1]
  case kp => rfl

theorem same_loop {call : CallT} (lf : Nat) {A : Hp} {T1 T2 : List Tk} {V1 V2 : Value} {o1 o2 : Option Nat} (h1 : CanAt 29 3 A V1 o1 (T1.map tkc).flatten T1.length) (h2 : CanAt 29 3 A V2 o2 (T2.map tkc).flatten T2.length) (hl : T1.length = T2.length) (hm : T1.length ≤ 100000000) (hlf : T1.length < lf) :
    ∃ e L, loopD (some [0, 1, 4, 12, 13]) (exec Tryd.bk.E call Tryd.f21.ntmps (Tryd.bk.inf 21) lf (loopOf Tryd.f21 0)) lf [(0, V1), (1, V2), (4, .bool false), (12, .int .i64 (T1.length : Nat)), (13, .int .i64 ((0 : Nat) : Int))] A =
      some (e, [(0, V1), (1, V2), (4, .bool false), (12, .int .i64 (T1.length : Nat)), (13, L)], A) ∧ ((e = .exit 0 ∧ T1 = T2) ∨ (e = .ret ∧ T1 ≠ T2)) := by
  by_cases h0 : T1.length = 0
  · have hT : T1 = T2 := by rw [List.length_eq_zero_iff.1 h0, List.length_eq_zero_iff.1 (by omega : T2.length = 0)]
    obtain ⟨σ1, r1, r2⟩ := same_end (call := call) lf (A := A) V1 V2 T1.length 0 (by omega)
    obtain ⟨k, rfl⟩ : ∃ k, lf = k + 1 := ⟨lf - 1, by omega⟩
    have := loopD_end (ks := some [0, 1, 4, 12, 13]) (n := k) r1 (by simp)
    rw [r2] at this
    exact ⟨_, _, this, .inl ⟨rfl, hT⟩⟩
  · obtain ⟨i1, rfl⟩ : ∃ i, o1 = some i := by
      generalize T1.length = m at h1 h0
      generalize (T1.map tkc).flatten = fl at h1
      cases h1 with
      | nil => exact absurd rfl h0
      | «at» i _ _ _ _ _ => exact ⟨i, rfl⟩
    obtain ⟨i2, rfl⟩ : ∃ i, o2 = some i := by
      rw [hl] at h0
      generalize T2.length = m at h2 h0
      generalize (T2.map tkc).flatten = fl at h2
      cases h2 with
      | nil => exact absurd rfl h0
      | «at» i _ _ _ _ _ => exact ⟨i, rfl⟩
    obtain ⟨rfl, g1, _⟩ := h1.some_form
    obtain ⟨rfl, g2, _⟩ := h2.some_form
    have key := loop_rule (ks := some [0, 1, 4, 12, 13]) (f := exec Tryd.bk.E call Tryd.f21.ntmps (Tryd.bk.inf 21) lf (loopOf Tryd.f21 0)) (S := Nat)
      (fun i => [(0, .slice (some ⟨i1, 0, some 3⟩) T1.length (2 * T1.length)), (1, .slice (some ⟨i2, 0, some 3⟩) T2.length (2 * T2.length)), (4, .bool false), (12, .int .i64 (T1.length : Nat)), (13, .int .i64 (i : Nat))])
      (fun i B => i ≤ T1.length ∧ B = A ∧ T1.take i = T2.take i) (fun i => T1.length - i)
      (fun e σ B => B = A ∧ ∃ L, σ = [(0, .slice (some ⟨i1, 0, some 3⟩) T1.length (2 * T1.length)), (1, .slice (some ⟨i2, 0, some 3⟩) T2.length (2 * T2.length)), (4, .bool false), (12, .int .i64 (T1.length : Nat)), (13, L)] ∧ ((e = .exit 0 ∧ T1 = T2) ∨ (e = .ret ∧ T1 ≠ T2))) (fun i B hs => ?_)
      lf 0 A ⟨Nat.zero_le _, rfl, rfl⟩ (by omega)
    · obtain ⟨e, σ1, A1, r1, rfl, L, rfl, r2⟩ := key
      exact ⟨e, L, r1, r2⟩
    · obtain ⟨z1, rfl, z3⟩ := hs
      by_cases him : i < T1.length
      · obtain ⟨x, hx⟩ : ∃ x, T1[i]? = some x := ⟨_, List.getElem?_eq_getElem him⟩
        obtain ⟨y, hy⟩ : ∃ y, T2[i]? = some y := ⟨_, List.getElem?_eq_getElem (by omega)⟩
        obtain ⟨σ1, e, r1, r2⟩ := same_step (call := call) lf (c1 := 2 * T1.length) (c2 := 2 * T2.length) g1 g2 hl hx hy hm
        rcases r2 with ⟨rfl, rfl, r3⟩ | ⟨hne, rfl, r3⟩
        · exact ⟨.normal, σ1, B, r1, .inl ⟨rfl, i + 1, r3, ⟨him, rfl, by rw [take_succ hx, take_succ hy, z3]⟩, by omega⟩⟩
        · refine ⟨.ret, σ1, B, r1, .inr ⟨by simp, rfl, _, r3, .inr ⟨rfl, fun hT => hne ?_⟩⟩⟩
          rw [hT, hy] at hx
          exact (Option.some.inj hx).symm
      · obtain rfl : i = T1.length := by omega
        obtain ⟨σ1, r1, r2⟩ := same_end (call := call) lf (A := B) (.slice (some ⟨i1, 0, some 3⟩) T1.length (2 * T1.length)) (.slice (some ⟨i2, 0, some 3⟩) T2.length (2 * T2.length)) T1.length T1.length him
        rw [List.take_length, hl, List.take_length] at z3
        exact ⟨.exit 0, σ1, B, r1, .inr ⟨by simp, rfl, _, r2, .inl ⟨rfl, z3⟩⟩⟩

/-- Same -/
theorem same_walk {call : CallT} (lf : Nat) {A : Hp} {T1 T2 : List Tk} {V1 V2 : Value} {o1 o2 : Option Nat} (h1 : CanAt 29 3 A V1 o1 (T1.map tkc).flatten T1.length) (h2 : CanAt 29 3 A V2 o2 (T2.map tkc).flatten T2.length) (hm : T1.length ≤ 100000000) (hlf : T1.length < lf) :
    kfn Tryd.bk.E call (Tryd.bk.inf 21) lf Tryd.f21 [V1, V2] A = some (.bool (decide (T1 = T2)), A) := by
  by_cases hl : T1.length = T2.length
  · obtain ⟨e, L, r1, r2⟩ := same_loop (call := call) lf h1 h2 hl hm hlf
    have e1 : ((T1.length : Nat) : Int) = ((T2.length : Nat) : Int) := by omega
    obtain ⟨a1, c1, rfl⟩ := h1.sl3
    obtain ⟨a2, c2, rfl⟩ := h2.sl3
    rcases r2 with ⟨rfl, r2⟩ | ⟨rfl, r2⟩
    · rw [kdec r2]
      conv => lhs; whnf
      rw [show (((T1.length : Nat) : Int) != ((T2.length : Nat) : Int)) = false from bne_eq_false_iff_eq.2 e1]
      conv => lhs; whnf
      refine bind_of r1 ?_
      conv => lhs; whnf
      try rfl
    · rw [kdecn r2]
      conv => lhs; whnf
      rw [show (((T1.length : Nat) : Int) != ((T2.length : Nat) : Int)) = false from bne_eq_false_iff_eq.2 e1]
      conv => lhs; whnf
      refine bind_of r1 ?_
      conv => lhs; whnf
      try rfl
  · have e1 : ((T1.length : Nat) : Int) ≠ ((T2.length : Nat) : Int) := by omega
    obtain ⟨a1, c1, rfl⟩ := h1.sl3
    obtain ⟨a2, c2, rfl⟩ := h2.sl3
    rw [kdecn (show ¬ T1 = T2 from fun e => hl (by rw [e]))]
    conv => lhs; whnf
    rw [show (((T1.length : Nat) : Int) != ((T2.length : Nat) : Int)) = true from bne_iff_ne.2 e1]
    conv => lhs; whnf
    try rfl
end Go.Dn.Ln
end

section
/-
  the document's lane (layer 11): may a ticket be, where is it
-/
namespace Go.Dn.Ln
open Go.Proofs
set_option maxHeartbeats 4000000
set_option maxRecDepth 100000
attribute [local irreducible] Hp.get Hp.set Hp.push dappend dcopy dstore cellsAt callD loopD

def mayC (k s v : Int) : Int := if k < 1 ∨ 7 < k then 12 else if (s == 0) = decide (k ≥ 5) then (if (k = 1 ∨ k = 2 ∨ k = 4) ∧ v ≠ 0 ∨ k = 3 ∧ v = 0 ∨ k = 7 ∧ v > 2 then 15 else 0) else 14

theorem may_walk {call : CallT} (lf : Nat) (A : Hp) (k s v : Int) :
    kfn Tryd.bk.E call (Tryd.bk.inf 93) lf Tryd.f93 [.agg #[.int .i64 k, .int .u32 s, .int .u32 v]] A = some (.int .i64 (mayC k s v), A.push (.arr 29 [.int .i64 k, .int .u32 s, .int .u32 v] .own)) := by
  have c1 : ∀ o n, cellsAt (A.push (.arr 29 [.int .i64 k, .int .u32 s, .int .u32 v] .own)) A.next o n = cellsIn [.int .i64 k, .int .u32 s, .int .u32 v] o n := fun o n => cellsAt_push_same o n
  by_cases h1 : k < 1
  · rw [show mayC k s v = 12 by unfold mayC; rw [if_pos (.inl h1)]]
    conv => lhs; whnf
    refine bind_of (c1 _ _) ?_
    conv => lhs; whnf
    rw [kdec h1]
    conv => lhs; whnf
    try rfl
  by_cases h7 : k > 7
  · rw [show mayC k s v = 12 by unfold mayC; rw [if_pos (.inr h7)]]
    conv => lhs; whnf
    refine bind_of (c1 _ _) ?_
    conv => lhs; whnf
    rw [kdecn h1]
    conv => lhs; whnf
    rw [kdec h7]
    conv => lhs; whnf
    try rfl
  have h17 : k = 1 ∨ k = 2 ∨ k = 3 ∨ k = 4 ∨ k = 5 ∨ k = 6 ∨ k = 7 := by omega
  rcases h17 with rfl | rfl | rfl | rfl | rfl | rfl | rfl
  · by_cases hs : s = 0
    · rw [show mayC 1 s v = 14 by simp [mayC, hs]]
      conv => lhs; whnf
      refine bind_of (c1 _ _) ?_
      conv => lhs; whnf
      refine bind_of (c1 _ _) ?_
      conv => lhs; whnf
      rw [show (s == 0) = true from beq_iff_eq.2 hs]
      conv => lhs; whnf
      try rfl
    · by_cases hv : v = 0
      · rw [show mayC 1 s v = 0 by simp [mayC, hs, hv]]
        conv => lhs; whnf
        refine bind_of (c1 _ _) ?_
        conv => lhs; whnf
        refine bind_of (c1 _ _) ?_
        conv => lhs; whnf
        rw [show (s == 0) = false from beq_eq_false_iff_ne.2 hs]
        conv => lhs; whnf
        refine bind_of (c1 _ _) ?_
        conv => lhs; whnf
        rw [show (v != 0) = false from bne_eq_false_iff_eq.2 hv]
        conv => lhs; whnf
        try rfl
      · rw [show mayC 1 s v = 15 by simp [mayC, hs, hv]]
        conv => lhs; whnf
        refine bind_of (c1 _ _) ?_
        conv => lhs; whnf
        refine bind_of (c1 _ _) ?_
        conv => lhs; whnf
        rw [show (s == 0) = false from beq_eq_false_iff_ne.2 hs]
        conv => lhs; whnf
        refine bind_of (c1 _ _) ?_
        conv => lhs; whnf
        rw [show (v != 0) = true from bne_iff_ne.2 hv]
        conv => lhs; whnf
        try rfl
  · by_cases hs : s = 0
    · rw [show mayC 2 s v = 14 by simp [mayC, hs]]
      conv => lhs; whnf
      refine bind_of (c1 _ _) ?_
      conv => lhs; whnf
      refine bind_of (c1 _ _) ?_
      conv => lhs; whnf
      rw [show (s == 0) = true from beq_iff_eq.2 hs]
      conv => lhs; whnf
      try rfl
    · by_cases hv : v = 0
      · rw [show mayC 2 s v = 0 by simp [mayC, hs, hv]]
        conv => lhs; whnf
        refine bind_of (c1 _ _) ?_
        conv => lhs; whnf
        refine bind_of (c1 _ _) ?_
        conv => lhs; whnf
        rw [show (s == 0) = false from beq_eq_false_iff_ne.2 hs]
        conv => lhs; whnf
        refine bind_of (c1 _ _) ?_
        conv => lhs; whnf
        rw [show (v != 0) = false from bne_eq_false_iff_eq.2 hv]
        conv => lhs; whnf
        try rfl
      · rw [show mayC 2 s v = 15 by simp [mayC, hs, hv]]
        conv => lhs; whnf
        refine bind_of (c1 _ _) ?_
        conv => lhs; whnf
        refine bind_of (c1 _ _) ?_
        conv => lhs; whnf
        rw [show (s == 0) = false from beq_eq_false_iff_ne.2 hs]
        conv => lhs; whnf
        refine bind_of (c1 _ _) ?_
        conv => lhs; whnf
        rw [show (v != 0) = true from bne_iff_ne.2 hv]
        conv => lhs; whnf
        try rfl
  · by_cases hs : s = 0
    · rw [show mayC 3 s v = 14 by simp [mayC, hs]]
      conv => lhs; whnf
      refine bind_of (c1 _ _) ?_
      conv => lhs; whnf
      refine bind_of (c1 _ _) ?_
      conv => lhs; whnf
      rw [show (s == 0) = true from beq_iff_eq.2 hs]
      conv => lhs; whnf
      try rfl
    · by_cases hv : v = 0
      · rw [show mayC 3 s v = 15 by simp [mayC, hs, hv]]
        conv => lhs; whnf
        refine bind_of (c1 _ _) ?_
        conv => lhs; whnf
        refine bind_of (c1 _ _) ?_
        conv => lhs; whnf
        rw [show (s == 0) = false from beq_eq_false_iff_ne.2 hs]
        conv => lhs; whnf
        refine bind_of (c1 _ _) ?_
        conv => lhs; whnf
        rw [show (v == 0) = true from beq_iff_eq.2 hv]
        conv => lhs; whnf
        try rfl
      · rw [show mayC 3 s v = 0 by simp [mayC, hs, hv]]
        conv => lhs; whnf
        refine bind_of (c1 _ _) ?_
        conv => lhs; whnf
        refine bind_of (c1 _ _) ?_
        conv => lhs; whnf
        rw [show (s == 0) = false from beq_eq_false_iff_ne.2 hs]
        conv => lhs; whnf
        refine bind_of (c1 _ _) ?_
        conv => lhs; whnf
        rw [show (v == 0) = false from beq_eq_false_iff_ne.2 hv]
        conv => lhs; whnf
        try rfl
  · by_cases hs : s = 0
    · rw [show mayC 4 s v = 14 by simp [mayC, hs]]
      conv => lhs; whnf
      refine bind_of (c1 _ _) ?_
      conv => lhs; whnf
      refine bind_of (c1 _ _) ?_
      conv => lhs; whnf
      rw [show (s == 0) = true from beq_iff_eq.2 hs]
      conv => lhs; whnf
      try rfl
    · by_cases hv : v = 0
      · rw [show mayC 4 s v = 0 by simp [mayC, hs, hv]]
        conv => lhs; whnf
        refine bind_of (c1 _ _) ?_
        conv => lhs; whnf
        refine bind_of (c1 _ _) ?_
        conv => lhs; whnf
        rw [show (s == 0) = false from beq_eq_false_iff_ne.2 hs]
        conv => lhs; whnf
        refine bind_of (c1 _ _) ?_
        conv => lhs; whnf
        rw [show (v != 0) = false from bne_eq_false_iff_eq.2 hv]
        conv => lhs; whnf
        try rfl
      · rw [show mayC 4 s v = 15 by simp [mayC, hs, hv]]
        conv => lhs; whnf
        refine bind_of (c1 _ _) ?_
        conv => lhs; whnf
        refine bind_of (c1 _ _) ?_
        conv => lhs; whnf
        rw [show (s == 0) = false from beq_eq_false_iff_ne.2 hs]
        conv => lhs; whnf
        refine bind_of (c1 _ _) ?_
        conv => lhs; whnf
        rw [show (v != 0) = true from bne_iff_ne.2 hv]
        conv => lhs; whnf
        try rfl
  · by_cases hs : s = 0
    · rw [show mayC 5 s v = 0 by simp [mayC, hs]]
      conv => lhs; whnf
      refine bind_of (c1 _ _) ?_
      conv => lhs; whnf
      refine bind_of (c1 _ _) ?_
      conv => lhs; whnf
      rw [show (s == 0) = true from beq_iff_eq.2 hs]
      conv => lhs; whnf
      try rfl
    · rw [show mayC 5 s v = 14 by simp [mayC, hs]]
      conv => lhs; whnf
      refine bind_of (c1 _ _) ?_
      conv => lhs; whnf
      refine bind_of (c1 _ _) ?_
      conv => lhs; whnf
      rw [show (s == 0) = false from beq_eq_false_iff_ne.2 hs]
      conv => lhs; whnf
      try rfl
  · by_cases hs : s = 0
    · rw [show mayC 6 s v = 0 by simp [mayC, hs]]
      conv => lhs; whnf
      refine bind_of (c1 _ _) ?_
      conv => lhs; whnf
      refine bind_of (c1 _ _) ?_
      conv => lhs; whnf
      rw [show (s == 0) = true from beq_iff_eq.2 hs]
      conv => lhs; whnf
      try rfl
    · rw [show mayC 6 s v = 14 by simp [mayC, hs]]
      conv => lhs; whnf
      refine bind_of (c1 _ _) ?_
      conv => lhs; whnf
      refine bind_of (c1 _ _) ?_
      conv => lhs; whnf
      rw [show (s == 0) = false from beq_eq_false_iff_ne.2 hs]
      conv => lhs; whnf
      try rfl
  · by_cases hs : s = 0
    · by_cases hv : v > 2
      · rw [show mayC 7 s v = 15 by simp [mayC, hs, hv]]
        conv => lhs; whnf
        refine bind_of (c1 _ _) ?_
        conv => lhs; whnf
        refine bind_of (c1 _ _) ?_
        conv => lhs; whnf
        rw [show (s == 0) = true from beq_iff_eq.2 hs]
        conv => lhs; whnf
        refine bind_of (c1 _ _) ?_
        conv => lhs; whnf
        rw [kdec hv]
        conv => lhs; whnf
        try rfl
      · rw [show mayC 7 s v = 0 by simp [mayC, hs, hv]]
        conv => lhs; whnf
        refine bind_of (c1 _ _) ?_
        conv => lhs; whnf
        refine bind_of (c1 _ _) ?_
        conv => lhs; whnf
        rw [show (s == 0) = true from beq_iff_eq.2 hs]
        conv => lhs; whnf
        refine bind_of (c1 _ _) ?_
        conv => lhs; whnf
        rw [kdecn hv]
        conv => lhs; whnf
        try rfl
    · rw [show mayC 7 s v = 14 by simp [mayC, hs]]
      conv => lhs; whnf
      refine bind_of (c1 _ _) ?_
      conv => lhs; whnf
      refine bind_of (c1 _ _) ?_
      conv => lhs; whnf
      rw [show (s == 0) = false from beq_eq_false_iff_ne.2 hs]
      conv => lhs; whnf
      try rfl
end Go.Dn.Ln
end

section
/-
  a frame's bytes (layer 4), in this seat
-/
namespace Go.Dn.Lf
open Go.Proofs Go.Dn.Ln
set_option maxHeartbeats 4000000
set_option maxRecDepth 100000
attribute [local irreducible] Hp.get Hp.set Hp.push dappend dcopy dstore cellsAt callD loopD

theorem elB : ElT Tryd.bk.E 78 5 1 1 := ⟨⟨_, rfl, rfl⟩, ⟨_, _, rfl, rfl, rfl, rfl, rfl⟩, by decide⟩
def e16 (v : Int) : List Value := [.int .u8 (IntKind.u8.wrap (v.fdiv (2 ^ min (Int.toNat 8) IntKind.u16.bits))), .int .u8 (IntKind.u8.wrap v)]
def e32 (v : Int) : List Value := [.int .u8 (IntKind.u8.wrap (v.fdiv (2 ^ min (Int.toNat 24) IntKind.u32.bits))), .int .u8 (IntKind.u8.wrap (v.fdiv (2 ^ min (Int.toNat 16) IntKind.u32.bits))), .int .u8 (IntKind.u8.wrap (v.fdiv (2 ^ min (Int.toNat 8) IntKind.u32.bits))), .int .u8 (IntKind.u8.wrap v)]

theorem dcopy_of {A : Hp} {b b2 n c c2 : Nat} {T : TypeId} {zs us : List Value} {md : Md} (h1 : A.get b = some (.arr 5 zs .own)) (h2 : A.get b2 = some (.arr T us md)) (hz : zs.length = n) (hu : us.length = n) (hn : n ≠ 0) :
    dcopy Tryd.bk.E 78 78 A (.slice (some ⟨b, 0, some 1⟩) n c) (.slice (some ⟨b2, 0, some 1⟩) n c2) = some (.int .i64 (n : Nat), A.set b (some (.arr 5 us .own))) := by
  have e1 : Tryd.bk.E.T 78 = some Go.Dn.Tryd.ti78 := rfl
  have e2 : Tryd.bk.E.T 5 = some Go.Dn.Tryd.ti5 := rfl
  unfold dcopy
  rw [e1]
  simp only [Option.bind_some]
  show (Tryd.bk.E.T 5).bind _ = _
  rw [e2]
  simp only [Option.bind_some, lenSl, Nat.min_self]
  rw [Tr.beq_ff hn]
  simp only [cond_false]
  rw [if_pos ⟨rfl, rfl⟩]
  show (cellsAt A b2 0 (n * 1)).bind _ = _
  rw [cellsAt_of h2, cellsIn_of (us := us) (by omega) (by rw [List.drop_zero, List.take_of_length_le (by omega)])]
  simp only [Option.bind_some]
  unfold setCellsAt
  rw [h1]
  have h3 : 0 + us.length ≤ zs.length := by omega
  simp only [if_pos h3, List.take_zero, List.nil_append, Option.map_some]
  rw [List.drop_eq_nil_of_le (by omega), List.append_nil]

theorem b16_walk {call : CallT} (lf : Nat) {A : Hp} (hw : A.wf) (v : Int) :
    ∃ A', kfn Tryd.bk.E call (Tryd.bk.inf 116) lf Tryd.f116 [.int .u16 v] A = some (.slice (some ⟨A.next + 1, 0, some 1⟩) 2 5, A') ∧ Kp A A' ∧ A'.get (A.next + 1) = some (.arr 5 (e16 v) .own) := by
  let Z : List Value := [.int .u8 0, .int .u8 0]
  let A1 : Hp := (A.push (.arr 204 Z .own)).set A.next (some (.arr 204 (e16 v) .own))
  have n1 : A1.next = A.next + 1 := by simp [A1]
  have w1 : A1.wf := (hw.push _).put (Hp.get_push_same _ _) _
  let A2 : Hp := A1.push (.arr 5 Z .own)
  have g1 : A2.get A.next = some (.arr 204 (e16 v) .own) := by
    rw [show A2.get A.next = A1.get A.next from Hp.get_push_ne _ _ (by omega)]
    exact Hp.get_set_same _ _ _
  have g2 : A2.get A1.next = some (.arr 5 Z .own) := Hp.get_push_same _ _
  have hc := dcopy_of (c := 5) (c2 := 5) g2 g1 rfl rfl (by decide)
  have k : Kp A (A2.set A1.next (some (.arr 5 (e16 v) .own))) := (((Kp.push hw (.arr 204 Z .own)).set (Hp.get_push_same _ _) (Nat.le_refl _) (.arr 204 (e16 v) .own)).trans (Kp.push w1 (.arr 5 Z .own))).set g2 (by omega) _
  rw [← n1]
  refine ⟨_, ?run, k, Hp.get_set_same _ _ _⟩
  case run =>
    conv => lhs; whnf
    refine bind_of (dstore_of (Hp.get_push_same _ _) (t := 204) (o := 0) (cs' := e16 v) rfl) ?_
    conv => lhs; whnf
    refine bind_of hc ?_
    conv => lhs; whnf
    rfl

theorem b32_walk {call : CallT} (lf : Nat) {A : Hp} (hw : A.wf) (v : Int) :
    ∃ A', kfn Tryd.bk.E call (Tryd.bk.inf 117) lf Tryd.f117 [.int .u32 v] A = some (.slice (some ⟨A.next + 1, 0, some 1⟩) 4 9, A') ∧ Kp A A' ∧ A'.get (A.next + 1) = some (.arr 5 (e32 v) .own) := by
  let Z : List Value := [.int .u8 0, .int .u8 0, .int .u8 0, .int .u8 0]
  let A1 : Hp := (A.push (.arr 205 Z .own)).set A.next (some (.arr 205 (e32 v) .own))
  have n1 : A1.next = A.next + 1 := by simp [A1]
  have w1 : A1.wf := (hw.push _).put (Hp.get_push_same _ _) _
  let A2 : Hp := A1.push (.arr 5 Z .own)
  have g1 : A2.get A.next = some (.arr 205 (e32 v) .own) := by
    rw [show A2.get A.next = A1.get A.next from Hp.get_push_ne _ _ (by omega)]
    exact Hp.get_set_same _ _ _
  have g2 : A2.get A1.next = some (.arr 5 Z .own) := Hp.get_push_same _ _
  have hc := dcopy_of (c := 9) (c2 := 9) g2 g1 rfl rfl (by decide)
  have k : Kp A (A2.set A1.next (some (.arr 5 (e32 v) .own))) := (((Kp.push hw (.arr 205 Z .own)).set (Hp.get_push_same _ _) (Nat.le_refl _) (.arr 205 (e32 v) .own)).trans (Kp.push w1 (.arr 5 Z .own))).set g2 (by omega) _
  rw [← n1]
  refine ⟨_, ?run, k, Hp.get_set_same _ _ _⟩
  case run =>
    conv => lhs; whnf
    refine bind_of (dstore_of (Hp.get_push_same _ _) (t := 205) (o := 0) (cs' := e32 v) rfl) ?_
    conv => lhs; whnf
    refine bind_of hc ?_
    conv => lhs; whnf
    rfl

/-- an append that stays in its array -/
theorem append_in {A : Hp} {b n m c : Nat} {cs ys : List Value} {x : Value} (hg : A.get b = some (.arr 5 cs .own)) (hx : elemsOf A 1 x = some (m, ys)) (hm : m ≠ 0) (hy : ys.length = m) (hc : n + m ≤ c / 2) (hl : n + m ≤ cs.length) (hb : n + m ≤ 1000000000) :
    dappend Tryd.bk.E 78 78 A (.slice (some ⟨b, 0, some 1⟩) n c) x = some (.slice (some ⟨b, 0, some 1⟩) (n + m) c, A.set b (some (.arr 5 (cs.take n ++ ys ++ cs.drop (n + m)) .own))) := by
  obtain ⟨⟨i, h1, h2⟩, ⟨j, z, h3, h4, h5, h6, h7⟩, h8⟩ := elB
  unfold dappend
  rw [h1]
  simp only [Option.bind_some, h2, h3, h6, h4, hx, h7, h5]
  rw [Tr.beq_ff hm]
  simp only [cond_false]
  rw [if_pos ⟨trivial, h8⟩, if_pos ⟨trivial, by unfold maxLen; omega, by omega⟩, if_pos hc]
  unfold setCellsAt
  rw [hg]
  have h9 : 0 + n * 1 + ys.length ≤ cs.length := by omega
  simp only [if_pos h9, Option.map_some]
  rw [show 0 + n * 1 = n by omega, hy]

def hdrOf (ver typ fl st ln : Int) : List Value := [.int .u8 ver, .int .u8 typ] ++ e16 fl ++ e32 st ++ e32 ln
theorem hdr_len (ver typ fl st ln : Int) : (hdrOf ver typ fl st ln).length = 12 := rfl

def Enc16 (call : CallT) : Prop := ∀ {A : Hp} (v : Int), A.wf → ∃ A', call 116 [.int .u16 v] A = some (.slice (some ⟨A.next + 1, 0, some 1⟩) 2 5, A') ∧ Kp A A' ∧ A'.get (A.next + 1) = some (.arr 5 (e16 v) .own)
def Enc32 (call : CallT) : Prop := ∀ {A : Hp} (v : Int), A.wf → ∃ A', call 117 [.int .u32 v] A = some (.slice (some ⟨A.next + 1, 0, some 1⟩) 4 9, A') ∧ Kp A A' ∧ A'.get (A.next + 1) = some (.arr 5 (e32 v) .own)

/-- the header's twelve bytes -/
theorem encode_walk {call : CallT} (h74 : Enc16 call) (h75 : Enc32 call) (lf : Nat) {A : Hp} (hw : A.wf) (ver typ fl st ln : Int) :
    ∃ b A', kfn Tryd.bk.E call (Tryd.bk.inf 95) lf Tryd.f95 [.agg #[.int .u8 ver, .int .u8 typ, .int .u16 fl, .int .u32 st, .int .u32 ln]] A = some (.slice (some ⟨b, 0, some 1⟩) 12 25, A') ∧ Kp A A' ∧ A'.get b = some (.arr 5 (hdrOf ver typ fl st ln) .own) ∧ A.next ≤ b := by
  let H : List Value := [.int .u8 ver, .int .u8 typ, .int .u16 fl, .int .u32 st, .int .u32 ln]
  let c0 : List Value := List.replicate 12 (.int .u8 0)
  let c1 : List Value := c0.take 0 ++ [.int .u8 ver, .int .u8 typ] ++ c0.drop (0 + 2)
  let c2 : List Value := c1.take 2 ++ e16 fl ++ c1.drop (2 + 2)
  let c3 : List Value := c2.take 4 ++ e32 st ++ c2.drop (4 + 4)
  let c4 : List Value := c3.take 8 ++ e32 ln ++ c3.drop (8 + 4)
  let A1 : Hp := A.push (.arr 77 H .own)
  let A2 : Hp := A1.push (.arr 5 c0 .own)
  let A3 : Hp := A2.push (.arr 5 [.int .u8 ver, .int .u8 typ] .own)
  let A4 : Hp := A3.set A1.next (some (.arr 5 c1 .own))
  have n1 : A1.next = A.next + 1 := by simp [A1]
  have n2 : A2.next = A.next + 2 := by simp [A2, A1]
  have k1 : Kp A A1 := Kp.push hw _
  have k2 : Kp A A2 := k1.trans (Kp.push k1.wf _)
  have k3 : Kp A A3 := k2.trans (Kp.push k2.wf _)
  have g2 : A2.get A1.next = some (.arr 5 c0 .own) := Hp.get_push_same _ _
  have g3 : A3.get A1.next = some (.arr 5 c0 .own) := by rw [show A3.get A1.next = A2.get A1.next from Hp.get_push_ne _ _ (by omega)]; exact g2
  have k4 : Kp A A4 := k3.set g3 (by omega) _
  have q1 : A1.get A.next = some (.arr 77 H .own) := Hp.get_push_same _ _
  have q2 : A2.get A.next = some (.arr 77 H .own) := by rw [show A2.get A.next = A1.get A.next from Hp.get_push_ne _ _ (by omega)]; exact q1
  have q3 : A3.get A.next = some (.arr 77 H .own) := by rw [show A3.get A.next = A2.get A.next from Hp.get_push_ne _ _ (by omega)]; exact q2
  have q4 : A4.get A.next = some (.arr 77 H .own) := by rw [show A4.get A.next = A3.get A.next from Hp.get_set_ne _ _ (by omega)]; exact q3
  have n4 : A4.next = A.next + 3 := by simp [A4, A3, A2, A1]
  have a1 := append_in (n := 0) (c := 25) g3 (BsAt.at A2.next 0 2 5 5 [.int .u8 ver, .int .u8 typ] _ .own (Hp.get_push_same _ _) (by simp) rfl (by omega)).elems (by simp) rfl (by simp) (by simp [c0]) (by simp)
  obtain ⟨A5, r1, r2, r3⟩ := h74 fl k4.wf
  have g4 : A4.get A1.next = some (.arr 5 c1 .own) := Hp.get_set_same _ _ _
  have g5 : A5.get A1.next = some (.arr 5 c1 .own) := by rw [r2.old _ (by omega)]; exact g4
  have q5 : A5.get A.next = some (.arr 77 H .own) := by rw [r2.old _ (by omega)]; exact q4
  have a2 := append_in (n := 2) (c := 25) g5 (BsAt.at (A4.next + 1) 0 2 5 5 (e16 fl) _ .own r3 (by simp [e16]) rfl (by omega)).elems (by simp [e16]) rfl (by simp [e16]) (by simp [c1, c0, e16]) (by simp [e16])
  let A6 : Hp := A5.set A1.next (some (.arr 5 c2 .own))
  have k6 : Kp A A6 := (k4.trans r2).set g5 (by omega) _
  have g6 : A6.get A1.next = some (.arr 5 c2 .own) := Hp.get_set_same _ _ _
  have q6 : A6.get A.next = some (.arr 77 H .own) := by rw [show A6.get A.next = A5.get A.next from Hp.get_set_ne _ _ (by omega)]; exact q5
  have n6 : A6.next = A5.next := Hp.next_set _ _ _
  have l5 := r2.nx
  obtain ⟨A7, s1, s2, s3⟩ := h75 st k6.wf
  have g7 : A7.get A1.next = some (.arr 5 c2 .own) := by rw [s2.old _ (by omega)]; exact g6
  have q7 : A7.get A.next = some (.arr 77 H .own) := by rw [s2.old _ (by omega)]; exact q6
  have a3 := append_in (n := 4) (c := 25) g7 (BsAt.at (A6.next + 1) 0 4 9 5 (e32 st) _ .own s3 (by simp [e32]) rfl (by omega)).elems (by simp [e32]) rfl (by simp [e32]) (by simp [c2, c1, c0, e16, e32]) (by simp [e32])
  let A8 : Hp := A7.set A1.next (some (.arr 5 c3 .own))
  have k8 : Kp A A8 := (k6.trans s2).set g7 (by omega) _
  have g8 : A8.get A1.next = some (.arr 5 c3 .own) := Hp.get_set_same _ _ _
  have q8 : A8.get A.next = some (.arr 77 H .own) := by rw [show A8.get A.next = A7.get A.next from Hp.get_set_ne _ _ (by omega)]; exact q7
  have n8 : A8.next = A7.next := Hp.next_set _ _ _
  have l7 := s2.nx
  obtain ⟨A9, t1, t2, t3⟩ := h75 ln k8.wf
  have g9 : A9.get A1.next = some (.arr 5 c3 .own) := by rw [t2.old _ (by omega)]; exact g8
  have a4 := append_in (n := 8) (c := 25) g9 (BsAt.at (A8.next + 1) 0 4 9 5 (e32 ln) _ .own t3 (by simp [e32]) rfl (by omega)).elems (by simp [e32]) rfl (by simp [e32]) (by simp [c3, c2, c1, c0, e16, e32]) (by simp [e32])
  have k10 : Kp A (A9.set A1.next (some (.arr 5 (hdrOf ver typ fl st ln) .own))) := (k8.trans t2).set g9 (by omega) _
  refine ⟨A1.next, _, ?run, k10, Hp.get_set_same _ _ _, by omega⟩
  case run =>
    conv => lhs; whnf
    refine bind_of (cellsAt_of q2 _ _) ?_
    conv => lhs; whnf
    refine bind_of (cellsAt_of q2 _ _) ?_
    conv => lhs; whnf
    refine bind_of a1 ?_
    conv => lhs; whnf
    refine bind_of (cellsAt_of q4 _ _) ?_
    conv => lhs; whnf
    refine bind_of r1 ?_
    conv => lhs; whnf
    refine bind_of a2 ?_
    conv => lhs; whnf
    refine bind_of (cellsAt_of q6 _ _) ?_
    conv => lhs; whnf
    refine bind_of s1 ?_
    conv => lhs; whnf
    refine bind_of a3 ?_
    conv => lhs; whnf
    refine bind_of (cellsAt_of q8 _ _) ?_
    conv => lhs; whnf
    refine bind_of t1 ?_
    conv => lhs; whnf
    refine bind_of a4 ?_
    conv => lhs; whnf
    rfl
end Go.Dn.Lf
end

section
/-
  a frame's size and its bytes, in this seat
-/
namespace Go.Dn.Lf
open Go.Proofs Go.Dn.Ln
set_option maxHeartbeats 4000000
set_option maxRecDepth 100000
attribute [local irreducible] Hp.get Hp.set Hp.push dappend dcopy dstore cellsAt callD loopD guardL hideL backL

theorem elB2 : ∃ i e2, Tryd.bk.E.T 78 = some i ∧ i.d = .slice e2 := ⟨_, _, rfl, rfl⟩

theorem guarded_kp {D C : Hp} {l : List Nat} (hl : ∀ j ∈ l, j < D.next) (hk : Kp (guardL (hideL D []) l) C) :
    Kp D (backL D (backL D C l) []) ∧ (backL D (backL D C l) []).next = C.next ∧ ∀ j, D.next ≤ j → (backL D (backL D C l) []).get j = C.get j := by
  have hn := hk.nx
  rw [guard_next] at hn
  obtain ⟨d1, d2, d3, d4⟩ := back_facts hl hk.wf hn
  refine ⟨⟨d1, by rw [d2]; exact hn, fun j hj => ?_⟩, d2, fun j hj => d3 j fun hm => by have := hl j hm; omega⟩
  by_cases hm : j ∈ l
  · exact d4 j hm
  · rw [d3 j hm, hk.old j (by rw [guard_next]; exact hj), guard_get hm]

/-- how many bytes of payload -/
def szOf (typ ln : Int) : Int := bif typ == 0 then IntKind.i64.wrap ln else 0

theorem size_walk {call : CallT} (lf : Nat) (A : Hp) (ver typ fl st ln : Int) :
    kfn Tryd.bk.E call (Tryd.bk.inf 94) lf Tryd.f94 [.agg #[.int .u8 ver, .int .u8 typ, .int .u16 fl, .int .u32 st, .int .u32 ln]] A = some (.int .i64 (szOf typ ln), A.push (.arr 77 [.int .u8 ver, .int .u8 typ, .int .u16 fl, .int .u32 st, .int .u32 ln] .own)) := by
  have hq : (A.push (.arr 77 [.int .u8 ver, .int .u8 typ, .int .u16 fl, .int .u32 st, .int .u32 ln] .own)).get A.next = some (.arr 77 [.int .u8 ver, .int .u8 typ, .int .u16 fl, .int .u32 st, .int .u32 ln] .own) := Hp.get_push_same _ _
  unfold szOf
  cases ht : (typ == 0) with
  | true =>
    conv => lhs; whnf
    refine bind_of (cellsAt_of hq _ _) ?_
    conv => lhs; whnf
    rw [ht]
    conv => lhs; whnf
    refine bind_of (cellsAt_of hq _ _) ?_
    conv => lhs; whnf
    rfl
  | false =>
    conv => lhs; whnf
    refine bind_of (cellsAt_of hq _ _) ?_
    conv => lhs; whnf
    rw [ht]
    conv => lhs; whnf
    rfl

def SizeOK (call : CallT) : Prop := ∀ (A : Hp) (ver typ fl st ln : Int), call 94 [.agg #[.int .u8 ver, .int .u8 typ, .int .u16 fl, .int .u32 st, .int .u32 ln]] A = some (.int .i64 (szOf typ ln), A.push (.arr 77 [.int .u8 ver, .int .u8 typ, .int .u16 fl, .int .u32 st, .int .u32 ln] .own))
def EncOK (call : CallT) : Prop := ∀ {A : Hp}, A.wf → ∀ (ver typ fl st ln : Int), ∃ b A', call 95 [.agg #[.int .u8 ver, .int .u8 typ, .int .u16 fl, .int .u32 st, .int .u32 ln]] A = some (.slice (some ⟨b, 0, some 1⟩) 12 25, A') ∧ Kp A A' ∧ A'.get b = some (.arr 5 (hdrOf ver typ fl st ln) .own) ∧ A.next ≤ b

theorem bytes_walk {call : CallT} (h66 : SizeOK call) (h67 : EncOK call) (lf : Nat) {A : Hp} (hw : A.wf) (ver typ fl st ln : Int) {a : Option Addr} {c : Nat} {us : List Value} (hB : BsAt A (.slice a us.length c) us) (hl : us.length ≤ 100000000) (hsz : (us.length : Int) = szOf typ ln) :
    ∃ V A' io, kfn Tryd.bk.E call (Tryd.bk.inf 52) lf Tryd.f52 [.agg #[.int .u8 ver, .int .u8 typ, .int .u16 fl, .int .u32 st, .int .u32 ln, .slice a us.length c]] A = some (.tuple #[V, .nilIface], A') ∧ Kp A A' ∧ SlAt 5 1 A' V (some io) (hdrOf ver typ fl st ln ++ us) (12 + us.length) ∧ A.next ≤ io := by
  let F : List Value := [.int .u8 ver, .int .u8 typ, .int .u16 fl, .int .u32 st, .int .u32 ln, .slice a us.length c]
  let A1 : Hp := A.push (.arr 80 F .own)
  have q1 : A1.get A.next = some (.arr 80 F .own) := Hp.get_push_same _ _
  let H : List Value := [.int .u8 ver, .int .u8 typ, .int .u16 fl, .int .u32 st, .int .u32 ln]
  have w1 : A1.wf := hw.push _
  have n1 : A1.next = A.next + 1 := by simp [A1]
  let D1 : Hp := backL A1 (backL A1 ((guardL (hideL A1 []) [A.next]).push (.arr 77 H .own)) [A.next]) []
  have kD1 : Kp A1 D1 := (guarded_kp (l := [A.next]) (fun j hj => by simp only [List.mem_singleton] at hj; omega) (Kp.push (guard_wf w1 _) (.arr 77 H .own))).1
  have hlD1 := kD1.nx
  have qD1 : D1.get A.next = some (.arr 80 F .own) := by rw [kD1.old _ (by omega)]; exact q1
  have hbn : (((us.length : Nat) : Int) != szOf typ ln) = false := by rw [hsz]; exact bne_self_eq_false _
  obtain ⟨b, C, e1, e2, e3, e4⟩ := h67 (guard_wf kD1.wf [A.next]) ver typ fl st ln
  rw [guard_next] at e4
  let D2 : Hp := backL D1 (backL D1 C [A.next]) []
  obtain ⟨kD2, n2, o2⟩ := guarded_kp (D := D1) (l := [A.next]) (fun j hj => by simp only [List.mem_singleton] at hj; omega) e2
  have qD2 : D2.get A.next = some (.arr 80 F .own) := by rw [kD2.old _ (by omega)]; exact qD1
  have gb : D2.get b = some (.arr 5 (hdrOf ver typ fl st ln) .own) := (o2 b e4).trans e3
  have kA : Kp A D2 := ((Kp.push hw _).trans kD1).trans kD2
  have hBD : BsAt D2 (.slice a us.length c) us := hB.old hw kA.old
  have hV : SlAt 5 1 D2 (.slice (some ⟨b, 0, some 1⟩) 12 25) (some b) (hdrOf ver typ fl st ln) 12 := .at b 0 12 25 _ _ (.inr rfl) gb (by rw [hdr_len]; omega) rfl
  obtain ⟨V', A', io', a1, a2, a3, a4, a5, a6⟩ := append_at elB elB2 hV hBD.elems (by simp) (by omega) (by unfold maxLen; omega)
  obtain ⟨i', rfl, hi'⟩ : ∃ i', io' = some i' ∧ A.next ≤ i' := by
    rcases a6 with ⟨e, _⟩ | ⟨i', e, e', _⟩
    · exact ⟨b, e, by omega⟩
    · exact ⟨i', e, by have := kA.nx; omega⟩
  have kF : Kp A A' := ⟨a4 kA.wf, by have := kA.nx; omega, fun j hj => by rw [a5 j (by have := kA.nx; omega) (fun e => by cases e; omega), kA.old j hj]⟩
  refine ⟨V', A', i', ?run, kF, a2, hi'⟩
  case run =>
    conv => lhs; whnf
    refine bind_of (cellsAt_of q1 _ _) ?_
    conv => lhs; whnf
    refine bind_of (cellsAt_of q1 _ _) ?_
    conv => lhs; whnf
    refine bind_of (h66 _ ver typ fl st ln) ?_
    conv => lhs; whnf
    rw [hbn]
    conv => lhs; whnf
    refine bind_of (cellsAt_of qD1 _ _) ?_
    conv => lhs; whnf
    refine bind_of (cellsAt_of qD1 _ _) ?_
    conv => lhs; whnf
    refine bind_of e1 ?_
    conv => lhs; whnf
    refine bind_of a1 ?_
    conv => lhs; whnf
    rfl
end Go.Dn.Lf
end

section
/-
  has: a number among a list's
-/
namespace Go.Dn.Lf
open Go.Proofs Go.Dn.Ln
set_option maxHeartbeats 4000000
set_option maxRecDepth 100000
attribute [local irreducible] Hp.get Hp.set Hp.push dappend dcopy dstore cellsAt callD loopD guardL hideL backL

def u16s (l : List Int) : List Value := l.map fun x => .int .u16 x
theorem u16_at {l : List Int} {i : Nat} {x : Int} (h : l[i]? = some x) : (u16s l)[i]? = some (.int .u16 x) := by
  unfold u16s; rw [List.getElem?_map, h]; rfl

theorem bs_cell {A : Hp} {a : Option Addr} {m c : Nat} {us : List Value} (h : BsAt A (.slice a m c) us) {i : Nat} {x : Value} (hx : us[i]? = some x) : ∃ b o T cs md, a = some ⟨b, o, some 1⟩ ∧ A.get b = some (.arr T cs md) ∧ cellsIn cs (o + i * 1) 1 = some [x] ∧ i < m := by
  cases h with
  | nil c hc => simp at hx
  | «at» b o _ _ T cs _ md hg hl hu hc =>
    have hlen : us.length = m := by rw [← hu]; simp; omega
    have hi : i < us.length := (List.getElem?_eq_some_iff.1 hx).1
    refine ⟨b, o, T, cs, md, rfl, hg, cellsIn_of (by omega) ?_, by omega⟩
    rw [← hu, List.getElem?_take, if_pos (by omega), List.getElem?_drop] at hx
    apply List.ext_getElem?
    intro j
    rw [List.getElem?_take]
    match j with
    | 0 => rw [if_pos (by omega), List.getElem?_drop, show o + i * 1 + 0 = o + i by omega, hx]; rfl
    | j + 1 => rw [if_neg (by omega)]; rfl

theorem has_walk {call : CallT} (lf : Nat) {A : Hp} {a : Option Addr} {c : Nat} {l : List Int} (hv : BsAt A (.slice a l.length c) (u16s l)) (x : Int) (hn : l.length ≤ 100000000) (hlf : l.length + 1 < lf) :
    kfn Tryd.bk.E call (Tryd.bk.inf 96) lf Tryd.f96 [.slice a l.length c, .int .u16 x] A = some (.bool (l.any (· == x)), A) := by
  have key := loop_rule (ks := some [1, 4, 7, 8, 9]) (f := exec Tryd.bk.E call Tryd.f96.ntmps (Tryd.bk.inf 96) lf (loopOf Tryd.f96 0)) (S := Nat)
    (fun i => [(1, .int .u16 x), (4, .bool false), (7, .slice a l.length c), (8, .int .i64 (l.length : Nat)), (9, .int .i64 (i : Nat))])
    (fun i B => B = A ∧ i ≤ l.length ∧ (l.take i).any (· == x) = false) (fun i => l.length - i)
    (fun e σ B => B = A ∧ ((e = .exit 0 ∧ l.any (· == x) = false ∧ ∃ J, σ = [(1, .int .u16 x), (4, .bool false), (7, .slice a l.length c), (8, .int .i64 (l.length : Nat)), (9, J)]) ∨
      (e = .ret ∧ l.any (· == x) = true ∧ ∃ J, σ = [(1, .int .u16 x), (4, .bool true), (7, .slice a l.length c), (8, .int .i64 (l.length : Nat)), (9, J)]))) (fun i B hs => ?step)
    lf 0 A ⟨rfl, Nat.zero_le _, rfl⟩ (by omega)
  case step =>
    obtain ⟨hB, z1, z2⟩ := hs
    subst hB
    by_cases hi : i < l.length
    · have e1 : ((i : Nat) : Int) < ((l.length : Nat) : Int) := by omega
      have hx : l[i]? = some l[i] := List.getElem?_eq_getElem hi
      have htk : l.take (i + 1) = l.take i ++ [l[i]] := by rw [List.take_add_one, hx]; rfl
      have hmem : l[i] ∈ l := List.getElem_mem hi
      generalize l[i] = y at hx htk hmem
      obtain ⟨b, o, T, cs, md, rfl, g, q, _⟩ := bs_cell hv (u16_at hx)
      have hw1 : IntKind.i64.wrap ((i : Int) + 1) = ((i + 1 : Nat) : Int) := by rw [w64 (by omega) (by omega)]; omega
      by_cases hy : y = x
      · have e3 : (y == x) = true := by simp [hy]
        refine ⟨.ret, ?s1, _, kexec_run ?run1, .inr ⟨by simp, rfl, .inr ⟨rfl, List.any_eq_true.2 ⟨y, hmem, e3⟩, ?J1, ?kp1⟩⟩⟩
        case run1 =>
          conv => lhs; whnf
          rw [kdec e1]
          conv => lhs; whnf
          rw [kdec e1]
          conv => lhs; whnf
          refine bind_of ((cellsAt_of g _ _).trans q) ?_
          conv => lhs; whnf
          rw [e3]
          conv => lhs; whnf
        case kp1 => rfl
      · have e3 : (y == x) = false := by simp [hy]
        refine ⟨.normal, ?s2, _, kexec_run ?run2, .inl ⟨rfl, i + 1, ?kp2, ⟨rfl, by omega, by rw [htk, List.any_append, z2]; simp [hy]⟩, by omega⟩⟩
        case run2 =>
          conv => lhs; whnf
          rw [kdec e1]
          conv => lhs; whnf
          rw [kdec e1]
          conv => lhs; whnf
          refine bind_of ((cellsAt_of g _ _).trans q) ?_
          conv => lhs; whnf
          rw [e3]
          conv => lhs; whnf
        case kp2 =>
          show [_, _, _, _, (9, Value.int .i64 (IntKind.i64.wrap ((i : Int) + 1)))] = _
          rw [hw1]
    · have e1 : ¬ ((i : Nat) : Int) < ((l.length : Nat) : Int) := by omega
      have : l.take i = l := List.take_of_length_le (by omega)
      rw [this] at z2
      refine ⟨.exit 0, ?s4, _, kexec_run ?run4, .inr ⟨by simp, rfl, .inl ⟨rfl, z2, ?J4, ?kp4⟩⟩⟩
      case run4 =>
        conv => lhs; whnf
        rw [kdecn e1]
      case kp4 => rfl
  obtain ⟨e, σ1, A1, r1, rfl, ⟨rfl, hh, J, rfl⟩ | ⟨rfl, hh, J, rfl⟩⟩ := key
  · rw [hh]
    conv => lhs; whnf
    refine bind_of r1 ?_
    conv => lhs; whnf
    try rfl
  · rw [hh]
    conv => lhs; whnf
    refine bind_of r1 ?_
    conv => lhs; whnf
    try rfl
end Go.Dn.Lf
end

section
/-
  a ticket's frame: the document's, and the program's
-/
namespace Go.Dn.Lf
open Go.Proofs Go.Dn.Ln
set_option maxHeartbeats 4000000
set_option maxRecDepth 100000
attribute [local irreducible] Hp.get Hp.set Hp.push dappend dcopy dstore cellsAt callD loopD guardL hideL backL

def tK (k : Nat) : Int := if k ≤ 4 then 1 else if k = 7 then 3 else 2
def fK (k : Nat) : Int := if k = 1 ∨ k = 5 then 1 else if k = 2 ∨ k = 6 then 2 else if k = 4 then 8 else 0
abbrev HC (t f s v : Int) : List Value := [.int .u8 0, .int .u8 t, .int .u16 f, .int .u32 s, .int .u32 v]
abbrev hdV (t f s v : Int) : Value := .agg #[.int .u8 0, .int .u8 t, .int .u16 f, .int .u32 s, .int .u32 v]
abbrev tkV (k s v : Int) : Value := .agg #[.int .i64 k, .int .u32 s, .int .u32 v]
abbrev TC (k s v : Int) : List Value := [.int .i64 k, .int .u32 s, .int .u32 v]
def MayOK (call : CallT) : Prop := ∀ (A : Hp) (k s v : Int), call 93 [tkV k s v] A = some (.int .i64 (mayC k s v), A.push (.arr 29 (TC k s v) .own))

theorem rframe_bad {call : CallT} (h : MayOK call) (lf : Nat) {A : Hp} (hw : A.wf) {k s v : Int} (hm : (mayC k s v != 0) = true) :
    ∃ A', kfn Tryd.bk.E call (Tryd.bk.inf 50) lf Tryd.f50 [tkV k s v] A = some (.tuple #[hdV 0 0 0 0, .int .i64 (mayC k s v)], A') ∧ Kp A A' := by
  let A1 : Hp := A.push (.arr 29 (TC k s v) .own)
  have k1 : Kp A A1 := Kp.push hw _
  have n1 : A1.next = A.next + 1 := Hp.next_push _ _
  let A2 : Hp := A1.push (.arr 77 (HC 0 0 0 0) .own)
  have k2 : Kp A1 A2 := Kp.push k1.wf _
  have n2 : A2.next = A1.next + 1 := Hp.next_push _ _
  have g1 : A2.get A.next = some (.arr 29 (TC k s v) .own) := (k2.old _ (by omega)).trans (Hp.get_push_same _ _)
  have g2 : A2.get A1.next = some (.arr 77 (HC 0 0 0 0) .own) := Hp.get_push_same _ _
  let A3 : Hp := A2.push (.arr 29 (TC k s v) .own)
  have k3 : Kp A2 A3 := Kp.push k2.wf _
  have g3 : A3.get A1.next = some (.arr 77 (HC 0 0 0 0) .own) := (k3.old _ (by omega)).trans g2
  refine ⟨_, ?run, ((k1.trans k2).trans k3).set g3 (by omega) (.arr 77 (HC 0 0 0 0) .own)⟩
  case run =>
    conv => lhs; whnf
    refine bind_of (cellsAt_of g1 _ _) ?_
    conv => lhs; whnf
    refine bind_of (h _ _ _ _) ?_
    conv => lhs; whnf
    rw [hm]
    conv => lhs; whnf
    refine bind_of (dstore_of g3 (t := 77) (o := 0) (cs' := HC 0 0 0 0) rfl) ?_
    conv => lhs; whnf
    refine bind_of (cellsAt_of (Hp.get_set_same _ _ _) _ _) ?_
    conv => lhs; whnf
    try rfl

theorem rframe_ok {call : CallT} (h : MayOK call) (lf : Nat) {A : Hp} (hw : A.wf) {k : Int} (h17 : k = 1 ∨ k = 2 ∨ k = 3 ∨ k = 4 ∨ k = 5 ∨ k = 6 ∨ k = 7) {s v : Int} (hm : (mayC k s v != 0) = false) :
    ∃ A', kfn Tryd.bk.E call (Tryd.bk.inf 50) lf Tryd.f50 [tkV k s v] A = some (.tuple #[hdV (tK k.toNat) (fK k.toNat) s v, .int .i64 0], A') ∧ Kp A A' := by
  let A1 : Hp := A.push (.arr 29 (TC k s v) .own)
  have k1 : Kp A A1 := Kp.push hw _
  have n1 : A1.next = A.next + 1 := Hp.next_push _ _
  let A2 : Hp := A1.push (.arr 77 (HC 0 0 0 0) .own)
  have k2 : Kp A1 A2 := Kp.push k1.wf _
  have n2 : A2.next = A1.next + 1 := Hp.next_push _ _
  have g1 : A2.get A.next = some (.arr 29 (TC k s v) .own) := (k2.old _ (by omega)).trans (Hp.get_push_same _ _)
  have g2 : A2.get A1.next = some (.arr 77 (HC 0 0 0 0) .own) := Hp.get_push_same _ _
  let A3 : Hp := A2.push (.arr 29 (TC k s v) .own)
  have k3 : Kp A2 A3 := Kp.push k2.wf _
  have n3 : A3.next = A2.next + 1 := Hp.next_push _ _
  have g3 : A3.get A1.next = some (.arr 77 (HC 0 0 0 0) .own) := (k3.old _ (by omega)).trans g2
  have t3 : A3.get A.next = some (.arr 29 (TC k s v) .own) := (k3.old _ (by omega)).trans g1
  let A4 : Hp := A3.push (.arr 77 (HC 0 0 0 0) .own)
  have k4 : Kp A3 A4 := Kp.push k3.wf _
  have g4 : A4.get A3.next = some (.arr 77 (HC 0 0 0 0) .own) := Hp.get_push_same _ _
  let A5 : Hp := A4.set A3.next (some (.arr 77 (HC 1 0 s v) .own))
  have k5 : Kp A3 A5 := k4.set g4 (Nat.le_refl _) _
  have g5 : A5.get A3.next = some (.arr 77 (HC 1 0 s v) .own) := Hp.get_set_same _ _ _
  have t5 : A5.get A.next = some (.arr 29 (TC k s v) .own) := (k5.old _ (by omega)).trans t3
  have r5 : A5.get A1.next = some (.arr 77 (HC 0 0 0 0) .own) := (k5.old _ (by omega)).trans g3
  have l5 := k5.wf.lt g5
  have k05 := ((k1.trans k2).trans k3).trans k5
  have l3 := k3.wf.lt g3
  rcases h17 with hk | hk | hk | hk | hk | hk | hk
  · have et : hdV (tK k.toNat) (fK k.toNat) s v = hdV 1 1 s v := by rw [hk]; rfl
    rw [et]
    have c1 : (k == 1) = true := by rw [hk]; rfl
    let X0 : Hp := A5.set A3.next (some (.arr 77 (HC 1 1 s v) .own))
    have gX0 : X0.get A3.next = some (.arr 77 (HC 1 1 s v) .own) := Hp.get_set_same _ _ _
    have kX0 : Kp A3 X0 := k5.set g5 (Nat.le_refl _) _
    have rZ : X0.get A1.next = some (.arr 77 (HC 0 0 0 0) .own) := (kX0.old _ (by omega)).trans g3
    refine ⟨_, ?run1, (((k1.trans k2).trans k3).trans kX0).set rZ (by omega) (.arr 77 (HC 1 1 s v) .own)⟩
    case run1 =>
      conv => lhs; whnf
      refine bind_of (cellsAt_of g1 _ _) ?_
      conv => lhs; whnf
      refine bind_of (h _ _ _ _) ?_
      conv => lhs; whnf
      rw [hm]
      conv => lhs; whnf
      refine bind_of (cellsAt_of t3 _ _) ?_
      conv => lhs; whnf
      refine bind_of (cellsAt_of t3 _ _) ?_
      conv => lhs; whnf
      refine bind_of (dstore_of g4 (t := 77) (o := 0) (cs' := HC 1 0 s v) rfl) ?_
      conv => lhs; whnf
      refine bind_of (cellsAt_of t5 _ _) ?_
      conv => lhs; whnf
      rw [c1]
      conv => lhs; whnf
      refine bind_of (dstore_of g5 (t := 75) (o := 2) (cs' := HC 1 1 s v) rfl) ?_
      conv => lhs; whnf
      refine bind_of (cellsAt_of gX0 _ _) ?_
      conv => lhs; whnf
      refine bind_of (dstore_of rZ (t := 77) (o := 0) (cs' := HC 1 1 s v) rfl) ?_
      conv => lhs; whnf
      refine bind_of (cellsAt_of (Hp.get_set_same _ _ _) _ _) ?_
      conv => lhs; whnf
      try rfl
  · have et : hdV (tK k.toNat) (fK k.toNat) s v = hdV 1 2 s v := by rw [hk]; rfl
    rw [et]
    have c1 : (k == 1) = false := by rw [hk]; rfl
    have c2 : (k == 2) = true := by rw [hk]; rfl
    let X0 : Hp := A5.set A3.next (some (.arr 77 (HC 1 2 s v) .own))
    have gX0 : X0.get A3.next = some (.arr 77 (HC 1 2 s v) .own) := Hp.get_set_same _ _ _
    have kX0 : Kp A3 X0 := k5.set g5 (Nat.le_refl _) _
    have rZ : X0.get A1.next = some (.arr 77 (HC 0 0 0 0) .own) := (kX0.old _ (by omega)).trans g3
    refine ⟨_, ?run2, (((k1.trans k2).trans k3).trans kX0).set rZ (by omega) (.arr 77 (HC 1 2 s v) .own)⟩
    case run2 =>
      conv => lhs; whnf
      refine bind_of (cellsAt_of g1 _ _) ?_
      conv => lhs; whnf
      refine bind_of (h _ _ _ _) ?_
      conv => lhs; whnf
      rw [hm]
      conv => lhs; whnf
      refine bind_of (cellsAt_of t3 _ _) ?_
      conv => lhs; whnf
      refine bind_of (cellsAt_of t3 _ _) ?_
      conv => lhs; whnf
      refine bind_of (dstore_of g4 (t := 77) (o := 0) (cs' := HC 1 0 s v) rfl) ?_
      conv => lhs; whnf
      refine bind_of (cellsAt_of t5 _ _) ?_
      conv => lhs; whnf
      rw [c1]
      conv => lhs; whnf
      rw [c2]
      conv => lhs; whnf
      refine bind_of (dstore_of g5 (t := 75) (o := 2) (cs' := HC 1 2 s v) rfl) ?_
      conv => lhs; whnf
      refine bind_of (cellsAt_of gX0 _ _) ?_
      conv => lhs; whnf
      refine bind_of (dstore_of rZ (t := 77) (o := 0) (cs' := HC 1 2 s v) rfl) ?_
      conv => lhs; whnf
      refine bind_of (cellsAt_of (Hp.get_set_same _ _ _) _ _) ?_
      conv => lhs; whnf
      try rfl
  · have et : hdV (tK k.toNat) (fK k.toNat) s v = hdV 1 0 s v := by rw [hk]; rfl
    rw [et]
    have c1 : (k == 1) = false := by rw [hk]; rfl
    have c2 : (k == 2) = false := by rw [hk]; rfl
    have c4 : (k == 4) = false := by rw [hk]; rfl
    have c5 : (k == 5) = false := by rw [hk]; rfl
    have c6 : (k == 6) = false := by rw [hk]; rfl
    have c7 : (k == 7) = false := by rw [hk]; rfl
    have rZ : A5.get A1.next = some (.arr 77 (HC 0 0 0 0) .own) := (k5.old _ (by omega)).trans g3
    refine ⟨_, ?run3, (((k1.trans k2).trans k3).trans k5).set rZ (by omega) (.arr 77 (HC 1 0 s v) .own)⟩
    case run3 =>
      conv => lhs; whnf
      refine bind_of (cellsAt_of g1 _ _) ?_
      conv => lhs; whnf
      refine bind_of (h _ _ _ _) ?_
      conv => lhs; whnf
      rw [hm]
      conv => lhs; whnf
      refine bind_of (cellsAt_of t3 _ _) ?_
      conv => lhs; whnf
      refine bind_of (cellsAt_of t3 _ _) ?_
      conv => lhs; whnf
      refine bind_of (dstore_of g4 (t := 77) (o := 0) (cs' := HC 1 0 s v) rfl) ?_
      conv => lhs; whnf
      refine bind_of (cellsAt_of t5 _ _) ?_
      conv => lhs; whnf
      rw [c1]
      conv => lhs; whnf
      rw [c2]
      conv => lhs; whnf
      rw [c4]
      conv => lhs; whnf
      rw [c5]
      conv => lhs; whnf
      rw [c6]
      conv => lhs; whnf
      rw [c7]
      conv => lhs; whnf
      refine bind_of (cellsAt_of g5 _ _) ?_
      conv => lhs; whnf
      refine bind_of (dstore_of rZ (t := 77) (o := 0) (cs' := HC 1 0 s v) rfl) ?_
      conv => lhs; whnf
      refine bind_of (cellsAt_of (Hp.get_set_same _ _ _) _ _) ?_
      conv => lhs; whnf
      try rfl
  · have et : hdV (tK k.toNat) (fK k.toNat) s v = hdV 1 8 s v := by rw [hk]; rfl
    rw [et]
    have c1 : (k == 1) = false := by rw [hk]; rfl
    have c2 : (k == 2) = false := by rw [hk]; rfl
    have c4 : (k == 4) = true := by rw [hk]; rfl
    let X0 : Hp := A5.set A3.next (some (.arr 77 (HC 1 8 s v) .own))
    have gX0 : X0.get A3.next = some (.arr 77 (HC 1 8 s v) .own) := Hp.get_set_same _ _ _
    have kX0 : Kp A3 X0 := k5.set g5 (Nat.le_refl _) _
    have rZ : X0.get A1.next = some (.arr 77 (HC 0 0 0 0) .own) := (kX0.old _ (by omega)).trans g3
    refine ⟨_, ?run4, (((k1.trans k2).trans k3).trans kX0).set rZ (by omega) (.arr 77 (HC 1 8 s v) .own)⟩
    case run4 =>
      conv => lhs; whnf
      refine bind_of (cellsAt_of g1 _ _) ?_
      conv => lhs; whnf
      refine bind_of (h _ _ _ _) ?_
      conv => lhs; whnf
      rw [hm]
      conv => lhs; whnf
      refine bind_of (cellsAt_of t3 _ _) ?_
      conv => lhs; whnf
      refine bind_of (cellsAt_of t3 _ _) ?_
      conv => lhs; whnf
      refine bind_of (dstore_of g4 (t := 77) (o := 0) (cs' := HC 1 0 s v) rfl) ?_
      conv => lhs; whnf
      refine bind_of (cellsAt_of t5 _ _) ?_
      conv => lhs; whnf
      rw [c1]
      conv => lhs; whnf
      rw [c2]
      conv => lhs; whnf
      rw [c4]
      conv => lhs; whnf
      refine bind_of (dstore_of g5 (t := 75) (o := 2) (cs' := HC 1 8 s v) rfl) ?_
      conv => lhs; whnf
      refine bind_of (cellsAt_of gX0 _ _) ?_
      conv => lhs; whnf
      refine bind_of (dstore_of rZ (t := 77) (o := 0) (cs' := HC 1 8 s v) rfl) ?_
      conv => lhs; whnf
      refine bind_of (cellsAt_of (Hp.get_set_same _ _ _) _ _) ?_
      conv => lhs; whnf
      try rfl
  · have et : hdV (tK k.toNat) (fK k.toNat) s v = hdV 2 1 s v := by rw [hk]; rfl
    rw [et]
    have c1 : (k == 1) = false := by rw [hk]; rfl
    have c2 : (k == 2) = false := by rw [hk]; rfl
    have c4 : (k == 4) = false := by rw [hk]; rfl
    have c5 : (k == 5) = true := by rw [hk]; rfl
    let X0 : Hp := A5.set A3.next (some (.arr 77 (HC 2 0 s v) .own))
    have gX0 : X0.get A3.next = some (.arr 77 (HC 2 0 s v) .own) := Hp.get_set_same _ _ _
    have kX0 : Kp A3 X0 := k5.set g5 (Nat.le_refl _) _
    let X1 : Hp := X0.set A3.next (some (.arr 77 (HC 2 1 s v) .own))
    have gX1 : X1.get A3.next = some (.arr 77 (HC 2 1 s v) .own) := Hp.get_set_same _ _ _
    have kX1 : Kp A3 X1 := kX0.set gX0 (Nat.le_refl _) _
    have rZ : X1.get A1.next = some (.arr 77 (HC 0 0 0 0) .own) := (kX1.old _ (by omega)).trans g3
    refine ⟨_, ?run5, (((k1.trans k2).trans k3).trans kX1).set rZ (by omega) (.arr 77 (HC 2 1 s v) .own)⟩
    case run5 =>
      conv => lhs; whnf
      refine bind_of (cellsAt_of g1 _ _) ?_
      conv => lhs; whnf
      refine bind_of (h _ _ _ _) ?_
      conv => lhs; whnf
      rw [hm]
      conv => lhs; whnf
      refine bind_of (cellsAt_of t3 _ _) ?_
      conv => lhs; whnf
      refine bind_of (cellsAt_of t3 _ _) ?_
      conv => lhs; whnf
      refine bind_of (dstore_of g4 (t := 77) (o := 0) (cs' := HC 1 0 s v) rfl) ?_
      conv => lhs; whnf
      refine bind_of (cellsAt_of t5 _ _) ?_
      conv => lhs; whnf
      rw [c1]
      conv => lhs; whnf
      rw [c2]
      conv => lhs; whnf
      rw [c4]
      conv => lhs; whnf
      rw [c5]
      conv => lhs; whnf
      refine bind_of (dstore_of g5 (t := 5) (o := 1) (cs' := HC 2 0 s v) rfl) ?_
      conv => lhs; whnf
      refine bind_of (dstore_of gX0 (t := 75) (o := 2) (cs' := HC 2 1 s v) rfl) ?_
      conv => lhs; whnf
      refine bind_of (cellsAt_of gX1 _ _) ?_
      conv => lhs; whnf
      refine bind_of (dstore_of rZ (t := 77) (o := 0) (cs' := HC 2 1 s v) rfl) ?_
      conv => lhs; whnf
      refine bind_of (cellsAt_of (Hp.get_set_same _ _ _) _ _) ?_
      conv => lhs; whnf
      try rfl
  · have et : hdV (tK k.toNat) (fK k.toNat) s v = hdV 2 2 s v := by rw [hk]; rfl
    rw [et]
    have c1 : (k == 1) = false := by rw [hk]; rfl
    have c2 : (k == 2) = false := by rw [hk]; rfl
    have c4 : (k == 4) = false := by rw [hk]; rfl
    have c5 : (k == 5) = false := by rw [hk]; rfl
    have c6 : (k == 6) = true := by rw [hk]; rfl
    let X0 : Hp := A5.set A3.next (some (.arr 77 (HC 2 0 s v) .own))
    have gX0 : X0.get A3.next = some (.arr 77 (HC 2 0 s v) .own) := Hp.get_set_same _ _ _
    have kX0 : Kp A3 X0 := k5.set g5 (Nat.le_refl _) _
    let X1 : Hp := X0.set A3.next (some (.arr 77 (HC 2 2 s v) .own))
    have gX1 : X1.get A3.next = some (.arr 77 (HC 2 2 s v) .own) := Hp.get_set_same _ _ _
    have kX1 : Kp A3 X1 := kX0.set gX0 (Nat.le_refl _) _
    have rZ : X1.get A1.next = some (.arr 77 (HC 0 0 0 0) .own) := (kX1.old _ (by omega)).trans g3
    refine ⟨_, ?run6, (((k1.trans k2).trans k3).trans kX1).set rZ (by omega) (.arr 77 (HC 2 2 s v) .own)⟩
    case run6 =>
      conv => lhs; whnf
      refine bind_of (cellsAt_of g1 _ _) ?_
      conv => lhs; whnf
      refine bind_of (h _ _ _ _) ?_
      conv => lhs; whnf
      rw [hm]
      conv => lhs; whnf
      refine bind_of (cellsAt_of t3 _ _) ?_
      conv => lhs; whnf
      refine bind_of (cellsAt_of t3 _ _) ?_
      conv => lhs; whnf
      refine bind_of (dstore_of g4 (t := 77) (o := 0) (cs' := HC 1 0 s v) rfl) ?_
      conv => lhs; whnf
      refine bind_of (cellsAt_of t5 _ _) ?_
      conv => lhs; whnf
      rw [c1]
      conv => lhs; whnf
      rw [c2]
      conv => lhs; whnf
      rw [c4]
      conv => lhs; whnf
      rw [c5]
      conv => lhs; whnf
      rw [c6]
      conv => lhs; whnf
      refine bind_of (dstore_of g5 (t := 5) (o := 1) (cs' := HC 2 0 s v) rfl) ?_
      conv => lhs; whnf
      refine bind_of (dstore_of gX0 (t := 75) (o := 2) (cs' := HC 2 2 s v) rfl) ?_
      conv => lhs; whnf
      refine bind_of (cellsAt_of gX1 _ _) ?_
      conv => lhs; whnf
      refine bind_of (dstore_of rZ (t := 77) (o := 0) (cs' := HC 2 2 s v) rfl) ?_
      conv => lhs; whnf
      refine bind_of (cellsAt_of (Hp.get_set_same _ _ _) _ _) ?_
      conv => lhs; whnf
      try rfl
  · have et : hdV (tK k.toNat) (fK k.toNat) s v = hdV 3 0 s v := by rw [hk]; rfl
    rw [et]
    have c1 : (k == 1) = false := by rw [hk]; rfl
    have c2 : (k == 2) = false := by rw [hk]; rfl
    have c4 : (k == 4) = false := by rw [hk]; rfl
    have c5 : (k == 5) = false := by rw [hk]; rfl
    have c6 : (k == 6) = false := by rw [hk]; rfl
    have c7 : (k == 7) = true := by rw [hk]; rfl
    let X0 : Hp := A5.set A3.next (some (.arr 77 (HC 3 0 s v) .own))
    have gX0 : X0.get A3.next = some (.arr 77 (HC 3 0 s v) .own) := Hp.get_set_same _ _ _
    have kX0 : Kp A3 X0 := k5.set g5 (Nat.le_refl _) _
    have rZ : X0.get A1.next = some (.arr 77 (HC 0 0 0 0) .own) := (kX0.old _ (by omega)).trans g3
    refine ⟨_, ?run7, (((k1.trans k2).trans k3).trans kX0).set rZ (by omega) (.arr 77 (HC 3 0 s v) .own)⟩
    case run7 =>
      conv => lhs; whnf
      refine bind_of (cellsAt_of g1 _ _) ?_
      conv => lhs; whnf
      refine bind_of (h _ _ _ _) ?_
      conv => lhs; whnf
      rw [hm]
      conv => lhs; whnf
      refine bind_of (cellsAt_of t3 _ _) ?_
      conv => lhs; whnf
      refine bind_of (cellsAt_of t3 _ _) ?_
      conv => lhs; whnf
      refine bind_of (dstore_of g4 (t := 77) (o := 0) (cs' := HC 1 0 s v) rfl) ?_
      conv => lhs; whnf
      refine bind_of (cellsAt_of t5 _ _) ?_
      conv => lhs; whnf
      rw [c1]
      conv => lhs; whnf
      rw [c2]
      conv => lhs; whnf
      rw [c4]
      conv => lhs; whnf
      rw [c5]
      conv => lhs; whnf
      rw [c6]
      conv => lhs; whnf
      rw [c7]
      conv => lhs; whnf
      refine bind_of (dstore_of g5 (t := 5) (o := 1) (cs' := HC 3 0 s v) rfl) ?_
      conv => lhs; whnf
      refine bind_of (cellsAt_of gX0 _ _) ?_
      conv => lhs; whnf
      refine bind_of (dstore_of rZ (t := 77) (o := 0) (cs' := HC 3 0 s v) rfl) ?_
      conv => lhs; whnf
      refine bind_of (cellsAt_of (Hp.get_set_same _ _ _) _ _) ?_
      conv => lhs; whnf
      try rfl
end Go.Dn.Lf
end
