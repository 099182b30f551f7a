/-
  Part of the abstract machine for this program.
-/
import Derived.Test.YtombnpednnngoaaDoorPF
import Derived.Test.YtombnpednnngoaaDoorPD

section
/-
  'Same' of two lists of tickets
-/
namespace Go.Dn.Ln
open Go.Proofs
set_option maxHeartbeats 4000000
set_option maxRecDepth 100000
attribute [local irreducible] Hp.get Hp.set Hp.push dappend dcopy dstore cellsAt callD loopD

theorem deq_tick (xk yk : Nat) (xs ys xv yv : Int) : deqF Tryd.bk.E 20 29 (.agg #[.int .i64 (xk : Nat), .int .u32 xs, .int .u32 xv]) (.agg #[.int .i64 (yk : Nat), .int .u32 ys, .int .u32 yv]) = some (decide ((xk, xs, xv) = (yk, ys, yv))) := by
  by_cases h1 : xk = yk
  · subst h1
    by_cases h2 : xs = ys
    · subst h2
      by_cases h3 : xv = yv
      · subst h3
        rw [kdec rfl]
        conv => lhs; whnf
        rw [beq_self_eq_true]
        conv => lhs; whnf
        rw [beq_self_eq_true]
        conv => lhs; whnf
        rw [beq_self_eq_true]
        try rfl
      · rw [kdecn (by simp [h3])]
        conv => lhs; whnf
        rw [beq_self_eq_true]
        conv => lhs; whnf
        rw [beq_self_eq_true]
        conv => lhs; whnf
        rw [show (xv == yv) = false from beq_eq_false_iff_ne.2 h3]
        try rfl
    · rw [kdecn (by simp [h2])]
      conv => lhs; whnf
      rw [beq_self_eq_true]
      conv => lhs; whnf
      rw [show (xs == ys) = false from beq_eq_false_iff_ne.2 h2]
      try rfl
  · rw [kdecn (by simp [h1])]
    conv => lhs; whnf
    rw [show (((xk : Nat) : Int) == ((yk : Nat) : Int)) = false from beq_eq_false_iff_ne.2 fun e => h1 (by omega)]
    try rfl

theorem same_step {call : CallT} (lf : Nat) {A : Hp} {T1 T2 : List Tk} {i1 i2 c1 c2 i : Nat} (h1 : A.get i1 = some (.arr 29 (T1.map tkc).flatten .own)) (h2 : A.get i2 = some (.arr 29 (T2.map tkc).flatten .own)) (hl : T1.length = T2.length) {x y : Tk} (hx : T1[i]? = some x) (hy : T2[i]? = some y) (hm : T1.length ≤ 100000000) :
    ∃ σ1 e, exec Tryd.bk.E call Tryd.f21.ntmps (Tryd.bk.inf 21) lf (loopOf Tryd.f21 0) [(0, .slice (some ⟨i1, 0, some 3⟩) T1.length c1), (1, .slice (some ⟨i2, 0, some 3⟩) T2.length c2), (4, .bool false), (12, .int .i64 (T1.length : Nat)), (13, .int .i64 (i : Nat))] A = some (e, σ1, A) ∧
      ((x = y ∧ e = .normal ∧ keepSl (some [0, 1, 4, 12, 13]) σ1 = [(0, .slice (some ⟨i1, 0, some 3⟩) T1.length c1), (1, .slice (some ⟨i2, 0, some 3⟩) T2.length c2), (4, .bool false), (12, .int .i64 (T1.length : Nat)), (13, .int .i64 (i + 1 : Nat))]) ∨
        (x ≠ y ∧ e = .ret ∧ keepSl (some [0, 1, 4, 12, 13]) σ1 = [(0, .slice (some ⟨i1, 0, some 3⟩) T1.length c1), (1, .slice (some ⟨i2, 0, some 3⟩) T2.length c2), (4, .bool false), (12, .int .i64 (T1.length : Nat)), (13, .int .i64 (i : Nat))])) := by
  have hi : i < T1.length := (List.getElem?_eq_some_iff.1 hx).1
  have e1 : ((i : Nat) : Int) < ((T1.length : Nat) : Int) := by omega
  have e2 : ((i : Nat) : Int) < ((T2.length : Nat) : Int) := by omega
  have hw2 : IntKind.i64.wrap ((i : Int) + 1) = ((i + 1 : Nat) : Int) := by rw [w64 (by omega) (by omega)]; omega
  obtain ⟨xk, xs, xv⟩ := x
  obtain ⟨yk, ys, yv⟩ := y
  have q1 : cellsIn (T1.map tkc).flatten (0 + i * 3) 3 = some [.int .i64 (xk : Nat), .int .u32 xs, .int .u32 xv] := tick_row hx
  have q2 : cellsIn (T2.map tkc).flatten (0 + i * 3) 3 = some [.int .i64 (yk : Nat), .int .u32 ys, .int .u32 yv] := tick_row hy
  by_cases hxy : (xk, xs, xv) = (yk, ys, yv)
  · refine ⟨?s, .normal, kexec_run ?run, .inl ⟨hxy, rfl, ?kp⟩⟩
    case run =>
      conv => lhs; whnf
      rw [kdec e1]
      conv => lhs; whnf
      rw [kdec e1]
      conv => lhs; whnf
      refine bind_of ((cellsAt_of h1 _ _).trans q1) ?_
      conv => lhs; whnf
      rw [kdec e2]
      conv => lhs; whnf
      refine bind_of ((cellsAt_of h2 _ _).trans q2) ?_
      conv => lhs; whnf
      refine bind_of (a := Value.bool false) ?hv ?hr
      case hv =>
        conv => lhs; whnf
        rw [deq_tick, kdec hxy]
        try rfl
      case hr =>
        conv => lhs; whnf
        try rfl
    case kp =>
      show [_, _, _, _, (13, Value.int .i64 (IntKind.i64.wrap ((i : Int) + 1)))] = _
      rw [hw2]
  · refine ⟨?s2, .ret, kexec_run ?run2, .inr ⟨hxy, rfl, ?kp2⟩⟩
    case run2 =>
      conv => lhs; whnf
      rw [kdec e1]
      conv => lhs; whnf
      rw [kdec e1]
      conv => lhs; whnf
      refine bind_of ((cellsAt_of h1 _ _).trans q1) ?_
      conv => lhs; whnf
      rw [kdec e2]
      conv => lhs; whnf
      refine bind_of ((cellsAt_of h2 _ _).trans q2) ?_
      conv => lhs; whnf
      refine bind_of (a := Value.bool true) ?hv2 ?hr2
      case hv2 =>
        conv => lhs; whnf
        rw [deq_tick, kdecn hxy]
        try rfl
      case hr2 =>
        conv => lhs; whnf
        try rfl
    case kp2 => rfl

theorem same_end {call : CallT} (lf : Nat) {A : Hp} (V0 V1 : Value) (m i : Nat) (hi : ¬ i < m) :
    ∃ σ1, exec Tryd.bk.E call Tryd.f21.ntmps (Tryd.bk.inf 21) lf (loopOf Tryd.f21 0) [(0, V0), (1, V1), (4, .bool false), (12, .int .i64 (m : Nat)), (13, .int .i64 (i : Nat))] A = some (.exit 0, σ1, A) ∧
      keepSl (some [0, 1, 4, 12, 13]) σ1 = [(0, V0), (1, V1), (4, .bool false), (12, .int .i64 (m : Nat)), (13, .int .i64 (i : Nat))] := by
  have e1 : ¬ ((i : Nat) : Int) < ((m : Nat) : Int) := by omega
  refine ⟨?s, kexec_run ?run, ?kp⟩
  case run =>
    conv => lhs; whnf
    rw [kdecn e1]
  case kp => rfl

theorem same_loop {call : CallT} (lf : Nat) {A : Hp} {T1 T2 : List Tk} {V1 V2 : Value} {o1 o2 : Option Nat} (h1 : CanAt 29 3 A V1 o1 (T1.map tkc).flatten T1.length) (h2 : CanAt 29 3 A V2 o2 (T2.map tkc).flatten T2.length) (hl : T1.length = T2.length) (hm : T1.length ≤ 100000000) (hlf : T1.length < lf) :
    ∃ e L, loopD (some [0, 1, 4, 12, 13]) (exec Tryd.bk.E call Tryd.f21.ntmps (Tryd.bk.inf 21) lf (loopOf Tryd.f21 0)) lf [(0, V1), (1, V2), (4, .bool false), (12, .int .i64 (T1.length : Nat)), (13, .int .i64 ((0 : Nat) : Int))] A =
      some (e, [(0, V1), (1, V2), (4, .bool false), (12, .int .i64 (T1.length : Nat)), (13, L)], A) ∧ ((e = .exit 0 ∧ T1 = T2) ∨ (e = .ret ∧ T1 ≠ T2)) := by
  by_cases h0 : T1.length = 0
  · have hT : T1 = T2 := by rw [List.length_eq_zero_iff.1 h0, List.length_eq_zero_iff.1 (by omega : T2.length = 0)]
    obtain ⟨σ1, r1, r2⟩ := same_end (call := call) lf (A := A) V1 V2 T1.length 0 (by omega)
    obtain ⟨k, rfl⟩ : ∃ k, lf = k + 1 := ⟨lf - 1, by omega⟩
    have := loopD_end (ks := some [0, 1, 4, 12, 13]) (n := k) r1 (by simp)
    rw [r2] at this
    exact ⟨_, _, this, .inl ⟨rfl, hT⟩⟩
  · obtain ⟨i1, rfl⟩ : ∃ i, o1 = some i := by
      generalize T1.length = m at h1 h0
      generalize (T1.map tkc).flatten = fl at h1
      cases h1 with
      | nil => exact absurd rfl h0
      | «at» i _ _ _ _ _ => exact ⟨i, rfl⟩
    obtain ⟨i2, rfl⟩ : ∃ i, o2 = some i := by
      rw [hl] at h0
      generalize T2.length = m at h2 h0
      generalize (T2.map tkc).flatten = fl at h2
      cases h2 with
      | nil => exact absurd rfl h0
      | «at» i _ _ _ _ _ => exact ⟨i, rfl⟩
    obtain ⟨rfl, g1, _⟩ := h1.some_form
    obtain ⟨rfl, g2, _⟩ := h2.some_form
    have key := loop_rule (ks := some [0, 1, 4, 12, 13]) (f := exec Tryd.bk.E call Tryd.f21.ntmps (Tryd.bk.inf 21) lf (loopOf Tryd.f21 0)) (S := Nat)
      (fun i => [(0, .slice (some ⟨i1, 0, some 3⟩) T1.length (2 * T1.length)), (1, .slice (some ⟨i2, 0, some 3⟩) T2.length (2 * T2.length)), (4, .bool false), (12, .int .i64 (T1.length : Nat)), (13, .int .i64 (i : Nat))])
      (fun i B => i ≤ T1.length ∧ B = A ∧ T1.take i = T2.take i) (fun i => T1.length - i)
      (fun e σ B => B = A ∧ ∃ L, σ = [(0, .slice (some ⟨i1, 0, some 3⟩) T1.length (2 * T1.length)), (1, .slice (some ⟨i2, 0, some 3⟩) T2.length (2 * T2.length)), (4, .bool false), (12, .int .i64 (T1.length : Nat)), (13, L)] ∧ ((e = .exit 0 ∧ T1 = T2) ∨ (e = .ret ∧ T1 ≠ T2))) (fun i B hs => ?_)
      lf 0 A ⟨Nat.zero_le _, rfl, rfl⟩ (by omega)
    · obtain ⟨e, σ1, A1, r1, rfl, L, rfl, r2⟩ := key
      exact ⟨e, L, r1, r2⟩
    · obtain ⟨z1, rfl, z3⟩ := hs
      by_cases him : i < T1.length
      · obtain ⟨x, hx⟩ : ∃ x, T1[i]? = some x := ⟨_, List.getElem?_eq_getElem him⟩
        obtain ⟨y, hy⟩ : ∃ y, T2[i]? = some y := ⟨_, List.getElem?_eq_getElem (by omega)⟩
        obtain ⟨σ1, e, r1, r2⟩ := same_step (call := call) lf (c1 := 2 * T1.length) (c2 := 2 * T2.length) g1 g2 hl hx hy hm
        rcases r2 with ⟨rfl, rfl, r3⟩ | ⟨hne, rfl, r3⟩
        · exact ⟨.normal, σ1, B, r1, .inl ⟨rfl, i + 1, r3, ⟨him, rfl, by rw [take_succ hx, take_succ hy, z3]⟩, by omega⟩⟩
        · refine ⟨.ret, σ1, B, r1, .inr ⟨by simp, rfl, _, r3, .inr ⟨rfl, fun hT => hne ?_⟩⟩⟩
          rw [hT, hy] at hx
          exact (Option.some.inj hx).symm
      · obtain rfl : i = T1.length := by omega
        obtain ⟨σ1, r1, r2⟩ := same_end (call := call) lf (A := B) (.slice (some ⟨i1, 0, some 3⟩) T1.length (2 * T1.length)) (.slice (some ⟨i2, 0, some 3⟩) T2.length (2 * T2.length)) T1.length T1.length him
        rw [List.take_length, hl, List.take_length] at z3
        exact ⟨.exit 0, σ1, B, r1, .inr ⟨by simp, rfl, _, r2, .inl ⟨rfl, z3⟩⟩⟩

/-- Same -/
theorem same_walk {call : CallT} (lf : Nat) {A : Hp} {T1 T2 : List Tk} {V1 V2 : Value} {o1 o2 : Option Nat} (h1 : CanAt 29 3 A V1 o1 (T1.map tkc).flatten T1.length) (h2 : CanAt 29 3 A V2 o2 (T2.map tkc).flatten T2.length) (hm : T1.length ≤ 100000000) (hlf : T1.length < lf) :
    kfn Tryd.bk.E call (Tryd.bk.inf 21) lf Tryd.f21 [V1, V2] A = some (.bool (decide (T1 = T2)), A) := by
  by_cases hl : T1.length = T2.length
  · obtain ⟨e, L, r1, r2⟩ := same_loop (call := call) lf h1 h2 hl hm hlf
    have e1 : ((T1.length : Nat) : Int) = ((T2.length : Nat) : Int) := by omega
    obtain ⟨a1, c1, rfl⟩ := h1.sl3
    obtain ⟨a2, c2, rfl⟩ := h2.sl3
    rcases r2 with ⟨rfl, r2⟩ | ⟨rfl, r2⟩
    · rw [kdec r2]
      conv => lhs; whnf
      rw [show (((T1.length : Nat) : Int) != ((T2.length : Nat) : Int)) = false from bne_eq_false_iff_eq.2 e1]
      conv => lhs; whnf
      refine bind_of r1 ?_
      conv => lhs; whnf
      try rfl
    · rw [kdecn r2]
      conv => lhs; whnf
      rw [show (((T1.length : Nat) : Int) != ((T2.length : Nat) : Int)) = false from bne_eq_false_iff_eq.2 e1]
      conv => lhs; whnf
      refine bind_of r1 ?_
      conv => lhs; whnf
      try rfl
  · have e1 : ((T1.length : Nat) : Int) ≠ ((T2.length : Nat) : Int) := by omega
    obtain ⟨a1, c1, rfl⟩ := h1.sl3
    obtain ⟨a2, c2, rfl⟩ := h2.sl3
    rw [kdecn (show ¬ T1 = T2 from fun e => hl (by rw [e]))]
    conv => lhs; whnf
    rw [show (((T1.length : Nat) : Int) != ((T2.length : Nat) : Int)) = true from bne_iff_ne.2 e1]
    conv => lhs; whnf
    try rfl
end Go.Dn.Ln
end

section
/-
  'LaneTakes', run: what should come out, what should stay
-/
namespace Go.Dn.Ln
open Go.Proofs
set_option maxHeartbeats 4000000
set_option maxRecDepth 100000
attribute [local irreducible] Hp.get Hp.set Hp.push dappend dcopy dstore cellsAt callD loopD

/-- an op of the argument: its kind, and a ticket -/
structure OpA where
  k : Int
  tk : Int
  ts : Int
  tv : Int
def OpA.cells (o : OpA) : List Value := [.int .i64 o.k, .int .i64 o.tk, .int .u32 o.ts, .int .u32 o.tv]

def outB (o : OpA) (c : Nat) (t : Tk) : Bool := o.k == 4 || (o.k == 3 && t.2.1 == o.ts) || (o.k == 2 && c == 0 && ((t.1 : Nat) : Int) == o.tk && t.2.1 == o.ts)
def poS (o : OpA) (a : List Tk × Nat) (t : Tk) : List Tk × Nat := if outB o a.2 t then (a.1, a.2 + 1) else (a.1 ++ [t], a.2)
def po (o : OpA) (ts : List Tk) : List Tk × Nat := ts.foldl (poS o) ([], 0)
theorem po_snoc (o : OpA) (ts : List Tk) (t : Tk) : po o (ts ++ [t]) = poS o (po o ts) t := by unfold po; rw [List.foldl_append]; rfl
theorem po_len (o : OpA) : ∀ (r : List Tk) (a : List Tk × Nat), (r.foldl (poS o) a).1.length + (r.foldl (poS o) a).2 = a.1.length + a.2 + r.length
  | [], a => rfl
  | t :: r, a => by
    rw [List.foldl_cons, po_len o r]
    unfold poS
    split <;> simp <;> omega

structure KPx (io : Option Nat) (A A' : Hp) : Prop where
  wf : A'.wf
  nx : A.next ≤ A'.next
  old : ∀ j, j < A.next → io ≠ some j → A'.get j = A.get j
theorem Kp.x {A A' : Hp} (h : Kp A A') (io : Option Nat) : KPx io A A' := ⟨h.wf, h.nx, fun j hj _ => h.old j hj⟩

section
variable {call : CallT} {ts : List Tk} (hTl : ts.length ≤ 100000000) {o : OpA} {U i6 : Nat} (V3 V6 V15 V16 V17 : Value)
include hTl

theorem takes_in (lf : Nat) {A : Hp} (hw : A.wf) (hgA : A.get i6 = some (.arr 29 (ts.map tkc).flatten .own)) (hU : A.get U = some (.arr 39 o.cells .own)) {c j cn : Nat} {R : List Tk} {V7 : Value} {io7 : Option Nat} (c7 : CanAt 29 3 A V7 io7 (R.map tkc).flatten R.length) (hR : R.length ≤ 100000000) (hcn : cn ≤ 100000000) {x : Tk} (hx : ts[j]? = some x) :
    ∃ σ1 A1 V7' io7', exec Tryd.bk.E call Tryd.f4.ntmps (Tryd.bk.inf 4) lf (loopOf Tryd.f4 1) [(2, .bool false), (3, V3), (15, V15), (16, V16), (17, V17), (5, ptr U), (6, V6), (7, V7), (8, .int .i64 (cn : Nat)), (23, .slice (some ⟨i6, 0, some 3⟩) ts.length c), (24, .int .i64 (ts.length : Nat)), (25, .int .i64 (j : Nat))] A = some (.normal, σ1, A1) ∧
      keepSl (some [2, 3, 5, 6, 7, 8, 15, 16, 17, 23, 24, 25]) σ1 = [(2, .bool false), (3, V3), (15, V15), (16, V16), (17, V17), (5, ptr U), (6, V6), (7, V7'), (8, .int .i64 ((bif outB o cn x then cn + 1 else cn : Nat) : Nat)), (23, .slice (some ⟨i6, 0, some 3⟩) ts.length c), (24, .int .i64 (ts.length : Nat)), (25, .int .i64 (j + 1 : Nat))] ∧
      KPx io7 A A1 ∧ CanAt 29 3 A1 V7' io7' ((bif outB o cn x then R else R ++ [x]).map tkc).flatten (bif outB o cn x then R else R ++ [x]).length ∧ (io7' = io7 ∨ ∀ j, io7' = some j → A.next ≤ j) := by
  have hj : j < ts.length := (List.getElem?_eq_some_iff.1 hx).1
  have hcell := tick_row hx
  obtain ⟨xk, xs, xv⟩ := x
  obtain ⟨ok, otk, ots, otv⟩ := o
  have e1 : ((j : Nat) : Int) < ((ts.length : Nat) : Int) := by omega
  have hw2 : IntKind.i64.wrap ((j : Int) + 1) = ((j + 1 : Nat) : Int) := by rw [w64 (by omega) (by omega)]; omega
  have hw3 : IntKind.i64.wrap ((cn : Nat) + 1) = ((cn + 1 : Nat) : Int) := by rw [w64 (by omega) (by omega)]; omega
  let Z : List Value := [.int .i64 0, .int .u32 0, .int .u32 0]
  let C : List Value := [.int .i64 (xk : Nat), .int .u32 xs, .int .u32 xv]
  have hcell2 : cellsIn (ts.map tkc).flatten (0 + j * 3) 3 = some C := hcell
  let A1 : Hp := (A.push (.arr 29 Z .own)).set A.next (some (.arr 29 C .own))
  have kp1 : Kp A A1 := (Kp.push hw (.arr 29 Z .own)).set (Hp.get_push_same _ _) (Nat.le_refl _) _
  have k1 : KPx io7 A A1 := kp1.x io7
  have n1 : A1.next = A.next + 1 := by simp [A1]
  have q1 : A1.get A.next = some (.arr 29 C .own) := Hp.get_set_same _ _ _
  have hU1 : A1.get U = some (.arr 39 [.int .i64 ok, .int .i64 otk, .int .u32 ots, .int .u32 otv] .own) := by rw [kp1.old _ (hw.lt hU)]; exact hU
  obtain ⟨V7', A2, io', a1, a2, a3, a4, a5, a6⟩ := app_tick kp1.wf (c7.keep (A' := A1) (fun j hj => kp1.old j (by subst hj; exact c7.lt hw))) (xk, xs, xv) hR
  have kA : KPx io7 A A2 := ⟨a4, by omega, fun j hj hio => by rw [a6 j (by omega) hio, kp1.old j hj]⟩
  by_cases k4 : ok = 4
  · have hh : outB ⟨ok, otk, ots, otv⟩ cn (xk, xs, xv) = true := by simp [outB, k4]
    rw [hh]
    refine ⟨?sa, A1, V7, io7, kexec_run ?ra, ?ka, k1, c7.keep (fun j hj => kp1.old j (by subst hj; exact c7.lt hw)), .inl rfl⟩
    case ra =>
      conv => lhs; whnf
      rw [kdec e1]
      conv => lhs; whnf
      rw [kdec e1]
      conv => lhs; whnf
      refine bind_of ((cellsAt_of hgA _ _).trans hcell2) ?_
      conv => lhs; whnf
      refine bind_of (dstore_of (Hp.get_push_same _ _) (t := 29) (o := 0) (cs' := C) rfl) ?_
      conv => lhs; whnf
      refine bind_of (cellsAt_of hU1 _ _) ?_
      conv => lhs; whnf
      rw [show (ok == 4) = true from beq_iff_eq.2 k4]
      conv => lhs; whnf
      try rfl
    case ka =>
      show [_, _, _, _, _, _, _, _, (8, Value.int .i64 (IntKind.i64.wrap ((cn : Nat) + 1))), _, _, (25, Value.int .i64 (IntKind.i64.wrap ((j : Int) + 1)))] = _
      rw [hw2, hw3]
      rfl
  · by_cases k3 : ok = 3
    · by_cases h5 : xs = ots
      · have hh : outB ⟨ok, otk, ots, otv⟩ cn (xk, xs, xv) = true := by simp [outB, k3, h5]
        rw [hh]
        refine ⟨?sb, A1, V7, io7, kexec_run ?rb, ?kb, k1, c7.keep (fun j hj => kp1.old j (by subst hj; exact c7.lt hw)), .inl rfl⟩
        case rb =>
          conv => lhs; whnf
          rw [kdec e1]
          conv => lhs; whnf
          rw [kdec e1]
          conv => lhs; whnf
          refine bind_of ((cellsAt_of hgA _ _).trans hcell2) ?_
          conv => lhs; whnf
          refine bind_of (dstore_of (Hp.get_push_same _ _) (t := 29) (o := 0) (cs' := C) rfl) ?_
          conv => lhs; whnf
          refine bind_of (cellsAt_of hU1 _ _) ?_
          conv => lhs; whnf
          rw [show (ok == 4) = false from beq_eq_false_iff_ne.2 k4]
          conv => lhs; whnf
          refine bind_of (cellsAt_of hU1 _ _) ?_
          conv => lhs; whnf
          rw [show (ok == 3) = true from beq_iff_eq.2 k3]
          conv => lhs; whnf
          refine bind_of (cellsAt_of q1 _ _) ?_
          conv => lhs; whnf
          refine bind_of (cellsAt_of hU1 _ _) ?_
          conv => lhs; whnf
          rw [show (xs == ots) = true from beq_iff_eq.2 h5]
          conv => lhs; whnf
          try rfl
        case kb =>
          show [_, _, _, _, _, _, _, _, (8, Value.int .i64 (IntKind.i64.wrap ((cn : Nat) + 1))), _, _, (25, Value.int .i64 (IntKind.i64.wrap ((j : Int) + 1)))] = _
          rw [hw2, hw3]
          rfl
      · have k2 : ¬ ok = 2 := by omega
        have hh : outB ⟨ok, otk, ots, otv⟩ cn (xk, xs, xv) = false := by simp [outB, k3, h5]
        rw [hh]
        refine ⟨?sc, A2, V7', some io', kexec_run ?rc, ?kc, kA, a2, .inr (fun j hj => by cases hj; omega)⟩
        case rc =>
          conv => lhs; whnf
          rw [kdec e1]
          conv => lhs; whnf
          rw [kdec e1]
          conv => lhs; whnf
          refine bind_of ((cellsAt_of hgA _ _).trans hcell2) ?_
          conv => lhs; whnf
          refine bind_of (dstore_of (Hp.get_push_same _ _) (t := 29) (o := 0) (cs' := C) rfl) ?_
          conv => lhs; whnf
          refine bind_of (cellsAt_of hU1 _ _) ?_
          conv => lhs; whnf
          rw [show (ok == 4) = false from beq_eq_false_iff_ne.2 k4]
          conv => lhs; whnf
          refine bind_of (cellsAt_of hU1 _ _) ?_
          conv => lhs; whnf
          rw [show (ok == 3) = true from beq_iff_eq.2 k3]
          conv => lhs; whnf
          refine bind_of (cellsAt_of q1 _ _) ?_
          conv => lhs; whnf
          refine bind_of (cellsAt_of hU1 _ _) ?_
          conv => lhs; whnf
          rw [show (xs == ots) = false from beq_eq_false_iff_ne.2 h5]
          conv => lhs; whnf
          refine bind_of (cellsAt_of hU1 _ _) ?_
          conv => lhs; whnf
          rw [show (ok == 2) = false from beq_eq_false_iff_ne.2 k2]
          conv => lhs; whnf
          refine bind_of (cellsAt_of q1 _ _) ?_
          conv => lhs; whnf
          refine bind_of a1 ?_
          conv => lhs; whnf
          try rfl
        case kc =>
          show [_, _, _, _, _, _, _, _, _, _, _, (25, Value.int .i64 (IntKind.i64.wrap ((j : Int) + 1)))] = _
          rw [hw2]
          rfl
    · by_cases k2 : ok = 2
      · by_cases hc : cn = 0
        · have hc0 : ((cn : Nat) : Int) = 0 := by omega
          by_cases hk : ((xk : Nat) : Int) = otk
          · by_cases h5 : xs = ots
            · have hh : outB ⟨ok, otk, ots, otv⟩ cn (xk, xs, xv) = true := by simp [outB, k2, hc, hk, h5]
              rw [hh]
              refine ⟨?sd, A1, V7, io7, kexec_run ?rd, ?kd, k1, c7.keep (fun j hj => kp1.old j (by subst hj; exact c7.lt hw)), .inl rfl⟩
              case rd =>
                conv => lhs; whnf
                rw [kdec e1]
                conv => lhs; whnf
                rw [kdec e1]
                conv => lhs; whnf
                refine bind_of ((cellsAt_of hgA _ _).trans hcell2) ?_
                conv => lhs; whnf
                refine bind_of (dstore_of (Hp.get_push_same _ _) (t := 29) (o := 0) (cs' := C) rfl) ?_
                conv => lhs; whnf
                refine bind_of (cellsAt_of hU1 _ _) ?_
                conv => lhs; whnf
                rw [show (ok == 4) = false from beq_eq_false_iff_ne.2 k4]
                conv => lhs; whnf
                refine bind_of (cellsAt_of hU1 _ _) ?_
                conv => lhs; whnf
                rw [show (ok == 3) = false from beq_eq_false_iff_ne.2 k3]
                conv => lhs; whnf
                refine bind_of (cellsAt_of hU1 _ _) ?_
                conv => lhs; whnf
                rw [show (ok == 2) = true from beq_iff_eq.2 k2]
                conv => lhs; whnf
                rw [show (((cn : Nat) : Int) == 0) = true from beq_iff_eq.2 hc0]
                conv => lhs; whnf
                refine bind_of (cellsAt_of q1 _ _) ?_
                conv => lhs; whnf
                refine bind_of (cellsAt_of hU1 _ _) ?_
                conv => lhs; whnf
                rw [show (((xk : Nat) : Int) == otk) = true from beq_iff_eq.2 hk]
                conv => lhs; whnf
                refine bind_of (cellsAt_of q1 _ _) ?_
                conv => lhs; whnf
                refine bind_of (cellsAt_of hU1 _ _) ?_
                conv => lhs; whnf
                rw [show (xs == ots) = true from beq_iff_eq.2 h5]
                conv => lhs; whnf
                try rfl
              case kd =>
                show [_, _, _, _, _, _, _, _, (8, Value.int .i64 (IntKind.i64.wrap ((cn : Nat) + 1))), _, _, (25, Value.int .i64 (IntKind.i64.wrap ((j : Int) + 1)))] = _
                rw [hw2, hw3]
                rfl
            · have hh : outB ⟨ok, otk, ots, otv⟩ cn (xk, xs, xv) = false := by simp [outB, k2, h5]
              rw [hh]
              refine ⟨?se, A2, V7', some io', kexec_run ?re, ?ke, kA, a2, .inr (fun j hj => by cases hj; omega)⟩
              case re =>
                conv => lhs; whnf
                rw [kdec e1]
                conv => lhs; whnf
                rw [kdec e1]
                conv => lhs; whnf
                refine bind_of ((cellsAt_of hgA _ _).trans hcell2) ?_
                conv => lhs; whnf
                refine bind_of (dstore_of (Hp.get_push_same _ _) (t := 29) (o := 0) (cs' := C) rfl) ?_
                conv => lhs; whnf
                refine bind_of (cellsAt_of hU1 _ _) ?_
                conv => lhs; whnf
                rw [show (ok == 4) = false from beq_eq_false_iff_ne.2 k4]
                conv => lhs; whnf
                refine bind_of (cellsAt_of hU1 _ _) ?_
                conv => lhs; whnf
                rw [show (ok == 3) = false from beq_eq_false_iff_ne.2 k3]
                conv => lhs; whnf
                refine bind_of (cellsAt_of hU1 _ _) ?_
                conv => lhs; whnf
                rw [show (ok == 2) = true from beq_iff_eq.2 k2]
                conv => lhs; whnf
                rw [show (((cn : Nat) : Int) == 0) = true from beq_iff_eq.2 hc0]
                conv => lhs; whnf
                refine bind_of (cellsAt_of q1 _ _) ?_
                conv => lhs; whnf
                refine bind_of (cellsAt_of hU1 _ _) ?_
                conv => lhs; whnf
                rw [show (((xk : Nat) : Int) == otk) = true from beq_iff_eq.2 hk]
                conv => lhs; whnf
                refine bind_of (cellsAt_of q1 _ _) ?_
                conv => lhs; whnf
                refine bind_of (cellsAt_of hU1 _ _) ?_
                conv => lhs; whnf
                rw [show (xs == ots) = false from beq_eq_false_iff_ne.2 h5]
                conv => lhs; whnf
                refine bind_of (cellsAt_of q1 _ _) ?_
                conv => lhs; whnf
                refine bind_of a1 ?_
                conv => lhs; whnf
                try rfl
              case ke =>
                show [_, _, _, _, _, _, _, _, _, _, _, (25, Value.int .i64 (IntKind.i64.wrap ((j : Int) + 1)))] = _
                rw [hw2]
                rfl
          · have hh : outB ⟨ok, otk, ots, otv⟩ cn (xk, xs, xv) = false := by simp [outB, k2, hk]
            rw [hh]
            refine ⟨?sf, A2, V7', some io', kexec_run ?rf, ?kf, kA, a2, .inr (fun j hj => by cases hj; omega)⟩
            case rf =>
              conv => lhs; whnf
              rw [kdec e1]
              conv => lhs; whnf
              rw [kdec e1]
              conv => lhs; whnf
              refine bind_of ((cellsAt_of hgA _ _).trans hcell2) ?_
              conv => lhs; whnf
              refine bind_of (dstore_of (Hp.get_push_same _ _) (t := 29) (o := 0) (cs' := C) rfl) ?_
              conv => lhs; whnf
              refine bind_of (cellsAt_of hU1 _ _) ?_
              conv => lhs; whnf
              rw [show (ok == 4) = false from beq_eq_false_iff_ne.2 k4]
              conv => lhs; whnf
              refine bind_of (cellsAt_of hU1 _ _) ?_
              conv => lhs; whnf
              rw [show (ok == 3) = false from beq_eq_false_iff_ne.2 k3]
              conv => lhs; whnf
              refine bind_of (cellsAt_of hU1 _ _) ?_
              conv => lhs; whnf
              rw [show (ok == 2) = true from beq_iff_eq.2 k2]
              conv => lhs; whnf
              rw [show (((cn : Nat) : Int) == 0) = true from beq_iff_eq.2 hc0]
              conv => lhs; whnf
              refine bind_of (cellsAt_of q1 _ _) ?_
              conv => lhs; whnf
              refine bind_of (cellsAt_of hU1 _ _) ?_
              conv => lhs; whnf
              rw [show (((xk : Nat) : Int) == otk) = false from beq_eq_false_iff_ne.2 hk]
              conv => lhs; whnf
              refine bind_of (cellsAt_of q1 _ _) ?_
              conv => lhs; whnf
              refine bind_of a1 ?_
              conv => lhs; whnf
              try rfl
            case kf =>
              show [_, _, _, _, _, _, _, _, _, _, _, (25, Value.int .i64 (IntKind.i64.wrap ((j : Int) + 1)))] = _
              rw [hw2]
              rfl
        · have hc0 : ¬ ((cn : Nat) : Int) = 0 := by omega
          have hh : outB ⟨ok, otk, ots, otv⟩ cn (xk, xs, xv) = false := by simp [outB, k2, hc]
          rw [hh]
          refine ⟨?sg, A2, V7', some io', kexec_run ?rg, ?kg, kA, a2, .inr (fun j hj => by cases hj; omega)⟩
          case rg =>
            conv => lhs; whnf
            rw [kdec e1]
            conv => lhs; whnf
            rw [kdec e1]
            conv => lhs; whnf
            refine bind_of ((cellsAt_of hgA _ _).trans hcell2) ?_
            conv => lhs; whnf
            refine bind_of (dstore_of (Hp.get_push_same _ _) (t := 29) (o := 0) (cs' := C) rfl) ?_
            conv => lhs; whnf
            refine bind_of (cellsAt_of hU1 _ _) ?_
            conv => lhs; whnf
            rw [show (ok == 4) = false from beq_eq_false_iff_ne.2 k4]
            conv => lhs; whnf
            refine bind_of (cellsAt_of hU1 _ _) ?_
            conv => lhs; whnf
            rw [show (ok == 3) = false from beq_eq_false_iff_ne.2 k3]
            conv => lhs; whnf
            refine bind_of (cellsAt_of hU1 _ _) ?_
            conv => lhs; whnf
            rw [show (ok == 2) = true from beq_iff_eq.2 k2]
            conv => lhs; whnf
            rw [show (((cn : Nat) : Int) == 0) = false from beq_eq_false_iff_ne.2 hc0]
            conv => lhs; whnf
            refine bind_of (cellsAt_of q1 _ _) ?_
            conv => lhs; whnf
            refine bind_of a1 ?_
            conv => lhs; whnf
            try rfl
          case kg =>
            show [_, _, _, _, _, _, _, _, _, _, _, (25, Value.int .i64 (IntKind.i64.wrap ((j : Int) + 1)))] = _
            rw [hw2]
            rfl
      · have hh : outB ⟨ok, otk, ots, otv⟩ cn (xk, xs, xv) = false := by simp [outB, k4, k3, k2]
        rw [hh]
        refine ⟨?sh, A2, V7', some io', kexec_run ?rh, ?kh, kA, a2, .inr (fun j hj => by cases hj; omega)⟩
        case rh =>
          conv => lhs; whnf
          rw [kdec e1]
          conv => lhs; whnf
          rw [kdec e1]
          conv => lhs; whnf
          refine bind_of ((cellsAt_of hgA _ _).trans hcell2) ?_
          conv => lhs; whnf
          refine bind_of (dstore_of (Hp.get_push_same _ _) (t := 29) (o := 0) (cs' := C) rfl) ?_
          conv => lhs; whnf
          refine bind_of (cellsAt_of hU1 _ _) ?_
          conv => lhs; whnf
          rw [show (ok == 4) = false from beq_eq_false_iff_ne.2 k4]
          conv => lhs; whnf
          refine bind_of (cellsAt_of hU1 _ _) ?_
          conv => lhs; whnf
          rw [show (ok == 3) = false from beq_eq_false_iff_ne.2 k3]
          conv => lhs; whnf
          refine bind_of (cellsAt_of hU1 _ _) ?_
          conv => lhs; whnf
          rw [show (ok == 2) = false from beq_eq_false_iff_ne.2 k2]
          conv => lhs; whnf
          refine bind_of (cellsAt_of q1 _ _) ?_
          conv => lhs; whnf
          refine bind_of a1 ?_
          conv => lhs; whnf
          try rfl
        case kh =>
          show [_, _, _, _, _, _, _, _, _, _, _, (25, Value.int .i64 (IntKind.i64.wrap ((j : Int) + 1)))] = _
          rw [hw2]
          rfl
end
end Go.Dn.Ln
end

section
/-
  'LaneTakes': the plain law; the inner loop
-/
namespace Go.Dn.Ln
open Go.Proofs
set_option maxHeartbeats 4000000
set_option maxRecDepth 100000
attribute [local irreducible] Hp.get Hp.set Hp.push dappend dcopy dstore cellsAt callD loopD

theorem outB4 {o : OpA} (h : o.k = 4) (c : Nat) (t : Tk) : outB o c t = true := by simp [outB, h]
theorem outB3 {o : OpA} (h : o.k = 3) (c : Nat) (t : Tk) : outB o c t = isS o.ts t := by simp [outB, h, isS]
theorem outB2 {o : OpA} (h : o.k = 2) (c : Nat) (t : Tk) : outB o c t = (c == 0 && wm o.tk o.ts t) := by simp [outB, h, wm, Bool.and_assoc]

theorem po4 {o : OpA} (h : o.k = 4) : ∀ (r : List Tk) (a : List Tk × Nat), r.foldl (poS o) a = (a.1, a.2 + r.length)
  | [], a => rfl
  | t :: r, a => by
    rw [List.foldl_cons, po4 h r]
    unfold poS
    rw [outB4 h]
    simp only [if_true, List.length_cons, Prod.mk.injEq, true_and]
    omega
theorem po3 {o : OpA} (h : o.k = 3) : ∀ (r : List Tk) (a : List Tk × Nat), r.foldl (poS o) a = (a.1 ++ r.filter (fun t => !isS o.ts t), a.2 + r.countP (isS o.ts))
  | [], a => by simp
  | t :: r, a => by
    rw [List.foldl_cons, po3 h r]
    unfold poS
    rw [outB3 h, List.filter_cons, List.countP_cons]
    cases isS o.ts t with
    | true => simp; omega
    | false => simp
theorem po2b {o : OpA} (h : o.k = 2) : ∀ (r : List Tk) (a : List Tk × Nat), a.2 ≠ 0 → r.foldl (poS o) a = (a.1 ++ r, a.2)
  | [], a, _ => by simp
  | t :: r, a, h0 => by
    have hs : poS o a t = (a.1 ++ [t], a.2) := by
      unfold poS
      rw [outB2 h, show (a.2 == 0) = false from beq_eq_false_iff_ne.2 h0]
      rfl
    rw [List.foldl_cons, hs, po2b h r (a.1 ++ [t], a.2) h0]
    simp
theorem po2 {o : OpA} (h : o.k = 2) : ∀ (r : List Tk) (R : List Tk), r.foldl (poS o) (R, 0) = (R ++ r.eraseP (wm o.tk o.ts), if r.any (wm o.tk o.ts) then 1 else 0)
  | [], R => by simp
  | t :: r, R => by
    rw [List.foldl_cons]
    cases hw : wm o.tk o.ts t with
    | true =>
      have hs : poS o (R, 0) t = (R, 1) := by
        unfold poS
        rw [outB2 h, hw]
        rfl
      rw [hs, po2b h r _ (by simp), List.eraseP_cons_of_pos hw, List.any_cons, hw]
      simp
    | false =>
      have hs : poS o (R, 0) t = (R ++ [t], 0) := by
        unfold poS
        rw [outB2 h, hw]
        rfl
      rw [hs, po2 h r, List.eraseP_cons_of_neg (by rw [hw]; simp), List.any_cons, hw, Bool.false_or]
      simp

theorem putT_err {ts : List Tk} {k s v : Int} {g : Nat} (h : (putT ts k s v).1 = some g) : (putT ts k s v).2 = ts := by
  revert h
  unfold putT
  split
  · intro; rfl
  · split
    · intro; rfl
    · split
      · split
        · intro; rfl
        · split
          · intro; rfl
          · intro hh; cases hh
      · intro hh; cases hh
theorem putT_len (ts : List Tk) (k s v : Int) : (putT ts k s v).2.length ≤ ts.length + 1 := by
  unfold putT
  split
  · simp
  · split
    · simp
    · split
      · split
        · simp
        · split <;> simp
      · simp

structure TJ where
  j : Nat
  v : Value
  io : Option Nat

theorem takes_in_end {call : CallT} (lf : Nat) {A : Hp} (V3 V15 V16 V17 V5 V6 V7 V8 V23 : Value) (m i : Nat) (hi : ¬ i < m) :
    ∃ σ1, exec Tryd.bk.E call Tryd.f4.ntmps (Tryd.bk.inf 4) lf (loopOf Tryd.f4 1) [(2, .bool false), (3, V3), (15, V15), (16, V16), (17, V17), (5, V5), (6, V6), (7, V7), (8, V8), (23, V23), (24, .int .i64 (m : Nat)), (25, .int .i64 (i : Nat))] A = some (.exit 2, σ1, A) ∧
      keepSl (some [2, 3, 5, 6, 7, 8, 15, 16, 17, 23, 24, 25]) σ1 = [(2, .bool false), (3, V3), (15, V15), (16, V16), (17, V17), (5, V5), (6, V6), (7, V7), (8, V8), (23, V23), (24, .int .i64 (m : Nat)), (25, .int .i64 (i : Nat))] := by
  have e1 : ¬ ((i : Nat) : Int) < ((m : Nat) : Int) := by omega
  refine ⟨?s, kexec_run ?run, ?kp⟩
  case run =>
    conv => lhs; whnf
    rw [kdecn e1]
  case kp => rfl

theorem takes_in_loop {call : CallT} {ts : List Tk} (hTl : ts.length ≤ 100000000) {o : OpA} {U : Nat} (V3 V15 V16 V17 : Value) (lf : Nat) {A : Hp} (hw : A.wf) {V6 : Value} {io6 : Option Nat} (c6 : CanAt 29 3 A V6 io6 (ts.map tkc).flatten ts.length) (hU : A.get U = some (.arr 39 o.cells .own)) (hlf : ts.length < lf) :
    ∃ A1 V7 io7 L, loopD (some [2, 3, 5, 6, 7, 8, 15, 16, 17, 23, 24, 25]) (exec Tryd.bk.E call Tryd.f4.ntmps (Tryd.bk.inf 4) lf (loopOf Tryd.f4 1)) lf [(2, .bool false), (3, V3), (15, V15), (16, V16), (17, V17), (5, ptr U), (6, V6), (7, .slice none 0 0), (8, .int .i64 ((0 : Nat) : Int)), (23, V6), (24, .int .i64 (ts.length : Nat)), (25, .int .i64 ((0 : Nat) : Int))] A =
      some (.exit 2, [(2, .bool false), (3, V3), (15, V15), (16, V16), (17, V17), (5, ptr U), (6, V6), (7, V7), (8, .int .i64 ((po o ts).2 : Nat)), (23, V6), (24, .int .i64 (ts.length : Nat)), (25, L)], A1) ∧ Kp A A1 ∧ CanAt 29 3 A1 V7 io7 ((po o ts).1.map tkc).flatten (po o ts).1.length ∧ ∀ j, io7 = some j → A.next ≤ j := by
  by_cases h0 : ts.length = 0
  · obtain rfl : ts = [] := List.length_eq_zero_iff.1 h0
    obtain ⟨σ1, r1, r2⟩ := takes_in_end (call := call) lf (A := A) V3 V15 V16 V17 (ptr U) V6 (.slice none 0 0) (.int .i64 ((0 : Nat) : Int)) V6 0 0 (by omega)
    have := loop_out' (ks := some [2, 3, 5, 6, 7, 8, 15, 16, 17, 23, 24, 25]) r1 (by simp) (n := lf) (by omega)
    rw [r2] at this
    exact ⟨A, _, none, _, this, Kp.refl hw, .nil, by simp⟩
  · obtain ⟨i6, rfl⟩ := can_some c6 h0
    obtain ⟨rfl, hg, _⟩ := c6.some_form
    have hgl := hw.lt hg
    have hUl := hw.lt hU
    have key := loop_rule (ks := some [2, 3, 5, 6, 7, 8, 15, 16, 17, 23, 24, 25]) (f := exec Tryd.bk.E call Tryd.f4.ntmps (Tryd.bk.inf 4) lf (loopOf Tryd.f4 1)) (S := TJ)
      (fun q => [(2, .bool false), (3, V3), (15, V15), (16, V16), (17, V17), (5, ptr U), (6, .slice (some ⟨i6, 0, some 3⟩) ts.length (2 * ts.length)), (7, q.v), (8, .int .i64 ((po o (ts.take q.j)).2 : Nat)), (23, .slice (some ⟨i6, 0, some 3⟩) ts.length (2 * ts.length)), (24, .int .i64 (ts.length : Nat)), (25, .int .i64 (q.j : Nat))])
      (fun q B => q.j ≤ ts.length ∧ Kp A B ∧ CanAt 29 3 B q.v q.io ((po o (ts.take q.j)).1.map tkc).flatten (po o (ts.take q.j)).1.length ∧ ∀ j, q.io = some j → A.next ≤ j) (fun q => ts.length - q.j)
      (fun e σ B => e = .exit 2 ∧ ∃ V7 io7 L, σ = [(2, .bool false), (3, V3), (15, V15), (16, V16), (17, V17), (5, ptr U), (6, .slice (some ⟨i6, 0, some 3⟩) ts.length (2 * ts.length)), (7, V7), (8, .int .i64 ((po o ts).2 : Nat)), (23, .slice (some ⟨i6, 0, some 3⟩) ts.length (2 * ts.length)), (24, .int .i64 (ts.length : Nat)), (25, L)] ∧ Kp A B ∧ CanAt 29 3 B V7 io7 ((po o ts).1.map tkc).flatten (po o ts).1.length ∧ ∀ j, io7 = some j → A.next ≤ j) (fun q B hs => ?_)
      lf ⟨0, .slice none 0 0, none⟩ A ⟨Nat.zero_le _, Kp.refl hw, .nil, by simp⟩ (by simp only; omega)
    · obtain ⟨e, σ1, A1, r1, rfl, V7, io7, L, rfl, r2⟩ := key
      exact ⟨A1, V7, io7, L, r1, r2⟩
    · obtain ⟨j, v, io⟩ := q
      obtain ⟨z1, z2, z3, z4⟩ := hs
      simp only at z1 z2 z3 z4 ⊢
      by_cases him : j < ts.length
      · obtain ⟨x, hx⟩ : ∃ x, ts[j]? = some x := ⟨_, List.getElem?_eq_getElem him⟩
        have hl := po_len o (ts.take j) ([], 0)
        rw [List.length_take] at hl
        have hl' : (po o (ts.take j)).1.length + (po o (ts.take j)).2 = 0 + 0 + min j ts.length := hl
        obtain ⟨σ1, A1, V7', io7', r1, r2, r3, r4, r5⟩ := takes_in (call := call) hTl V3 (.slice (some ⟨i6, 0, some 3⟩) ts.length (2 * ts.length)) V15 V16 V17 lf z2.wf (by rw [z2.old _ hgl]; exact hg) (by rw [z2.old _ hUl]; exact hU) (c := 2 * ts.length) z3 (cn := (po o (ts.take j)).2) (by omega) (by omega) hx
        have hs : poS o (po o (ts.take j)) x = (bif outB o (po o (ts.take j)).2 x then (po o (ts.take j)).1 else (po o (ts.take j)).1 ++ [x], bif outB o (po o (ts.take j)).2 x then (po o (ts.take j)).2 + 1 else (po o (ts.take j)).2) := by
          unfold poS
          cases outB o (po o (ts.take j)).2 x <;> rfl
        have hp : po o (ts.take (j + 1)) = (bif outB o (po o (ts.take j)).2 x then (po o (ts.take j)).1 else (po o (ts.take j)).1 ++ [x], bif outB o (po o (ts.take j)).2 x then (po o (ts.take j)).2 + 1 else (po o (ts.take j)).2) := by rw [take_succ hx, po_snoc, hs]
        refine ⟨.normal, σ1, A1, r1, .inl ⟨rfl, ⟨j + 1, V7', io7'⟩, by rw [hp]; exact r2, ⟨him, ⟨r3.wf, Nat.le_trans z2.nx r3.nx, fun k hk => ?_⟩, by rw [hp]; exact r4, fun k hk => ?_⟩, by simp only; omega⟩⟩
        · rw [r3.old k (by have := z2.nx; omega) (fun e => by have := z4 k e; omega), z2.old k hk]
        · rcases r5 with e | e
          · exact z4 k (by rw [← e]; exact hk)
          · have := e k hk; have := z2.nx; omega
      · obtain rfl : j = ts.length := by omega
        obtain ⟨σ1, r1, r2⟩ := takes_in_end (call := call) lf (A := B) V3 V15 V16 V17 (ptr U) (.slice (some ⟨i6, 0, some 3⟩) ts.length (2 * ts.length)) v (.int .i64 ((po o (ts.take ts.length)).2 : Nat)) (.slice (some ⟨i6, 0, some 3⟩) ts.length (2 * ts.length)) ts.length ts.length him
        rw [List.take_length] at r1 r2 z3
        rw [List.take_length]
        exact ⟨.exit 2, σ1, B, r1, .inr ⟨by simp, rfl, v, io, _, r2, z2, z3, z4⟩⟩
end Go.Dn.Ln
end
