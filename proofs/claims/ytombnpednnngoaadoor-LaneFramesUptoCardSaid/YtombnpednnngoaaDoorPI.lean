/-
  Part of the abstract machine for this program.
-/
import Derived.Test.YtombnpednnngoaaDoorPH
import Derived.Test.YtombnpednnngoaaDoorPF
import Derived.Test.YtombnpednnngoaaDoorPG

section
/-
  the document's lane (layer 11): Same of such lists, Count, Forget
-/
namespace Go.Dn.Ln
open Go.Proofs
set_option maxHeartbeats 4000000
set_option maxRecDepth 100000
attribute [local irreducible] Hp.get Hp.set Hp.push dappend dcopy dstore cellsAt callD loopD

theorem same_loop_ts {call : CallT} (lf : Nat) {A : Hp} {T1 T2 : List Tk} {V1 V2 : Value} {o1 o2 : Option Nat} (h1 : TsAt A V1 o1 T1) (h2 : TsAt A V2 o2 T2) (hl : T1.length = T2.length) (hm : T1.length ≤ 100000000) (hlf : T1.length < lf) :
    ∃ e L, loopD (some [0, 1, 4, 12, 13]) (exec Tryd.bk.E call Tryd.f21.ntmps (Tryd.bk.inf 21) lf (loopOf Tryd.f21 0)) lf [(0, V1), (1, V2), (4, .bool false), (12, .int .i64 (T1.length : Nat)), (13, .int .i64 ((0 : Nat) : Int))] A =
      some (e, [(0, V1), (1, V2), (4, .bool false), (12, .int .i64 (T1.length : Nat)), (13, L)], A) ∧ ((e = .exit 0 ∧ T1 = T2) ∨ (e = .ret ∧ T1 ≠ T2)) := by
  by_cases h0 : T1.length = 0
  · have hT : T1 = T2 := by rw [List.length_eq_zero_iff.1 h0, List.length_eq_zero_iff.1 (by omega : T2.length = 0)]
    obtain ⟨σ1, r1, r2⟩ := same_end (call := call) lf (A := A) V1 V2 T1.length 0 (by omega)
    obtain ⟨k, rfl⟩ : ∃ k, lf = k + 1 := ⟨lf - 1, by omega⟩
    have := loopD_end (ks := some [0, 1, 4, 12, 13]) (n := k) r1 (by simp)
    rw [r2] at this
    exact ⟨_, _, this, .inl ⟨rfl, hT⟩⟩
  · obtain ⟨a1, c1, rfl, f1⟩ := h1.form
    obtain ⟨a2, c2, rfl, f2⟩ := h2.form
    obtain ⟨i1, _, rfl, g1⟩ := f1 (fun e => h0 (by rw [e]; rfl))
    obtain ⟨i2, _, rfl, g2⟩ := f2 (fun e => h0 (by rw [hl, e]; rfl))
    have key := loop_rule (ks := some [0, 1, 4, 12, 13]) (f := exec Tryd.bk.E call Tryd.f21.ntmps (Tryd.bk.inf 21) lf (loopOf Tryd.f21 0)) (S := Nat)
      (fun i => [(0, .slice (some ⟨i1, 0, some 3⟩) T1.length c1), (1, .slice (some ⟨i2, 0, some 3⟩) T2.length c2), (4, .bool false), (12, .int .i64 (T1.length : Nat)), (13, .int .i64 (i : Nat))])
      (fun i B => i ≤ T1.length ∧ B = A ∧ T1.take i = T2.take i) (fun i => T1.length - i)
      (fun e σ B => B = A ∧ ∃ L, σ = [(0, .slice (some ⟨i1, 0, some 3⟩) T1.length c1), (1, .slice (some ⟨i2, 0, some 3⟩) T2.length c2), (4, .bool false), (12, .int .i64 (T1.length : Nat)), (13, L)] ∧ ((e = .exit 0 ∧ T1 = T2) ∨ (e = .ret ∧ T1 ≠ T2))) (fun i B hs => ?_)
      lf 0 A ⟨Nat.zero_le _, rfl, rfl⟩ (by omega)
    · obtain ⟨e, σ1, A1, r1, rfl, L, rfl, r2⟩ := key
      exact ⟨e, L, r1, r2⟩
    · obtain ⟨z1, rfl, z3⟩ := hs
      by_cases him : i < T1.length
      · obtain ⟨x, hx⟩ : ∃ x, T1[i]? = some x := ⟨_, List.getElem?_eq_getElem him⟩
        obtain ⟨y, hy⟩ : ∃ y, T2[i]? = some y := ⟨_, List.getElem?_eq_getElem (by omega)⟩
        obtain ⟨σ1, e, r1, r2⟩ := same_step (call := call) lf (c1 := c1) (c2 := c2) g1 g2 hl hx hy hm
        rcases r2 with ⟨rfl, rfl, r3⟩ | ⟨hne, rfl, r3⟩
        · exact ⟨.normal, σ1, B, r1, .inl ⟨rfl, i + 1, r3, ⟨him, rfl, by rw [take_succ hx, take_succ hy, z3]⟩, by omega⟩⟩
        · refine ⟨.ret, σ1, B, r1, .inr ⟨by simp, rfl, _, r3, .inr ⟨rfl, fun hT => hne ?_⟩⟩⟩
          rw [hT, hy] at hx
          exact (Option.some.inj hx).symm
      · obtain rfl : i = T1.length := by omega
        obtain ⟨σ1, r1, r2⟩ := same_end (call := call) lf (A := B) (.slice (some ⟨i1, 0, some 3⟩) T1.length c1) (.slice (some ⟨i2, 0, some 3⟩) T2.length c2) T1.length T1.length him
        rw [List.take_length, hl, List.take_length] at z3
        exact ⟨.exit 0, σ1, B, r1, .inr ⟨by simp, rfl, _, r2, .inl ⟨rfl, z3⟩⟩⟩

/-- Same, of such lists -/
theorem same_ts {call : CallT} (lf : Nat) {A : Hp} {T1 T2 : List Tk} {V1 V2 : Value} {o1 o2 : Option Nat} (h1 : TsAt A V1 o1 T1) (h2 : TsAt A V2 o2 T2) (hm : T1.length ≤ 100000000) (hlf : T1.length < lf) :
    kfn Tryd.bk.E call (Tryd.bk.inf 21) lf Tryd.f21 [V1, V2] A = some (.bool (decide (T1 = T2)), A) := by
  by_cases hl : T1.length = T2.length
  · obtain ⟨e, L, r1, r2⟩ := same_loop_ts (call := call) lf h1 h2 hl hm hlf
    have e1 : ((T1.length : Nat) : Int) = ((T2.length : Nat) : Int) := by omega
    obtain ⟨a1, c1, rfl⟩ := h1.sl.sl3
    obtain ⟨a2, c2, rfl⟩ := h2.sl.sl3
    rcases r2 with ⟨rfl, r2⟩ | ⟨rfl, r2⟩
    · rw [kdec r2]
      conv => lhs; whnf
      rw [show (((T1.length : Nat) : Int) != ((T2.length : Nat) : Int)) = false from bne_eq_false_iff_eq.2 e1]
      conv => lhs; whnf
      refine bind_of r1 ?_
      conv => lhs; whnf
      try rfl
    · rw [kdecn r2]
      conv => lhs; whnf
      rw [show (((T1.length : Nat) : Int) != ((T2.length : Nat) : Int)) = false from bne_eq_false_iff_eq.2 e1]
      conv => lhs; whnf
      refine bind_of r1 ?_
      conv => lhs; whnf
      try rfl
  · have e1 : ((T1.length : Nat) : Int) ≠ ((T2.length : Nat) : Int) := by omega
    obtain ⟨a1, c1, rfl⟩ := h1.sl.sl3
    obtain ⟨a2, c2, rfl⟩ := h2.sl.sl3
    rw [kdecn (show ¬ T1 = T2 from fun e => hl (by rw [e]))]
    conv => lhs; whnf
    rw [show (((T1.length : Nat) : Int) != ((T2.length : Nat) : Int)) = true from bne_iff_ne.2 e1]
    conv => lhs; whnf
    try rfl
def isK (k : Int) (t : Tk) : Bool := ((t.1 : Nat) : Int) == k

theorem rcount_end {call : CallT} (lf : Nat) {A : Hp} (a : Option Addr) (m c i : Nat) (V1 V5 : Value) (hi : ¬ i < m) :
    ∃ σ1, exec Tryd.bk.E call Tryd.f42.ntmps (Tryd.bk.inf 42) lf (loopOf Tryd.f42 0) [(0, .slice a m c), (1, V1), (4, .int .i64 0), (5, V5), (6, .int .i64 (i : Nat))] A = some (.exit 0, σ1, A) ∧
      keepSl (some [0, 1, 4, 5, 6]) σ1 = [(0, .slice a m c), (1, V1), (4, .int .i64 0), (5, V5), (6, .int .i64 (i : Nat))] := by
  have e1 : ¬ ((i : Nat) : Int) < ((m : Nat) : Int) := by omega
  refine ⟨?s, kexec_run ?run, ?kp⟩
  case run =>
    conv => lhs; whnf
    rw [kdecn e1]
  case kp => rfl

theorem rcount_step {call : CallT} (lf : Nat) {A : Hp} {ts : List Tk} {it c i n : Nat} (hg : A.get it = some (.arr 29 (ts.map tkc).flatten .own)) (k : Int) {x : Tk} (hx : ts[i]? = some x) (hm : ts.length ≤ 100000000) (hn : n ≤ i) :
    ∃ σ1, exec Tryd.bk.E call Tryd.f42.ntmps (Tryd.bk.inf 42) lf (loopOf Tryd.f42 0) [(0, .slice (some ⟨it, 0, some 3⟩) ts.length c), (1, .int .i64 k), (4, .int .i64 0), (5, .int .i64 (n : Nat)), (6, .int .i64 (i : Nat))] A = some (.normal, σ1, A) ∧
      keepSl (some [0, 1, 4, 5, 6]) σ1 = [(0, .slice (some ⟨it, 0, some 3⟩) ts.length c), (1, .int .i64 k), (4, .int .i64 0), (5, .int .i64 ((if isK k x then n + 1 else n : Nat) : Nat)), (6, .int .i64 (i + 1 : Nat))] := by
  have hi : i < ts.length := (List.getElem?_eq_some_iff.1 hx).1
  have e1 : ((i : Nat) : Int) < ((ts.length : Nat) : Int) := by omega
  have hw2 : IntKind.i64.wrap ((i : Int) + 1) = ((i + 1 : Nat) : Int) := by rw [w64 (by omega) (by omega)]; omega
  have hw3 : IntKind.i64.wrap ((n : Int) + 1) = ((n + 1 : Nat) : Int) := by rw [w64 (by omega) (by omega)]; omega
  obtain ⟨xk, xs, xv⟩ := x
  obtain ⟨r0, _, _⟩ := row_cells (show cellsIn (ts.map tkc).flatten (0 + i * 3) 3 = some [.int .i64 (xk : Nat), .int .u32 xs, .int .u32 xv] from tick_row hx)
  by_cases hk : ((xk : Nat) : Int) = k
  · have hh : isK k (xk, xs, xv) = true := by simp [isK, hk]
    rw [hh]
    simp only [if_true]
    refine ⟨?s1, kexec_run ?run1, ?kp1⟩
    case run1 =>
      conv => lhs; whnf
      rw [kdec e1]
      conv => lhs; whnf
      rw [kdec e1]
      conv => lhs; whnf
      refine bind_of ((cellsAt_of hg _ _).trans r0) ?_
      conv => lhs; whnf
      rw [show (((xk : Nat) : Int) == k) = true from beq_iff_eq.2 hk]
      conv => lhs; whnf
      try rfl
    case kp1 =>
      show [_, _, _, (5, Value.int .i64 (IntKind.i64.wrap ((n : Int) + 1))), (6, Value.int .i64 (IntKind.i64.wrap ((i : Int) + 1)))] = _
      rw [hw2, hw3]
  · have hh : isK k (xk, xs, xv) = false := by simp [isK, hk]
    rw [hh]
    simp only [Bool.false_eq_true, if_false]
    refine ⟨?s2, kexec_run ?run2, ?kp2⟩
    case run2 =>
      conv => lhs; whnf
      rw [kdec e1]
      conv => lhs; whnf
      rw [kdec e1]
      conv => lhs; whnf
      refine bind_of ((cellsAt_of hg _ _).trans r0) ?_
      conv => lhs; whnf
      rw [show (((xk : Nat) : Int) == k) = false from beq_eq_false_iff_ne.2 hk]
      conv => lhs; whnf
      try rfl
    case kp2 =>
      show [_, _, _, _, (6, Value.int .i64 (IntKind.i64.wrap ((i : Int) + 1)))] = _
      rw [hw2]

theorem rcount_walk {call : CallT} (lf : Nat) {A : Hp} {V : Value} {io : Option Nat} {ts : List Tk} (h : TsAt A V io ts) (k : Int) (hm : ts.length ≤ 100000000) (hlf : ts.length < lf) :
    kfn Tryd.bk.E call (Tryd.bk.inf 42) lf Tryd.f42 [V, .int .i64 k] A = some (.int .i64 (ts.countP (isK k) : Nat), A) := by
  obtain ⟨a, c, rfl, hf⟩ := h.form
  have key : ∃ L, loopD (some [0, 1, 4, 5, 6]) (exec Tryd.bk.E call Tryd.f42.ntmps (Tryd.bk.inf 42) lf (loopOf Tryd.f42 0)) lf [(0, .slice a ts.length c), (1, .int .i64 k), (4, .int .i64 0), (5, .int .i64 ((0 : Nat) : Int)), (6, .int .i64 ((0 : Nat) : Int))] A =
      some (.exit 0, [(0, .slice a ts.length c), (1, .int .i64 k), (4, .int .i64 0), (5, .int .i64 (ts.countP (isK k) : Nat)), (6, L)], A) := by
    by_cases h0 : ts = []
    · obtain ⟨σ1, r1, r2⟩ := rcount_end (call := call) lf (A := A) a ts.length c 0 (.int .i64 k) (.int .i64 ((0 : Nat) : Int)) (by rw [h0]; simp)
      have := loop_out' (ks := some [0, 1, 4, 5, 6]) r1 (by simp) (n := lf) (by omega)
      rw [r2] at this
      exact ⟨_, by rw [this, h0]; rfl⟩
    · obtain ⟨it, _, rfl, hg⟩ := hf h0
      have key := loop_rule (ks := some [0, 1, 4, 5, 6]) (f := exec Tryd.bk.E call Tryd.f42.ntmps (Tryd.bk.inf 42) lf (loopOf Tryd.f42 0)) (S := Nat)
        (fun i => [(0, .slice (some ⟨it, 0, some 3⟩) ts.length c), (1, .int .i64 k), (4, .int .i64 0), (5, .int .i64 ((ts.take i).countP (isK k) : Nat)), (6, .int .i64 (i : Nat))])
        (fun i B => i ≤ ts.length ∧ B = A) (fun i => ts.length - i)
        (fun e σ B => B = A ∧ e = .exit 0 ∧ ∃ L, σ = [(0, .slice (some ⟨it, 0, some 3⟩) ts.length c), (1, .int .i64 k), (4, .int .i64 0), (5, .int .i64 (ts.countP (isK k) : Nat)), (6, L)]) (fun i B hs => ?_)
        lf 0 A ⟨Nat.zero_le _, rfl⟩ (by omega)
      · obtain ⟨e, σ1, A1, r1, rfl, rfl, L, rfl⟩ := key
        exact ⟨L, r1⟩
      · obtain ⟨z1, rfl⟩ := hs
        by_cases him : i < ts.length
        · obtain ⟨x, hx⟩ : ∃ x, ts[i]? = some x := ⟨_, List.getElem?_eq_getElem him⟩
          have hc : (ts.take i).countP (isK k) ≤ i := Nat.le_trans List.countP_le_length (by rw [List.length_take]; omega)
          obtain ⟨σ1, r1, r2⟩ := rcount_step (call := call) lf (c := c) hg k hx hm hc
          have hst : (ts.take (i + 1)).countP (isK k) = if isK k x then (ts.take i).countP (isK k) + 1 else (ts.take i).countP (isK k) := by
            rw [take_succ hx, List.countP_append, List.countP_singleton]
            split <;> rfl
          exact ⟨.normal, σ1, B, r1, .inl ⟨rfl, i + 1, by rw [hst]; exact r2, ⟨him, rfl⟩, by omega⟩⟩
        · obtain rfl : i = ts.length := by omega
          obtain ⟨σ1, r1, r2⟩ := rcount_end (call := call) lf (A := B) (some ⟨it, 0, some 3⟩) ts.length c ts.length (.int .i64 k) (.int .i64 (ts.countP (isK k) : Nat)) him
          simp only [List.take_length]
          exact ⟨.exit 0, σ1, B, r1, .inr ⟨by simp, rfl, rfl, _, r2⟩⟩
  obtain ⟨L, r1⟩ := key
  conv => lhs; whnf
  refine bind_of r1 ?_
  conv => lhs; whnf
  try rfl

end Go.Dn.Ln
end

section
/-
  the document's lane (layer 11): Forget
-/
namespace Go.Dn.Ln
open Go.Proofs
set_option maxHeartbeats 4000000
set_option maxRecDepth 100000
attribute [local irreducible] Hp.get Hp.set Hp.push dappend dcopy dstore cellsAt callD loopD

def keepF (s : Int) (ts : List Tk) : List Tk := ts.filter (fun t => !isS s t)

/-- one ticket more -/
theorem app_one {A : Hp} (hw : A.wf) {V : Value} {io : Option Nat} {ts : List Tk} (h : TsAt A V io ts) (t : Tk) (hb : ts.length ≤ 100000000) :
    ∃ V' io' A', dappend Tryd.bk.E 22 22 (A.push (.arr 29 (tkc t) .own)) V (.slice (some ⟨A.next, 0, some 3⟩) 1 3) = some (V', A') ∧ TsAt A' V' io' (ts ++ [t]) ∧ A'.wf ∧ A.next ≤ A'.next ∧ (∀ j, io' = some j → A.next ≤ j ∨ io = some j) ∧ ∀ j, j < A.next → io ≠ some j → A'.get j = A.get j := by
  have hx : elemsOf (A.push (.arr 29 (tkc t) .own)) 3 (.slice (some ⟨A.next, 0, some 3⟩) 1 3) = some (([t] : List Tk).length, (([t] : List Tk).map tkc).flatten) :=
    (SlAt.at (e := 29) (sz := 3) A.next 0 1 3 (tkc t) _ (.inr rfl) (Hp.get_push_same _ _) (by simp [tkc]) (by simp [tkc])).elems
  obtain ⟨V', io', A', a1, a2, a3, a4, a5, a6⟩ := app_ts (hw.push _) (h.keep fun j hj => Hp.get_push_ne _ _ (by subst hj; have := h.lt hw; omega)) hx (by simp only [List.length_singleton]; omega)
  have n1 : (A.push (.arr 29 (tkc t) .own)).next = A.next + 1 := by simp
  refine ⟨V', io', A', a1, a2, a3, by omega, fun j hj => ?_, fun j hj hio => by rw [a6 j (by omega) hio]; exact Hp.get_push_ne _ _ (by omega)⟩
  rcases a5 with e | e
  · exact .inr (by rw [← e]; exact hj)
  · have := e j hj; exact .inl (by omega)

theorem rforget_end {call : CallT} (lf : Nat) {A : Hp} (a : Option Addr) (m c i : Nat) (V1 V6 : Value) (hi : ¬ i < m) :
    ∃ σ1, exec Tryd.bk.E call Tryd.f83.ntmps (Tryd.bk.inf 83) lf (loopOf Tryd.f83 0) [(0, .slice a m c), (1, V1), (4, .slice none 0 0), (5, .int .i64 0), (6, V6), (7, .int .i64 (i : Nat))] A = some (.exit 0, σ1, A) ∧
      keepSl (some [0, 1, 4, 5, 6, 7]) σ1 = [(0, .slice a m c), (1, V1), (4, .slice none 0 0), (5, .int .i64 0), (6, V6), (7, .int .i64 (i : Nat))] := by
  have e1 : ¬ ((i : Nat) : Int) < ((m : Nat) : Int) := by omega
  refine ⟨?s, kexec_run ?run, ?kp⟩
  case run =>
    conv => lhs; whnf
    rw [kdecn e1]
  case kp => rfl

structure RF where
  i : Nat
  v : Value
  io : Option Nat

theorem rforget_walk {call : CallT} (lf : Nat) {A : Hp} (hw : A.wf) {V : Value} {io : Option Nat} {ts : List Tk} (h : TsAt A V io ts) (s : Int) (hm : ts.length ≤ 100000000) (hlf : ts.length < lf) :
    ∃ V' io' A', kfn Tryd.bk.E call (Tryd.bk.inf 83) lf Tryd.f83 [V, .int .u32 s] A = some (.tuple #[V', .int .i64 (ts.countP (isS s) : Nat)], A') ∧ TsAt A' V' io' (keepF s ts) ∧ Kp A A' ∧ ∀ j, io' = some j → A.next ≤ j := by
  obtain ⟨a, c, rfl, hf⟩ := h.form
  let B : Hp := A.push (.arr 29 [] .own)
  have k1 : Kp A B := Kp.push hw _
  have n1 : B.next = A.next + 1 := by simp [B]
  have t0 : TsAt B (.slice (some ⟨A.next, 0, some 3⟩) 0 1) (some A.next) [] := emp_ts (Hp.get_push_same _ _)
  have key : ∃ V6 io6 L A', loopD (some [0, 1, 4, 5, 6, 7]) (exec Tryd.bk.E call Tryd.f83.ntmps (Tryd.bk.inf 83) lf (loopOf Tryd.f83 0)) lf [(0, .slice a ts.length c), (1, .int .u32 s), (4, .slice none 0 0), (5, .int .i64 0), (6, .slice (some ⟨A.next, 0, some 3⟩) 0 1), (7, .int .i64 ((0 : Nat) : Int))] B =
      some (.exit 0, [(0, .slice a ts.length c), (1, .int .u32 s), (4, .slice none 0 0), (5, .int .i64 0), (6, V6), (7, L)], A') ∧ TsAt A' V6 io6 (keepF s ts) ∧ Kp A A' ∧ ∀ j, io6 = some j → A.next ≤ j := by
    by_cases h0 : ts = []
    · obtain ⟨σ1, r1, r2⟩ := rforget_end (call := call) lf (A := B) a ts.length c 0 (.int .u32 s) (.slice (some ⟨A.next, 0, some 3⟩) 0 1) (by rw [h0]; simp)
      have := loop_out' (ks := some [0, 1, 4, 5, 6, 7]) r1 (by simp) (n := lf) (by omega)
      rw [r2] at this
      exact ⟨_, _, _, B, this, by rw [h0]; exact t0, k1, fun j hj => by cases hj; exact Nat.le_refl _⟩
    · obtain ⟨it, hio, rfl, hg⟩ := hf h0
      have hitl := hw.lt hg
      have key := loop_rule (ks := some [0, 1, 4, 5, 6, 7]) (f := exec Tryd.bk.E call Tryd.f83.ntmps (Tryd.bk.inf 83) lf (loopOf Tryd.f83 0)) (S := RF)
        (fun q => [(0, .slice (some ⟨it, 0, some 3⟩) ts.length c), (1, .int .u32 s), (4, .slice none 0 0), (5, .int .i64 0), (6, q.v), (7, .int .i64 (q.i : Nat))])
        (fun q D => q.i ≤ ts.length ∧ Kp A D ∧ TsAt D q.v q.io (keepF s (ts.take q.i)) ∧ ∀ j, q.io = some j → A.next ≤ j) (fun q => ts.length - q.i)
        (fun e σ D => e = .exit 0 ∧ ∃ V6 io6 L, σ = [(0, .slice (some ⟨it, 0, some 3⟩) ts.length c), (1, .int .u32 s), (4, .slice none 0 0), (5, .int .i64 0), (6, V6), (7, L)] ∧ TsAt D V6 io6 (keepF s ts) ∧ Kp A D ∧ ∀ j, io6 = some j → A.next ≤ j) (fun q D hs => ?_)
        lf ⟨0, _, _⟩ B ⟨Nat.zero_le _, k1, t0, fun j hj => by cases hj; exact Nat.le_refl _⟩ (by simp only; omega)
      · obtain ⟨e, σ1, A1, r1, rfl, V6, io6, L, rfl, r2⟩ := key
        exact ⟨V6, io6, L, A1, r1, r2⟩
      · obtain ⟨i, v, io6⟩ := q
        obtain ⟨z1, z2, z3, z4⟩ := hs
        simp only at z1 z2 z3 z4 ⊢
        by_cases him : i < ts.length
        · obtain ⟨x, hx⟩ : ∃ x, ts[i]? = some x := ⟨_, List.getElem?_eq_getElem him⟩
          have e1 : ((i : Nat) : Int) < ((ts.length : Nat) : Int) := by omega
          have hw2 : IntKind.i64.wrap ((i : Int) + 1) = ((i + 1 : Nat) : Int) := by rw [w64 (by omega) (by omega)]; omega
          have hgD : D.get it = some (.arr 29 (ts.map tkc).flatten .own) := by rw [z2.old it hitl]; exact hg
          have hkl : (keepF s (ts.take i)).length ≤ 100000000 := Nat.le_trans List.filter_sublist.length_le (by rw [List.length_take]; omega)
          obtain ⟨xk, xs, xv⟩ := x
          have hrow : cellsIn (ts.map tkc).flatten (0 + i * 3) 3 = some [.int .i64 (xk : Nat), .int .u32 xs, .int .u32 xv] := tick_row hx
          obtain ⟨_, r1, _⟩ := row_cells hrow
          by_cases hs : xs = s
          · have hst : keepF s (ts.take (i + 1)) = keepF s (ts.take i) := by
              unfold keepF
              rw [take_succ hx, List.filter_append]
              simp [isS, hs]
            refine ⟨.normal, ?s1, D, kexec_run ?run1, .inl ⟨rfl, ⟨i + 1, v, io6⟩, ?kp1, ⟨him, z2, by rw [hst]; exact z3, z4⟩, by simp only; omega⟩⟩
            case run1 =>
              conv => lhs; whnf
              rw [kdec e1]
              conv => lhs; whnf
              rw [kdec e1]
              conv => lhs; whnf
              refine bind_of ((cellsAt_of hgD _ _).trans r1) ?_
              conv => lhs; whnf
              rw [show (xs != s) = false from bne_eq_false_iff_eq.2 hs]
              conv => lhs; whnf
              try rfl
            case kp1 =>
              show [_, _, _, _, _, (7, Value.int .i64 (IntKind.i64.wrap ((i : Int) + 1)))] = _
              rw [hw2]
          · have hst : keepF s (ts.take (i + 1)) = keepF s (ts.take i) ++ [(xk, xs, xv)] := by
              unfold keepF
              rw [take_succ hx, List.filter_append]
              simp [isS, hs]
            obtain ⟨V', io', D', a1, a2, a3, a4, a5, a6⟩ := app_one z2.wf z3 (xk, xs, xv) hkl
            have hnx := z2.nx
            refine ⟨.normal, ?s2, D', kexec_run ?run2, .inl ⟨rfl, ⟨i + 1, V', io'⟩, ?kp2, ⟨him, ⟨a3, by omega, ?old2⟩, by rw [hst]; exact a2, ?new2⟩, by simp only; omega⟩⟩
            case old2 =>
              intro j hj
              rw [a6 j (by omega) (fun e => by have := z4 j e; omega), z2.old j hj]
            case new2 =>
              intro j hj
              rcases a5 j hj with e | e
              · omega
              · exact z4 j e
            case run2 =>
              conv => lhs; whnf
              rw [kdec e1]
              conv => lhs; whnf
              rw [kdec e1]
              conv => lhs; whnf
              refine bind_of ((cellsAt_of hgD _ _).trans r1) ?_
              conv => lhs; whnf
              rw [show (xs != s) = true from bne_iff_ne.2 hs]
              conv => lhs; whnf
              rw [kdec e1]
              conv => lhs; whnf
              refine bind_of ((cellsAt_of hgD _ _).trans hrow) ?_
              conv => lhs; whnf
              refine bind_of a1 ?_
              conv => lhs; whnf
              try rfl
            case kp2 =>
              show [_, _, _, _, _, (7, Value.int .i64 (IntKind.i64.wrap ((i : Int) + 1)))] = _
              rw [hw2]
        · obtain rfl : i = ts.length := by omega
          obtain ⟨σ1, r1, r2⟩ := rforget_end (call := call) lf (A := D) (some ⟨it, 0, some 3⟩) ts.length c ts.length (.int .u32 s) v him
          rw [List.take_length] at z3
          exact ⟨.exit 0, σ1, D, r1, .inr ⟨by simp, rfl, v, io6, _, r2, z3, z2, z4⟩⟩
  obtain ⟨V6, io6, L, A', r1, r2, r3, r4⟩ := key
  obtain ⟨a6, c6, rfl⟩ := r2.sl.sl3
  have hcn : IntKind.i64.wrap ((ts.length : Nat) - ((keepF s ts).length : Nat)) = ((ts.countP (isS s) : Nat) : Int) := by
    have h1 : (keepF s ts).length = ts.countP (fun t => !isS s t) := by unfold keepF; rw [List.countP_eq_length_filter]
    have h2 := List.length_eq_countP_add_countP (isS s) (l := ts)
    have h3 : ts.countP (fun t => !isS s t) = ts.countP (fun t => decide ¬isS s t = true) := by
      congr 1
      funext t
      cases isS s t <;> rfl
    rw [h3] at h1
    rw [w64 (by omega) (by omega)]
    omega
  refine ⟨_, io6, A', ?run, r2, r3, r4⟩
  case run =>
    conv => lhs; whnf
    refine bind_of r1 ?_
    conv => lhs; whnf
    rw [hcn]
    try rfl
end Go.Dn.Ln
end

section
/-
  the document's lane (layer 11): Put
-/
namespace Go.Dn.Ln
open Go.Proofs
set_option maxHeartbeats 4000000
set_option maxRecDepth 100000

theorem cellsPut_mid : ∀ (F1 : List Value) (a b : Value) (F2 : List Value), cellsPut (F1 ++ a :: F2) F1.length [b] = F1 ++ b :: F2 := by
  intro F1 a b F2
  unfold cellsPut
  simp

theorem store_mid (F1 : List Value) (a : Value) (F2 : List Value) (y : Int) : storeIn Tryd.bk.E 27 (F1 ++ a :: F2) F1.length (.int .u32 y) = some (F1 ++ .int .u32 y :: F2) := by
  have hb : Nat.ble (F1.length + 1) (F1 ++ a :: F2).length = true := by
    rw [Nat.ble_eq, List.length_append, List.length_cons]
    omega
  unfold storeIn
  refine bind_of (a := Go.Dn.Tryd.ti27) rfl ?_
  show (bif true && true && Nat.ble (F1.length + 1) (F1 ++ a :: F2).length then some (cellsPut (F1 ++ a :: F2) F1.length [Value.int .u32 y]) else none) = _
  rw [hb, cellsPut_mid]
  rfl

theorem store_val {ts : List Tk} {j : Nat} {x : Tk} (hx : ts[j]? = some x) (y : Int) :
    storeIn Tryd.bk.E 27 (ts.map tkc).flatten (0 + j * 3 + 2) (.int .u32 y) = some ((ts.set j (x.1, x.2.1, y)).map tkc).flatten := by
  obtain ⟨h1, h2⟩ := List.getElem?_eq_some_iff.1 hx
  have hsp : ts = ts.take j ++ x :: ts.drop (j + 1) := by rw [← h2, ← List.drop_eq_getElem_cons h1, List.take_append_drop]
  have hset : ts.set j (x.1, x.2.1, y) = ts.take j ++ (x.1, x.2.1, y) :: ts.drop (j + 1) := by rw [List.set_eq_take_append_cons_drop, if_pos h1]
  have hl : ((ts.take j).map tkc).flatten.length = j * 3 := by rw [flat_tkc, List.length_take]; congr 1; omega
  have e1 : (ts.map tkc).flatten = (((ts.take j).map tkc).flatten ++ [.int .i64 (x.1 : Nat), .int .u32 x.2.1]) ++ .int .u32 x.2.2 :: ((ts.drop (j + 1)).map tkc).flatten := by
    conv => lhs; rw [hsp]
    rw [List.map_append, List.flatten_append, List.map_cons, List.flatten_cons]
    simp [tkc]
  have e2 : ((ts.set j (x.1, x.2.1, y)).map tkc).flatten = (((ts.take j).map tkc).flatten ++ [.int .i64 (x.1 : Nat), .int .u32 x.2.1]) ++ .int .u32 y :: ((ts.drop (j + 1)).map tkc).flatten := by
    rw [hset, List.map_append, List.flatten_append, List.map_cons, List.flatten_cons]
    simp [tkc]
  have hl2 : (((ts.take j).map tkc).flatten ++ [Value.int .i64 (x.1 : Nat), .int .u32 x.2.1]).length = 0 + j * 3 + 2 := by rw [List.length_append, hl]; simp
  rw [e1, e2, ← hl2]
  exact store_mid _ _ _ _

def FindOK (call : CallT) (NN : Nat) : Prop := ∀ {A : Hp} {V : Value} {io : Option Nat} {ts : List Tk}, TsAt A V io ts → ∀ k s : Int, ts.length ≤ NN → call 82 [V, .int .i64 k, .int .u32 s] A = some (.int .i64 (findT ts k s), A)
def MayOK (call : CallT) : Prop := ∀ (A : Hp) (k s v : Int), call 93 [.agg #[.int .i64 k, .int .u32 s, .int .u32 v]] A = some (.int .i64 (mayC k s v), A.push (.arr 29 [.int .i64 k, .int .u32 s, .int .u32 v] .own))

/-- the document's Put: the code, and what waits then -/
def rputT (ts : List Tk) (k s v : Int) : Int × List Tk :=
  if mayC k s v ≠ 0 then (mayC k s v, ts)
  else if ts.any (wm k s) = false ∨ k = 5 ∨ k = 6 then (0, ts ++ [(k.toNat, s, v)])
  else if k ≠ 3 then (8, ts)
  else match ts[ts.findIdx (wm k s)]? with
    | some x => if x.2.2 + v > 4294967295 then (4, ts) else (0, ts.set (ts.findIdx (wm k s)) (x.1, x.2.1, x.2.2 + v))
    | none => (0, ts)

section
attribute [local irreducible] Hp.get Hp.set Hp.push dappend dcopy dstore cellsAt callD loopD

theorem TsAt.put {A : Hp} {V : Value} {i : Nat} {ts ts' : List Tk} (h : TsAt A V (some i) ts) (hne : ts ≠ []) (hl : ts'.length = ts.length) : TsAt (A.set i (some (.arr 29 (ts'.map tkc).flatten .own))) V (some i) ts' := by
  obtain ⟨a, c, rfl, f⟩ := h.form
  obtain ⟨i', e1, rfl, hg⟩ := f hne
  cases e1
  have hc := h.cap.1
  rw [← hl] at hc ⊢
  refine ⟨⟨_, _, rfl, fun _ => ⟨i, rfl, rfl, Hp.get_set_same _ _ _⟩⟩, ?_⟩
  exact .at i 0 ts'.length c (ts'.map tkc).flatten _ (by omega) (Hp.get_set_same _ _ _) (by rw [flat_tkc]; omega) (by rw [List.drop_zero, List.take_of_length_le (by rw [flat_tkc]; omega)])

/-- a fresh copy -/
theorem copy_ts {A : Hp} (hw : A.wf) {V : Value} {io : Option Nat} {ts : List Tk} (h : TsAt A V io ts) (hb : ts.length ≤ 100000000) :
    ∃ V' io' A', dappend Tryd.bk.E 22 22 (A.push (.arr 29 [] .own)) (.slice (some ⟨A.next, 0, some 3⟩) 0 1) V = some (V', A') ∧ TsAt A' V' io' ts ∧ Kp A A' ∧ ∀ j, io' = some j → A.next ≤ j := by
  let B : Hp := A.push (.arr 29 [] .own)
  have k1 : Kp A B := Kp.push hw _
  have n1 : B.next = A.next + 1 := by simp [B]
  have t0 : TsAt B (.slice (some ⟨A.next, 0, some 3⟩) 0 1) (some A.next) [] := emp_ts (Hp.get_push_same _ _)
  have hB : TsAt B V io ts := h.keep fun j hj => k1.old j (by subst hj; exact h.lt hw)
  obtain ⟨V', io', A', a1, a2, a3, a4, a5, a6⟩ := app_ts k1.wf t0 hB.sl.elems (by simp only [List.length_nil]; omega)
  refine ⟨V', io', A', a1, a2, ⟨a3, by omega, fun j hj => by rw [a6 j (by omega) (by simp; omega), k1.old j hj]⟩, fun j hj => ?_⟩
  rcases a5 with e | e
  · rw [e] at hj; cases hj; exact Nat.le_refl _
  · have := e j hj; omega

theorem rput_walk {call : CallT} {NN : Nat} (hmay : MayOK call) (hfind : FindOK call NN) (lf : Nat) {A : Hp} (hw : A.wf) {V : Value} {io : Option Nat} {ts : List Tk} (h : TsAt A V io ts) (k s v : Int) (hv : 0 ≤ v ∧ v ≤ 4294967295) (hts : ∀ t ∈ ts, 0 ≤ t.2.2 ∧ t.2.2 ≤ 4294967295) (hN : ts.length ≤ NN) (hm : ts.length ≤ 50000000) :
    ∃ V' io' A', kfn Tryd.bk.E call (Tryd.bk.inf 80) lf Tryd.f80 [V, .agg #[.int .i64 k, .int .u32 s, .int .u32 v]] A = some (.tuple #[V', .int .i64 (rputT ts k s v).1], A') ∧ TsAt A' V' io' (rputT ts k s v).2 ∧ Kp A A' ∧ ∀ j, io' = some j → A.next ≤ j ∨ io = some j := by
  let C : List Value := [.int .i64 k, .int .u32 s, .int .u32 v]
  let A1 : Hp := A.push (.arr 29 C .own)
  let A2 : Hp := A1.push (.arr 29 C .own)
  have k1 : Kp A A1 := Kp.push hw _
  have k2 : Kp A A2 := k1.trans (Kp.push k1.wf _)
  have n1 : A1.next = A.next + 1 := by simp [A1]
  have n2 : A2.next = A.next + 2 := by simp [A2, n1]
  have q1 : A1.get A.next = some (.arr 29 C .own) := Hp.get_push_same _ _
  have q2 : A2.get A.next = some (.arr 29 C .own) := by rw [show A2.get A.next = A1.get A.next from Hp.get_push_ne _ _ (by omega)]; exact q1
  have hm1 := hmay A1 k s v
  have h2 : TsAt A2 V io ts := h.keep fun j hj => k2.old j (by subst hj; exact h.lt hw)
  have hf2 := hfind h2 k s hN
  obtain ⟨a, c, rfl, hform⟩ := h2.form
  by_cases hmc : mayC k s v ≠ 0
  · have hr : rputT ts k s v = (mayC k s v, ts) := by unfold rputT; rw [if_pos hmc]
    rw [hr]
    refine ⟨_, io, A2, ?run1, h2, k2, fun j hj => .inr hj⟩
    case run1 =>
      conv => lhs; whnf
      refine bind_of (cellsAt_of q1 _ _) ?_
      conv => lhs; whnf
      refine bind_of hm1 ?_
      conv => lhs; whnf
      rw [show (mayC k s v != 0) = true from bne_iff_ne.2 hmc]
      conv => lhs; whnf
      try rfl
  · have hmc0 : mayC k s v = 0 := by simpa using hmc
    rw [hmc0] at hm1
    have hk17 : 1 ≤ k ∧ k ≤ 7 := by
      unfold mayC at hmc0
      split at hmc0
      · cases hmc0
      · omega
    obtain ⟨kn, rfl⟩ : ∃ kn : Nat, k = (kn : Nat) := ⟨k.toNat, by omega⟩
    obtain ⟨V3, io3, A3, c1, c2, c3, c4⟩ := copy_ts k2.wf h2 (by omega)
    have n3 := c3.nx
    have q3 : A3.get A.next = some (.arr 29 C .own) := by rw [c3.old _ (by omega)]; exact q2
    obtain ⟨V4, io4, A4, d1, d2, d3, d4, d5, d6⟩ := app_one c3.wf c2 (kn, s, v) (by omega)
    have kA4 : Kp A A4 := ⟨d3, by omega, fun j hj => by rw [d6 j (by omega) (fun e => by have := c4 j e; omega), c3.old j (by omega), k2.old j hj]⟩
    have hio4 : ∀ j, io4 = some j → A.next ≤ j := fun j hj => by
      rcases d5 j hj with e | e
      · omega
      · have := c4 j e; omega
    have happ : (ts.any (wm (kn : Nat) s) = false ∨ ((kn : Nat) : Int) = 5 ∨ ((kn : Nat) : Int) = 6) → rputT ts (kn : Nat) s v = (0, ts ++ [(kn, s, v)]) := fun hh => by
      unfold rputT
      rw [if_neg (by simp [hmc0]), if_pos hh, Int.toNat_natCast]
    cases hany : ts.any (wm (kn : Nat) s) with
    | false =>
      rw [happ (.inl hany)]
      have hfm : findT ts (kn : Nat) s = -1 := by unfold findT; rw [hany]; rfl
      rw [hfm] at hf2
      refine ⟨V4, io4, A4, ?run2, d2, kA4, fun j hj => .inl (hio4 j hj)⟩
      case run2 =>
        conv => lhs; whnf
        refine bind_of (cellsAt_of q1 _ _) ?_
        conv => lhs; whnf
        refine bind_of hm1 ?_
        conv => lhs; whnf
        refine bind_of (cellsAt_of q2 _ _) ?_
        conv => lhs; whnf
        refine bind_of (cellsAt_of q2 _ _) ?_
        conv => lhs; whnf
        refine bind_of hf2 ?_
        conv => lhs; whnf
        refine bind_of c1 ?_
        conv => lhs; whnf
        refine bind_of (cellsAt_of q3 _ _) ?_
        conv => lhs; whnf
        refine bind_of d1 ?_
        conv => lhs; whnf
        try rfl
    | true =>
      have hfm : findT ts (kn : Nat) s = (ts.findIdx (wm (kn : Nat) s) : Nat) := by unfold findT; rw [hany]; rfl
      rw [hfm] at hf2
      obtain ⟨x0, hx0, hx1⟩ := List.any_eq_true.1 hany
      have hil : ts.findIdx (wm (kn : Nat) s) < ts.length := List.findIdx_lt_length_of_exists ⟨x0, hx0, hx1⟩
      have hne : ts ≠ [] := fun e => by rw [e] at hx0; cases hx0
      obtain ⟨x, hx⟩ : ∃ x, ts[ts.findIdx (wm (kn : Nat) s)]? = some x := ⟨_, List.getElem?_eq_getElem hil⟩
      have hcases : ¬ ((kn : Nat) : Int) = 5 → ¬ ((kn : Nat) : Int) = 6 → rputT ts (kn : Nat) s v = if ((kn : Nat) : Int) ≠ 3 then (8, ts) else if x.2.2 + v > 4294967295 then (4, ts) else (0, ts.set (ts.findIdx (wm (kn : Nat) s)) (x.1, x.2.1, x.2.2 + v)) := fun h5 h6 => by
        unfold rputT
        rw [if_neg (by simp [hmc0]), if_neg (by simp [hany]; omega), hx]
      generalize ts.findIdx (wm (kn : Nat) s) = fi at hf2 hil hx hcases
      have eF : ¬ ((fi : Nat) : Int) < 0 := by omega
      by_cases h5 : ((kn : Nat) : Int) = 5
      · rw [happ (.inr (.inl h5))]
        refine ⟨V4, io4, A4, ?run3, d2, kA4, fun j hj => .inl (hio4 j hj)⟩
        case run3 =>
          conv => lhs; whnf
          refine bind_of (cellsAt_of q1 _ _) ?_
          conv => lhs; whnf
          refine bind_of hm1 ?_
          conv => lhs; whnf
          refine bind_of (cellsAt_of q2 _ _) ?_
          conv => lhs; whnf
          refine bind_of (cellsAt_of q2 _ _) ?_
          conv => lhs; whnf
          refine bind_of hf2 ?_
          conv => lhs; whnf
          rw [kdecn eF]
          conv => lhs; whnf
          rw [show (((kn : Nat) : Int) == 5) = true from beq_iff_eq.2 h5]
          conv => lhs; whnf
          refine bind_of c1 ?_
          conv => lhs; whnf
          refine bind_of (cellsAt_of q3 _ _) ?_
          conv => lhs; whnf
          refine bind_of d1 ?_
          conv => lhs; whnf
          try rfl
      · by_cases h6 : ((kn : Nat) : Int) = 6
        · rw [happ (.inr (.inr h6))]
          refine ⟨V4, io4, A4, ?run4, d2, kA4, fun j hj => .inl (hio4 j hj)⟩
          case run4 =>
            conv => lhs; whnf
            refine bind_of (cellsAt_of q1 _ _) ?_
            conv => lhs; whnf
            refine bind_of hm1 ?_
            conv => lhs; whnf
            refine bind_of (cellsAt_of q2 _ _) ?_
            conv => lhs; whnf
            refine bind_of (cellsAt_of q2 _ _) ?_
            conv => lhs; whnf
            refine bind_of hf2 ?_
            conv => lhs; whnf
            rw [kdecn eF]
            conv => lhs; whnf
            rw [show (((kn : Nat) : Int) == 5) = false from beq_eq_false_iff_ne.2 h5]
            conv => lhs; whnf
            rw [show (((kn : Nat) : Int) == 6) = true from beq_iff_eq.2 h6]
            conv => lhs; whnf
            refine bind_of c1 ?_
            conv => lhs; whnf
            refine bind_of (cellsAt_of q3 _ _) ?_
            conv => lhs; whnf
            refine bind_of d1 ?_
            conv => lhs; whnf
            try rfl
        · rw [hcases h5 h6]
          by_cases h3 : ((kn : Nat) : Int) = 3
          · rw [if_neg (by simp [h3])]
            have hxo := hts x (List.mem_of_getElem? hx)
            obtain ⟨it, hit, rfl, hgt⟩ := hform hne
            have e1 : ((fi : Nat) : Int) < ((ts.length : Nat) : Int) := by omega
            obtain ⟨xk, xs, xv⟩ := x
            simp only at hxo
            obtain ⟨_, _, r2⟩ := row_cells (show cellsIn (ts.map tkc).flatten (0 + fi * 3) 3 = some [.int .i64 (xk : Nat), .int .u32 xs, .int .u32 xv] from tick_row hx)
            have w1 : IntKind.i64.wrap xv = xv := w64 (by omega) (by omega)
            have w2 : IntKind.i64.wrap v = v := w64 (by omega) (by omega)
            have w3 : IntKind.i64.wrap (xv + v) = xv + v := w64 (by omega) (by omega)
            simp only
            by_cases hov : xv + v > 4294967295
            · rw [if_pos hov]
              refine ⟨_, io, A2, ?run5, h2, k2, fun j hj => .inr hj⟩
              case run5 =>
                conv => lhs; whnf
                refine bind_of (cellsAt_of q1 _ _) ?_
                conv => lhs; whnf
                refine bind_of hm1 ?_
                conv => lhs; whnf
                refine bind_of (cellsAt_of q2 _ _) ?_
                conv => lhs; whnf
                refine bind_of (cellsAt_of q2 _ _) ?_
                conv => lhs; whnf
                refine bind_of hf2 ?_
                conv => lhs; whnf
                rw [kdecn eF]
                conv => lhs; whnf
                rw [show (((kn : Nat) : Int) == 5) = false from beq_eq_false_iff_ne.2 h5]
                conv => lhs; whnf
                rw [show (((kn : Nat) : Int) == 6) = false from beq_eq_false_iff_ne.2 h6]
                conv => lhs; whnf
                rw [show (((kn : Nat) : Int) != 3) = false from bne_eq_false_iff_eq.2 h3]
                conv => lhs; whnf
                rw [kdec e1]
                conv => lhs; whnf
                refine bind_of ((cellsAt_of hgt _ _).trans r2) ?_
                conv => lhs; whnf
                refine bind_of (cellsAt_of q2 _ _) ?_
                conv => lhs; whnf
                rw [w1, w2, w3, kdec hov]
                conv => lhs; whnf
                try rfl
            · rw [if_neg hov]
              obtain ⟨a3, cc3, rfl, f3⟩ := c2.form
              obtain ⟨it3, rfl, rfl, g3⟩ := f3 hne
              have hst := store_val hx (xv + v)
              have w4 : IntKind.u32.wrap (xv + v) = xv + v := w32 (by omega) (by omega)
              have hi3 := c4 it3 rfl
              refine ⟨_, some it3, A3.set it3 (some (.arr 29 ((ts.set fi (xk, xs, xv + v)).map tkc).flatten .own)), ?run6, c2.put hne (by rw [List.length_set]), ⟨c3.wf.put g3 _, by rw [Hp.next_set]; omega, ?old6⟩, fun j hj => .inl (by cases hj; omega)⟩
              case old6 =>
                intro j hj
                rw [Hp.get_set_ne _ _ (by omega), c3.old j (by omega), k2.old j hj]
              case run6 =>
                conv => lhs; whnf
                refine bind_of (cellsAt_of q1 _ _) ?_
                conv => lhs; whnf
                refine bind_of hm1 ?_
                conv => lhs; whnf
                refine bind_of (cellsAt_of q2 _ _) ?_
                conv => lhs; whnf
                refine bind_of (cellsAt_of q2 _ _) ?_
                conv => lhs; whnf
                refine bind_of hf2 ?_
                conv => lhs; whnf
                rw [kdecn eF]
                conv => lhs; whnf
                rw [show (((kn : Nat) : Int) == 5) = false from beq_eq_false_iff_ne.2 h5]
                conv => lhs; whnf
                rw [show (((kn : Nat) : Int) == 6) = false from beq_eq_false_iff_ne.2 h6]
                conv => lhs; whnf
                rw [show (((kn : Nat) : Int) != 3) = false from bne_eq_false_iff_eq.2 h3]
                conv => lhs; whnf
                rw [kdec e1]
                conv => lhs; whnf
                refine bind_of ((cellsAt_of hgt _ _).trans r2) ?_
                conv => lhs; whnf
                refine bind_of (cellsAt_of q2 _ _) ?_
                conv => lhs; whnf
                rw [w1, w2, w3, kdecn hov]
                conv => lhs; whnf
                refine bind_of c1 ?_
                conv => lhs; whnf
                rw [kdec e1]
                conv => lhs; whnf
                rw [w4]
                conv => lhs; whnf
                refine bind_of (dstore_of g3 (t := 27) hst) ?_
                conv => lhs; whnf
                try rfl
          · rw [if_pos h3]
            refine ⟨_, io, A2, ?run7, h2, k2, fun j hj => .inr hj⟩
            case run7 =>
              conv => lhs; whnf
              refine bind_of (cellsAt_of q1 _ _) ?_
              conv => lhs; whnf
              refine bind_of hm1 ?_
              conv => lhs; whnf
              refine bind_of (cellsAt_of q2 _ _) ?_
              conv => lhs; whnf
              refine bind_of (cellsAt_of q2 _ _) ?_
              conv => lhs; whnf
              refine bind_of hf2 ?_
              conv => lhs; whnf
              rw [kdecn eF]
              conv => lhs; whnf
              rw [show (((kn : Nat) : Int) == 5) = false from beq_eq_false_iff_ne.2 h5]
              conv => lhs; whnf
              rw [show (((kn : Nat) : Int) == 6) = false from beq_eq_false_iff_ne.2 h6]
              conv => lhs; whnf
              rw [show (((kn : Nat) : Int) != 3) = true from bne_iff_ne.2 h3]
              conv => lhs; whnf
              try rfl
end
end Go.Dn.Ln
end

section
/-
  'LaneTakes', run: what should come out, what should stay
-/
namespace Go.Dn.Ln
open Go.Proofs
set_option maxHeartbeats 4000000
set_option maxRecDepth 100000
attribute [local irreducible] Hp.get Hp.set Hp.push dappend dcopy dstore cellsAt callD loopD

/-- an op of the argument: its kind, and a ticket -/
structure OpA where
  k : Int
  tk : Int
  ts : Int
  tv : Int
def OpA.cells (o : OpA) : List Value := [.int .i64 o.k, .int .i64 o.tk, .int .u32 o.ts, .int .u32 o.tv]

def outB (o : OpA) (c : Nat) (t : Tk) : Bool := o.k == 4 || (o.k == 3 && t.2.1 == o.ts) || (o.k == 2 && c == 0 && ((t.1 : Nat) : Int) == o.tk && t.2.1 == o.ts)
def poS (o : OpA) (a : List Tk × Nat) (t : Tk) : List Tk × Nat := if outB o a.2 t then (a.1, a.2 + 1) else (a.1 ++ [t], a.2)
def po (o : OpA) (ts : List Tk) : List Tk × Nat := ts.foldl (poS o) ([], 0)
theorem po_snoc (o : OpA) (ts : List Tk) (t : Tk) : po o (ts ++ [t]) = poS o (po o ts) t := by unfold po; rw [List.foldl_append]; rfl
theorem po_len (o : OpA) : ∀ (r : List Tk) (a : List Tk × Nat), (r.foldl (poS o) a).1.length + (r.foldl (poS o) a).2 = a.1.length + a.2 + r.length
  | [], a => rfl
  | t :: r, a => by
    rw [List.foldl_cons, po_len o r]
    unfold poS
    split <;> simp <;> omega

structure KPx (io : Option Nat) (A A' : Hp) : Prop where
  wf : A'.wf
  nx : A.next ≤ A'.next
  old : ∀ j, j < A.next → io ≠ some j → A'.get j = A.get j
theorem Kp.x {A A' : Hp} (h : Kp A A') (io : Option Nat) : KPx io A A' := ⟨h.wf, h.nx, fun j hj _ => h.old j hj⟩

section
variable {call : CallT} {ts : List Tk} (hTl : ts.length ≤ 100000000) {o : OpA} {U i6 : Nat} (V3 V6 V15 V16 V17 : Value)
include hTl

theorem takes_in (lf : Nat) {A : Hp} (hw : A.wf) (hgA : A.get i6 = some (.arr 29 (ts.map tkc).flatten .own)) (hU : A.get U = some (.arr 39 o.cells .own)) {c j cn : Nat} {R : List Tk} {V7 : Value} {io7 : Option Nat} (c7 : CanAt 29 3 A V7 io7 (R.map tkc).flatten R.length) (hR : R.length ≤ 100000000) (hcn : cn ≤ 100000000) {x : Tk} (hx : ts[j]? = some x) :
    ∃ σ1 A1 V7' io7', exec Tryd.bk.E call Tryd.f4.ntmps (Tryd.bk.inf 4) lf (loopOf Tryd.f4 1) [(2, .bool false), (3, V3), (15, V15), (16, V16), (17, V17), (5, ptr U), (6, V6), (7, V7), (8, .int .i64 (cn : Nat)), (23, .slice (some ⟨i6, 0, some 3⟩) ts.length c), (24, .int .i64 (ts.length : Nat)), (25, .int .i64 (j : Nat))] A = some (.normal, σ1, A1) ∧
      keepSl (some [2, 3, 5, 6, 7, 8, 15, 16, 17, 23, 24, 25]) σ1 = [(2, .bool false), (3, V3), (15, V15), (16, V16), (17, V17), (5, ptr U), (6, V6), (7, V7'), (8, .int .i64 ((bif outB o cn x then cn + 1 else cn : Nat) : Nat)), (23, .slice (some ⟨i6, 0, some 3⟩) ts.length c), (24, .int .i64 (ts.length : Nat)), (25, .int .i64 (j + 1 : Nat))] ∧
      KPx io7 A A1 ∧ CanAt 29 3 A1 V7' io7' ((bif outB o cn x then R else R ++ [x]).map tkc).flatten (bif outB o cn x then R else R ++ [x]).length ∧ (io7' = io7 ∨ ∀ j, io7' = some j → A.next ≤ j) := by
  have hj : j < ts.length := (List.getElem?_eq_some_iff.1 hx).1
  have hcell := tick_row hx
  obtain ⟨xk, xs, xv⟩ := x
  obtain ⟨ok, otk, ots, otv⟩ := o
  have e1 : ((j : Nat) : Int) < ((ts.length : Nat) : Int) := by omega
  have hw2 : IntKind.i64.wrap ((j : Int) + 1) = ((j + 1 : Nat) : Int) := by rw [w64 (by omega) (by omega)]; omega
  have hw3 : IntKind.i64.wrap ((cn : Nat) + 1) = ((cn + 1 : Nat) : Int) := by rw [w64 (by omega) (by omega)]; omega
  let Z : List Value := [.int .i64 0, .int .u32 0, .int .u32 0]
  let C : List Value := [.int .i64 (xk : Nat), .int .u32 xs, .int .u32 xv]
  have hcell2 : cellsIn (ts.map tkc).flatten (0 + j * 3) 3 = some C := hcell
  let A1 : Hp := (A.push (.arr 29 Z .own)).set A.next (some (.arr 29 C .own))
  have kp1 : Kp A A1 := (Kp.push hw (.arr 29 Z .own)).set (Hp.get_push_same _ _) (Nat.le_refl _) _
  have k1 : KPx io7 A A1 := kp1.x io7
  have n1 : A1.next = A.next + 1 := by simp [A1]
  have q1 : A1.get A.next = some (.arr 29 C .own) := Hp.get_set_same _ _ _
  have hU1 : A1.get U = some (.arr 39 [.int .i64 ok, .int .i64 otk, .int .u32 ots, .int .u32 otv] .own) := by rw [kp1.old _ (hw.lt hU)]; exact hU
  obtain ⟨V7', A2, io', a1, a2, a3, a4, a5, a6⟩ := app_tick kp1.wf (c7.keep (A' := A1) (fun j hj => kp1.old j (by subst hj; exact c7.lt hw))) (xk, xs, xv) hR
  have kA : KPx io7 A A2 := ⟨a4, by omega, fun j hj hio => by rw [a6 j (by omega) hio, kp1.old j hj]⟩
  by_cases k4 : ok = 4
  · have hh : outB ⟨ok, otk, ots, otv⟩ cn (xk, xs, xv) = true := by simp [outB, k4]
    rw [hh]
    refine ⟨?sa, A1, V7, io7, kexec_run ?ra, ?ka, k1, c7.keep (fun j hj => kp1.old j (by subst hj; exact c7.lt hw)), .inl rfl⟩
    case ra =>
      conv => lhs; whnf
      rw [kdec e1]
      conv => lhs; whnf
      rw [kdec e1]
      conv => lhs; whnf
      refine bind_of ((cellsAt_of hgA _ _).trans hcell2) ?_
      conv => lhs; whnf
      refine bind_of (dstore_of (Hp.get_push_same _ _) (t := 29) (o := 0) (cs' := C) rfl) ?_
      conv => lhs; whnf
      refine bind_of (cellsAt_of hU1 _ _) ?_
      conv => lhs; whnf
      rw [show (ok == 4) = true from beq_iff_eq.2 k4]
      conv => lhs; whnf
      try rfl
    case ka =>
      show [_, _, _, _, _, _, _, _, (8, Value.int .i64 (IntKind.i64.wrap ((cn : Nat) + 1))), _, _, (25, Value.int .i64 (IntKind.i64.wrap ((j : Int) + 1)))] = _
      rw [hw2, hw3]
      rfl
  · by_cases k3 : ok = 3
    · by_cases h5 : xs = ots
      · have hh : outB ⟨ok, otk, ots, otv⟩ cn (xk, xs, xv) = true := by simp [outB, k3, h5]
        rw [hh]
        refine ⟨?sb, A1, V7, io7, kexec_run ?rb, ?kb, k1, c7.keep (fun j hj => kp1.old j (by subst hj; exact c7.lt hw)), .inl rfl⟩
        case rb =>
          conv => lhs; whnf
          rw [kdec e1]
          conv => lhs; whnf
          rw [kdec e1]
          conv => lhs; whnf
          refine bind_of ((cellsAt_of hgA _ _).trans hcell2) ?_
          conv => lhs; whnf
          refine bind_of (dstore_of (Hp.get_push_same _ _) (t := 29) (o := 0) (cs' := C) rfl) ?_
          conv => lhs; whnf
          refine bind_of (cellsAt_of hU1 _ _) ?_
          conv => lhs; whnf
          rw [show (ok == 4) = false from beq_eq_false_iff_ne.2 k4]
          conv => lhs; whnf
          refine bind_of (cellsAt_of hU1 _ _) ?_
          conv => lhs; whnf
          rw [show (ok == 3) = true from beq_iff_eq.2 k3]
          conv => lhs; whnf
          refine bind_of (cellsAt_of q1 _ _) ?_
          conv => lhs; whnf
          refine bind_of (cellsAt_of hU1 _ _) ?_
          conv => lhs; whnf
          rw [show (xs == ots) = true from beq_iff_eq.2 h5]
          conv => lhs; whnf
          try rfl
        case kb =>
          show [_, _, _, _, _, _, _, _, (8, Value.int .i64 (IntKind.i64.wrap ((cn : Nat) + 1))), _, _, (25, Value.int .i64 (IntKind.i64.wrap ((j : Int) + 1)))] = _
          rw [hw2, hw3]
          rfl
      · have k2 : ¬ ok = 2 := by omega
        have hh : outB ⟨ok, otk, ots, otv⟩ cn (xk, xs, xv) = false := by simp [outB, k3, h5]
        rw [hh]
        refine ⟨?sc, A2, V7', some io', kexec_run ?rc, ?kc, kA, a2, .inr (fun j hj => by cases hj; omega)⟩
        case rc =>
          conv => lhs; whnf
          rw [kdec e1]
          conv => lhs; whnf
          rw [kdec e1]
          conv => lhs; whnf
          refine bind_of ((cellsAt_of hgA _ _).trans hcell2) ?_
          conv => lhs; whnf
          refine bind_of (dstore_of (Hp.get_push_same _ _) (t := 29) (o := 0) (cs' := C) rfl) ?_
          conv => lhs; whnf
          refine bind_of (cellsAt_of hU1 _ _) ?_
          conv => lhs; whnf
          rw [show (ok == 4) = false from beq_eq_false_iff_ne.2 k4]
          conv => lhs; whnf
          refine bind_of (cellsAt_of hU1 _ _) ?_
          conv => lhs; whnf
          rw [show (ok == 3) = true from beq_iff_eq.2 k3]
          conv => lhs; whnf
          refine bind_of (cellsAt_of q1 _ _) ?_
          conv => lhs; whnf
          refine bind_of (cellsAt_of hU1 _ _) ?_
          conv => lhs; whnf
          rw [show (xs == ots) = false from beq_eq_false_iff_ne.2 h5]
          conv => lhs; whnf
          refine bind_of (cellsAt_of hU1 _ _) ?_
          conv => lhs; whnf
          rw [show (ok == 2) = false from beq_eq_false_iff_ne.2 k2]
          conv => lhs; whnf
          refine bind_of (cellsAt_of q1 _ _) ?_
          conv => lhs; whnf
          refine bind_of a1 ?_
          conv => lhs; whnf
          try rfl
        case kc =>
          show [_, _, _, _, _, _, _, _, _, _, _, (25, Value.int .i64 (IntKind.i64.wrap ((j : Int) + 1)))] = _
          rw [hw2]
          rfl
    · by_cases k2 : ok = 2
      · by_cases hc : cn = 0
        · have hc0 : ((cn : Nat) : Int) = 0 := by omega
          by_cases hk : ((xk : Nat) : Int) = otk
          · by_cases h5 : xs = ots
            · have hh : outB ⟨ok, otk, ots, otv⟩ cn (xk, xs, xv) = true := by simp [outB, k2, hc, hk, h5]
              rw [hh]
              refine ⟨?sd, A1, V7, io7, kexec_run ?rd, ?kd, k1, c7.keep (fun j hj => kp1.old j (by subst hj; exact c7.lt hw)), .inl rfl⟩
              case rd =>
                conv => lhs; whnf
                rw [kdec e1]
                conv => lhs; whnf
                rw [kdec e1]
                conv => lhs; whnf
                refine bind_of ((cellsAt_of hgA _ _).trans hcell2) ?_
                conv => lhs; whnf
                refine bind_of (dstore_of (Hp.get_push_same _ _) (t := 29) (o := 0) (cs' := C) rfl) ?_
                conv => lhs; whnf
                refine bind_of (cellsAt_of hU1 _ _) ?_
                conv => lhs; whnf
                rw [show (ok == 4) = false from beq_eq_false_iff_ne.2 k4]
                conv => lhs; whnf
                refine bind_of (cellsAt_of hU1 _ _) ?_
                conv => lhs; whnf
                rw [show (ok == 3) = false from beq_eq_false_iff_ne.2 k3]
                conv => lhs; whnf
                refine bind_of (cellsAt_of hU1 _ _) ?_
                conv => lhs; whnf
                rw [show (ok == 2) = true from beq_iff_eq.2 k2]
                conv => lhs; whnf
                rw [show (((cn : Nat) : Int) == 0) = true from beq_iff_eq.2 hc0]
                conv => lhs; whnf
                refine bind_of (cellsAt_of q1 _ _) ?_
                conv => lhs; whnf
                refine bind_of (cellsAt_of hU1 _ _) ?_
                conv => lhs; whnf
                rw [show (((xk : Nat) : Int) == otk) = true from beq_iff_eq.2 hk]
                conv => lhs; whnf
                refine bind_of (cellsAt_of q1 _ _) ?_
                conv => lhs; whnf
                refine bind_of (cellsAt_of hU1 _ _) ?_
                conv => lhs; whnf
                rw [show (xs == ots) = true from beq_iff_eq.2 h5]
                conv => lhs; whnf
                try rfl
              case kd =>
                show [_, _, _, _, _, _, _, _, (8, Value.int .i64 (IntKind.i64.wrap ((cn : Nat) + 1))), _, _, (25, Value.int .i64 (IntKind.i64.wrap ((j : Int) + 1)))] = _
                rw [hw2, hw3]
                rfl
            · have hh : outB ⟨ok, otk, ots, otv⟩ cn (xk, xs, xv) = false := by simp [outB, k2, h5]
              rw [hh]
              refine ⟨?se, A2, V7', some io', kexec_run ?re, ?ke, kA, a2, .inr (fun j hj => by cases hj; omega)⟩
              case re =>
                conv => lhs; whnf
                rw [kdec e1]
                conv => lhs; whnf
                rw [kdec e1]
                conv => lhs; whnf
                refine bind_of ((cellsAt_of hgA _ _).trans hcell2) ?_
                conv => lhs; whnf
                refine bind_of (dstore_of (Hp.get_push_same _ _) (t := 29) (o := 0) (cs' := C) rfl) ?_
                conv => lhs; whnf
                refine bind_of (cellsAt_of hU1 _ _) ?_
                conv => lhs; whnf
                rw [show (ok == 4) = false from beq_eq_false_iff_ne.2 k4]
                conv => lhs; whnf
                refine bind_of (cellsAt_of hU1 _ _) ?_
                conv => lhs; whnf
                rw [show (ok == 3) = false from beq_eq_false_iff_ne.2 k3]
                conv => lhs; whnf
                refine bind_of (cellsAt_of hU1 _ _) ?_
                conv => lhs; whnf
                rw [show (ok == 2) = true from beq_iff_eq.2 k2]
                conv => lhs; whnf
                rw [show (((cn : Nat) : Int) == 0) = true from beq_iff_eq.2 hc0]
                conv => lhs; whnf
                refine bind_of (cellsAt_of q1 _ _) ?_
                conv => lhs; whnf
                refine bind_of (cellsAt_of hU1 _ _) ?_
                conv => lhs; whnf
                rw [show (((xk : Nat) : Int) == otk) = true from beq_iff_eq.2 hk]
                conv => lhs; whnf
                refine bind_of (cellsAt_of q1 _ _) ?_
                conv => lhs; whnf
                refine bind_of (cellsAt_of hU1 _ _) ?_
                conv => lhs; whnf
                rw [show (xs == ots) = false from beq_eq_false_iff_ne.2 h5]
                conv => lhs; whnf
                refine bind_of (cellsAt_of q1 _ _) ?_
                conv => lhs; whnf
                refine bind_of a1 ?_
                conv => lhs; whnf
                try rfl
              case ke =>
                show [_, _, _, _, _, _, _, _, _, _, _, (25, Value.int .i64 (IntKind.i64.wrap ((j : Int) + 1)))] = _
                rw [hw2]
                rfl
          · have hh : outB ⟨ok, otk, ots, otv⟩ cn (xk, xs, xv) = false := by simp [outB, k2, hk]
            rw [hh]
            refine ⟨?sf, A2, V7', some io', kexec_run ?rf, ?kf, kA, a2, .inr (fun j hj => by cases hj; omega)⟩
            case rf =>
              conv => lhs; whnf
              rw [kdec e1]
              conv => lhs; whnf
              rw [kdec e1]
              conv => lhs; whnf
              refine bind_of ((cellsAt_of hgA _ _).trans hcell2) ?_
              conv => lhs; whnf
              refine bind_of (dstore_of (Hp.get_push_same _ _) (t := 29) (o := 0) (cs' := C) rfl) ?_
              conv => lhs; whnf
              refine bind_of (cellsAt_of hU1 _ _) ?_
              conv => lhs; whnf
              rw [show (ok == 4) = false from beq_eq_false_iff_ne.2 k4]
              conv => lhs; whnf
              refine bind_of (cellsAt_of hU1 _ _) ?_
              conv => lhs; whnf
              rw [show (ok == 3) = false from beq_eq_false_iff_ne.2 k3]
              conv => lhs; whnf
              refine bind_of (cellsAt_of hU1 _ _) ?_
              conv => lhs; whnf
              rw [show (ok == 2) = true from beq_iff_eq.2 k2]
              conv => lhs; whnf
              rw [show (((cn : Nat) : Int) == 0) = true from beq_iff_eq.2 hc0]
              conv => lhs; whnf
              refine bind_of (cellsAt_of q1 _ _) ?_
              conv => lhs; whnf
              refine bind_of (cellsAt_of hU1 _ _) ?_
              conv => lhs; whnf
              rw [show (((xk : Nat) : Int) == otk) = false from beq_eq_false_iff_ne.2 hk]
              conv => lhs; whnf
              refine bind_of (cellsAt_of q1 _ _) ?_
              conv => lhs; whnf
              refine bind_of a1 ?_
              conv => lhs; whnf
              try rfl
            case kf =>
              show [_, _, _, _, _, _, _, _, _, _, _, (25, Value.int .i64 (IntKind.i64.wrap ((j : Int) + 1)))] = _
              rw [hw2]
              rfl
        · have hc0 : ¬ ((cn : Nat) : Int) = 0 := by omega
          have hh : outB ⟨ok, otk, ots, otv⟩ cn (xk, xs, xv) = false := by simp [outB, k2, hc]
          rw [hh]
          refine ⟨?sg, A2, V7', some io', kexec_run ?rg, ?kg, kA, a2, .inr (fun j hj => by cases hj; omega)⟩
          case rg =>
            conv => lhs; whnf
            rw [kdec e1]
            conv => lhs; whnf
            rw [kdec e1]
            conv => lhs; whnf
            refine bind_of ((cellsAt_of hgA _ _).trans hcell2) ?_
            conv => lhs; whnf
            refine bind_of (dstore_of (Hp.get_push_same _ _) (t := 29) (o := 0) (cs' := C) rfl) ?_
            conv => lhs; whnf
            refine bind_of (cellsAt_of hU1 _ _) ?_
            conv => lhs; whnf
            rw [show (ok == 4) = false from beq_eq_false_iff_ne.2 k4]
            conv => lhs; whnf
            refine bind_of (cellsAt_of hU1 _ _) ?_
            conv => lhs; whnf
            rw [show (ok == 3) = false from beq_eq_false_iff_ne.2 k3]
            conv => lhs; whnf
            refine bind_of (cellsAt_of hU1 _ _) ?_
            conv => lhs; whnf
            rw [show (ok == 2) = true from beq_iff_eq.2 k2]
            conv => lhs; whnf
            rw [show (((cn : Nat) : Int) == 0) = false from beq_eq_false_iff_ne.2 hc0]
            conv => lhs; whnf
            refine bind_of (cellsAt_of q1 _ _) ?_
            conv => lhs; whnf
            refine bind_of a1 ?_
            conv => lhs; whnf
            try rfl
          case kg =>
            show [_, _, _, _, _, _, _, _, _, _, _, (25, Value.int .i64 (IntKind.i64.wrap ((j : Int) + 1)))] = _
            rw [hw2]
            rfl
      · have hh : outB ⟨ok, otk, ots, otv⟩ cn (xk, xs, xv) = false := by simp [outB, k4, k3, k2]
        rw [hh]
        refine ⟨?sh, A2, V7', some io', kexec_run ?rh, ?kh, kA, a2, .inr (fun j hj => by cases hj; omega)⟩
        case rh =>
          conv => lhs; whnf
          rw [kdec e1]
          conv => lhs; whnf
          rw [kdec e1]
          conv => lhs; whnf
          refine bind_of ((cellsAt_of hgA _ _).trans hcell2) ?_
          conv => lhs; whnf
          refine bind_of (dstore_of (Hp.get_push_same _ _) (t := 29) (o := 0) (cs' := C) rfl) ?_
          conv => lhs; whnf
          refine bind_of (cellsAt_of hU1 _ _) ?_
          conv => lhs; whnf
          rw [show (ok == 4) = false from beq_eq_false_iff_ne.2 k4]
          conv => lhs; whnf
          refine bind_of (cellsAt_of hU1 _ _) ?_
          conv => lhs; whnf
          rw [show (ok == 3) = false from beq_eq_false_iff_ne.2 k3]
          conv => lhs; whnf
          refine bind_of (cellsAt_of hU1 _ _) ?_
          conv => lhs; whnf
          rw [show (ok == 2) = false from beq_eq_false_iff_ne.2 k2]
          conv => lhs; whnf
          refine bind_of (cellsAt_of q1 _ _) ?_
          conv => lhs; whnf
          refine bind_of a1 ?_
          conv => lhs; whnf
          try rfl
        case kh =>
          show [_, _, _, _, _, _, _, _, _, _, _, (25, Value.int .i64 (IntKind.i64.wrap ((j : Int) + 1)))] = _
          rw [hw2]
          rfl
end
end Go.Dn.Ln
end
