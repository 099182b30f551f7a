/-
  Part of the abstract machine for this program.
-/
import Derived.Test.YtjhimcdahpncaaaDoorPD

section
/-
  culvertref19: the document's pipe, walked
-/
namespace Go.Dn.Pipe
open Go.Proofs
set_option maxHeartbeats 4000000
set_option maxRecDepth 100000
attribute [local irreducible] Hp.get Hp.set Hp.push dappend dcopy dstore cellsAt callD loopD

/-- a byte -/
def IsB (us : List Value) : Prop := ∀ (j : Nat) x, us[j]? = some x → ∃ n, x = .int .u8 n

theorem IsB.append {a b : List Value} (ha : IsB a) (hb : IsB b) : IsB (a ++ b) := by
  intro j x hx
  rw [List.getElem?_append] at hx
  split at hx
  · exact ha j x hx
  · exact hb _ x hx
theorem IsB.take {a : List Value} (ha : IsB a) (n : Nat) : IsB (a.take n) := by
  intro j x hx
  rw [List.getElem?_take] at hx
  split at hx
  · exact ha j x hx
  · cases hx
theorem IsB.drop {a : List Value} (ha : IsB a) (n : Nat) : IsB (a.drop n) := by
  intro j x hx
  rw [List.getElem?_drop] at hx
  exact ha _ x hx
theorem IsB.plain {a : List Value} (ha : IsB a) : ∀ u ∈ a, plain0 u = true := by
  intro u hu
  obtain ⟨j, hj⟩ := List.getElem?_of_mem hu
  obtain ⟨n, rfl⟩ := ha j u hj
  rfl

theorem bs_cell {A : Hp} {a : Option Addr} {m c : Nat} {us : List Value} (h : BsAt A (.slice a m c) us) {i : Nat} {x : Value} (hx : us[i]? = some x) : ∃ b o T cs md, a = some ⟨b, o, some 1⟩ ∧ A.get b = some (.arr T cs md) ∧ cellsIn cs (o + i * 1) 1 = some [x] ∧ i < m := by
  cases h with
  | nil c hc => simp at hx
  | «at» b o _ _ T cs _ md hg hl hu hc =>
    have hlen : us.length = m := by rw [← hu]; simp; omega
    have hi : i < us.length := (List.getElem?_eq_some_iff.1 hx).1
    refine ⟨b, o, T, cs, md, rfl, hg, cellsIn_of (by omega) ?_, by omega⟩
    rw [← hu, List.getElem?_take, if_pos (by omega), List.getElem?_drop] at hx
    apply List.ext_getElem?
    intro j
    rw [List.getElem?_take]
    match j with
    | 0 => rw [if_pos (by omega), List.getElem?_drop, show o + i * 1 + 0 = o + i by omega, hx]; rfl
    | j + 1 => rw [if_neg (by omega)]; rfl

theorem bs_len {A : Hp} {a : Option Addr} {m c : Nat} {us : List Value} (h : BsAt A (.slice a m c) us) : us.length = m := by
  obtain ⟨a', c', e⟩ := h.form
  cases e; rfl

structure RI (A0 : Hp) (V : Value) (us : List Value) (A : Hp) : Prop where
  wf : A.wf
  nx : A0.next ≤ A.next
  old : ∀ j, j < A0.next → A.get j = A0.get j
  out : ∃ io, CanAt 5 1 A V io us us.length ∧ ∀ i, io = some i → A0.next ≤ i

/-- one byte more -/
theorem RI.app {A0 A : Hp} {V : Value} {us : List Value} (h : RI A0 V us A) (x : Value) (hl : us.length ≤ 4000000000) :
    ∃ V' A', dappend Tryd.bk.E 22 22 (A.push (.arr 5 [x] .own)) V (.slice (some ⟨A.next, 0, some 1⟩) 1 3) = some (V', A') ∧ RI A0 V' (us ++ [x]) A' := by
  obtain ⟨io, o1, o2⟩ := h.out
  have hio : ∀ i, io = some i → i < A.next := by
    rintro i rfl
    exact o1.lt h.wf
  have hV : CanAt 5 1 (A.push (.arr 5 [x] .own)) V io us us.length := o1.keep fun i hi => Hp.get_push_ne _ _ (by have := hio i hi; omega)
  have hx : elemsOf (A.push (.arr 5 [x] .own)) 1 (.slice (some ⟨A.next, 0, some 1⟩) 1 3) = some (1, [x]) :=
    (BsAt.at A.next 0 1 3 5 [x] [x] .own (Hp.get_push_same _ _) (by simp) rfl (by omega)).elems
  obtain ⟨V', A', io', d1, d2, d3, d4, d5, d6⟩ := append_can elB elB2 hV hx (by simp) (by omega) (by unfold maxLen; omega)
  simp only [Hp.next_push] at d3 d5 d6
  refine ⟨V', A', d1, d4 (h.wf.push _), by have := h.nx; omega, fun j hj => ?_, io', by rw [List.length_append]; exact d2, fun i hi => ?_⟩
  · have := h.nx
    rw [d5 j (by omega) (fun e => by have := o2 j e; omega), Hp.get_push_ne _ _ (by omega), h.old j hj]
  · have := h.nx
    rcases d6 with ⟨_, _, _, e⟩ | ⟨i', e, e2, _⟩
    · cases e
    · rw [e] at hi; cases hi; omega

theorem RI.nil {A : Hp} (hw : A.wf) : RI A (.slice none 0 0) [] A := ⟨hw, Nat.le_refl _, fun _ _ => rfl, none, .nil, by simp⟩
theorem RI.bs {A0 A : Hp} {V : Value} {us : List Value} (h : RI A0 V us A) : BsAt A V us := by
  obtain ⟨io, o1, _⟩ := h.out
  exact o1.slAt.bs

theorem take_succ {us : List Value} {i : Nat} {x : Value} (h : us[i]? = some x) : us.take (i + 1) = us.take i ++ [x] := by
  rw [List.take_add_one, h]; rfl

structure RS where
  i : Nat
  v : Value

/-- the first loop of Put: all that was there -/
theorem put_loop0 {call : CallT} (lf : Nat) {A0 : Hp} (hw : A0.wf) {q : Nat} {a : Option Addr} {c : Nat} {g : Int} {all : List Value} (hq : A0.get q = some (.arr 50 [.slice a all.length c, .int .i64 g, .bool false] .own)) (hV : BsAt A0 (.slice a all.length c) all) (hall : IsB all) (hl : all.length ≤ 1000000000) (hlf : all.length < lf)
    (b V4 : Value) :
    ∃ A1 V', loopD (some [1, 2, 4, 5, 6, 7, 8]) (exec Tryd.bk.E call Tryd.f28.ntmps (Tryd.bk.inf 28) lf (loopOf Tryd.f28 0)) lf [(1, b), (2, ptr q), (4, V4), (5, .int .i64 0), (6, .int .i64 0), (7, .slice none 0 0), (8, .int .i64 ((0 : Nat) : Int))] A0 =
      some (.exit 0, [(1, b), (2, ptr q), (4, V4), (5, .int .i64 0), (6, .int .i64 0), (7, V'), (8, .int .i64 (all.length : Nat))], A1) ∧ RI A0 V' all A1 := by
  have key := loop_rule (ks := some [1, 2, 4, 5, 6, 7, 8]) (f := exec Tryd.bk.E call Tryd.f28.ntmps (Tryd.bk.inf 28) lf (loopOf Tryd.f28 0)) (S := RS)
    (fun s => [(1, b), (2, ptr q), (4, V4), (5, .int .i64 0), (6, .int .i64 0), (7, s.v), (8, .int .i64 (s.i : Nat))])
    (fun s A => s.i ≤ all.length ∧ RI A0 s.v (all.take s.i) A) (fun s => all.length - s.i)
    (fun e σ A1 => e = .exit 0 ∧ ∃ V', σ = [(1, b), (2, ptr q), (4, V4), (5, .int .i64 0), (6, .int .i64 0), (7, V'), (8, .int .i64 (all.length : Nat))] ∧ RI A0 V' all A1) (fun s A hI => ?_)
    lf ⟨0, .slice none 0 0⟩ A0 ⟨Nat.zero_le _, RI.nil hw⟩ (by simp only; omega)
  · obtain ⟨e, σ1, A1, k1, rfl, V', rfl, k2⟩ := key
    exact ⟨A1, V', k1, k2⟩
  · obtain ⟨i, v⟩ := s
    obtain ⟨hi, hR⟩ := hI
    simp only at hi hR ⊢
    have hqA : A.get q = some (.arr 50 [.slice a all.length c, .int .i64 g, .bool false] .own) := by rw [hR.old q (hw.lt hq)]; exact hq
    by_cases him : i < all.length
    · obtain ⟨x, hx⟩ : ∃ x, all[i]? = some x := ⟨_, List.getElem?_eq_getElem him⟩
      obtain ⟨n, rfl⟩ := hall i x hx
      obtain ⟨bb, o, T, cs, md, rfl, hg, hc, _⟩ := bs_cell hV hx
      have hgA : A.get bb = some (.arr T cs md) := by rw [hR.old bb (hw.lt hg)]; exact hg
      obtain ⟨V', A', d1, d2⟩ := hR.app (.int .u8 n) (by simp; omega)
      have hw2 : IntKind.i64.wrap ((i : Int) + 1) = ((i + 1 : Nat) : Int) := by rw [wrap64 (by omega) (by omega)]; omega
      have e1 : ((i : Nat) : Int) < ((all.length : Nat) : Int) := by omega
      refine ⟨.normal, ?s, A', kexec_run ?run, .inl ⟨rfl, ⟨i + 1, V'⟩, ?kp, ⟨him, by rw [take_succ hx]; exact d2⟩, by simp only; omega⟩⟩
      case run =>
        conv => lhs; whnf
        rw [cellsAt_of hqA]
        conv => lhs; whnf
        rw [kdec e1]
        conv => lhs; whnf
        rw [cellsAt_of hqA]
        conv => lhs; whnf
        rw [kdec e1]
        conv => lhs; whnf
        refine bind_of ((cellsAt_of hgA _ _).trans hc) ?_
        conv => lhs; whnf
        refine bind_of d1 ?_
        conv => lhs; whnf
      case kp =>
        show [_, _, _, _, _, _, (8, Value.int .i64 (IntKind.i64.wrap ((i : Int) + 1)))] = _
        rw [hw2]
    · have e1 : ¬ ((i : Nat) : Int) < ((all.length : Nat) : Int) := by omega
      obtain rfl : i = all.length := by omega
      rw [List.take_length] at hR
      refine ⟨.exit 0, ?s2, A, kexec_run ?run2, .inr ⟨by simp, rfl, v, ?kp2, hR⟩⟩
      case run2 =>
        conv => lhs; whnf
        rw [cellsAt_of hqA]
        conv => lhs; whnf
        rw [kdecn e1]
      case kp2 => rfl
/-- the second loop of Put: what comes in -/
theorem put_loop1 {call : CallT} (lf : Nat) {A0 A1 : Hp} {a : Option Addr} {c : Nat} {all us : List Value} {V : Value} (hw : A0.wf) (hR0 : RI A0 V all A1) (hb : BsAt A0 (.slice a us.length c) us) (hus : IsB us) (hl : all.length + us.length ≤ 1000000000) (hlf : us.length < lf) (V2 V4 : Value) :
    ∃ A2 V', loopD (some [1, 2, 4, 5, 6, 7, 9]) (exec Tryd.bk.E call Tryd.f28.ntmps (Tryd.bk.inf 28) lf (loopOf Tryd.f28 1)) lf [(1, .slice a us.length c), (2, V2), (4, V4), (5, .int .i64 0), (6, .int .i64 0), (7, V), (9, .int .i64 ((0 : Nat) : Int))] A1 =
      some (.exit 2, [(1, .slice a us.length c), (2, V2), (4, V4), (5, .int .i64 0), (6, .int .i64 0), (7, V'), (9, .int .i64 (us.length : Nat))], A2) ∧ RI A0 V' (all ++ us) A2 := by
  have key := loop_rule (ks := some [1, 2, 4, 5, 6, 7, 9]) (f := exec Tryd.bk.E call Tryd.f28.ntmps (Tryd.bk.inf 28) lf (loopOf Tryd.f28 1)) (S := RS)
    (fun s => [(1, .slice a us.length c), (2, V2), (4, V4), (5, .int .i64 0), (6, .int .i64 0), (7, s.v), (9, .int .i64 (s.i : Nat))])
    (fun s A => s.i ≤ us.length ∧ RI A0 s.v (all ++ us.take s.i) A) (fun s => us.length - s.i)
    (fun e σ A1 => e = .exit 2 ∧ ∃ V', σ = [(1, .slice a us.length c), (2, V2), (4, V4), (5, .int .i64 0), (6, .int .i64 0), (7, V'), (9, .int .i64 (us.length : Nat))] ∧ RI A0 V' (all ++ us) A1) (fun s A hI => ?_)
    lf ⟨0, V⟩ A1 ⟨Nat.zero_le _, by simpa using hR0⟩ (by simp only; omega)
  · obtain ⟨e, σ1, A1, k1, rfl, V', rfl, k2⟩ := key
    exact ⟨A1, V', k1, k2⟩
  · obtain ⟨i, v⟩ := s
    obtain ⟨hi, hR⟩ := hI
    simp only at hi hR ⊢
    by_cases him : i < us.length
    · obtain ⟨x, hx⟩ : ∃ x, us[i]? = some x := ⟨_, List.getElem?_eq_getElem him⟩
      obtain ⟨n, rfl⟩ := hus i x hx
      obtain ⟨bb, o, T, cs, md, rfl, hg, hc, _⟩ := bs_cell hb hx
      have hgA : A.get bb = some (.arr T cs md) := by rw [hR.old bb (hw.lt hg)]; exact hg
      obtain ⟨V', A', d1, d2⟩ := hR.app (.int .u8 n) (by simp; omega)
      have hw2 : IntKind.i64.wrap ((i : Int) + 1) = ((i + 1 : Nat) : Int) := by rw [wrap64 (by omega) (by omega)]; omega
      have e1 : ((i : Nat) : Int) < ((us.length : Nat) : Int) := by omega
      refine ⟨.normal, ?s, A', kexec_run ?run, .inl ⟨rfl, ⟨i + 1, V'⟩, ?kp, ⟨him, by rw [take_succ hx, ← List.append_assoc]; exact d2⟩, by simp only; omega⟩⟩
      case run =>
        conv => lhs; whnf
        rw [kdec e1]
        conv => lhs; whnf
        rw [kdec e1]
        conv => lhs; whnf
        refine bind_of ((cellsAt_of hgA _ _).trans hc) ?_
        conv => lhs; whnf
        refine bind_of d1 ?_
        conv => lhs; whnf
      case kp =>
        show [_, _, _, _, _, _, (9, Value.int .i64 (IntKind.i64.wrap ((i : Int) + 1)))] = _
        rw [hw2]
    · have e1 : ¬ ((i : Nat) : Int) < ((us.length : Nat) : Int) := by omega
      obtain rfl : i = us.length := by omega
      rw [List.take_length] at hR
      refine ⟨.exit 2, ?s2, A, kexec_run ?run2, .inr ⟨by simp, rfl, v, ?kp2, hR⟩⟩
      case run2 =>
        conv => lhs; whnf
        rw [kdecn e1]
      case kp2 => rfl

theorem RI.set {A0 A : Hp} {V : Value} {us : List Value} (h : RI A0 V us A) {i : Nat} {o o' : Ob} (hg : A.get i = some o) (hio : ∀ cs, o ≠ .arr 5 cs .own) {B0 : Hp} (hB : B0.next ≤ i) (hB2 : B0.next ≤ A0.next) (hBo : ∀ j, j < B0.next → A0.get j = B0.get j) : RI B0 V us (A.set i (some o')) := by
  obtain ⟨io, o1, o2⟩ := h.out
  refine ⟨h.wf.put hg _, by rw [Hp.next_set]; have := h.nx; omega, fun j hj => ?_, io, o1.keep fun k hk => ?_, fun k hk => by have := o2 k hk; omega⟩
  · rw [Hp.get_set_ne _ _ (by omega), h.old j (by omega), hBo j hj]
  · refine Hp.get_set_ne _ _ ?_
    rintro rfl
    subst hk
    cases o1 with
    | «at» _ _ _ hg' _ _ => rw [hg] at hg'; cases hg'; exact hio _ rfl

/-- Put, of a pipe that is not cut -/
theorem refput_walk {call : CallT} (lf : Nat) {A : Hp} (hw : A.wf) {a a2 : Option Addr} {c c2 : Nat} {g : Int} {all us : List Value} (hV : BsAt A (.slice a all.length c) all) (hall : IsB all) (hb : BsAt A (.slice a2 us.length c2) us) (hus : IsB us)
    (hl : all.length + us.length ≤ 1000000000) (hlf : all.length + us.length < lf) :
    ∃ V' A', kfn Tryd.bk.E call (Tryd.bk.inf 28) lf Tryd.f28 [.agg #[.slice a all.length c, .int .i64 g, .bool false], .slice a2 us.length c2] A = some (.tuple #[.agg #[V', .int .i64 g, .bool false], .int .i64 (us.length : Nat), .int .i64 0], A') ∧ RI A V' (all ++ us) A' := by
  let A1 : Hp := A.push (.arr 50 [.slice a all.length c, .int .i64 g, .bool false] .own)
  let A2 : Hp := A1.push (.arr 50 [.slice none 0 0, .int .i64 0, .bool false] .own)
  have hw2 : A2.wf := (hw.push _).push _
  have n1 : A1.next = A.next + 1 := by simp [A1]
  have n2 : A2.next = A.next + 2 := by simp [A2, A1]
  have old : ∀ j, j < A.next → A2.get j = A.get j := fun j hj => by
    show (A1.push _).get j = _
    rw [Hp.get_push_ne _ _ (by omega)]
    exact Hp.get_push_ne _ _ (by omega)
  have hq : A2.get A.next = some (.arr 50 [.slice a all.length c, .int .i64 g, .bool false] .own) := by
    show (A1.push _).get A.next = _
    rw [Hp.get_push_ne _ _ (by omega)]
    exact Hp.get_push_same _ _
  have hq2 : A2.get A1.next = some (.arr 50 [.slice none 0 0, .int .i64 0, .bool false] .own) := Hp.get_push_same _ _
  obtain ⟨A3, V3, l1, r1⟩ := put_loop0 (call := call) lf hw2 hq (hV.old hw old) hall (by omega) (by omega) (.slice a2 us.length c2) (ptr A1.next)
  obtain ⟨A4, V4, l2, r2⟩ := put_loop1 (call := call) lf hw2 r1 (hb.old hw old) hus hl (by omega) (ptr A.next) (ptr A1.next)
  obtain ⟨av, nv, cv, rfl⟩ : ∃ x y z, V4 = .slice x y z := by
    obtain ⟨x, z, e⟩ := r2.bs.form
    exact ⟨x, _, z, e⟩
  have g1 : A4.get A.next = some (.arr 50 [.slice a all.length c, .int .i64 g, .bool false] .own) := by rw [r2.old _ (by omega)]; exact hq
  have r3 := r2.set (o' := .arr 50 [.slice av nv cv, .int .i64 g, .bool false] .own) g1 (by simp) (B0 := A) (Nat.le_refl _) (by omega) old
  have g2 : (A4.set A.next (some (.arr 50 [.slice av nv cv, .int .i64 g, .bool false] .own))).get A1.next = some (.arr 50 [.slice none 0 0, .int .i64 0, .bool false] .own) := by
    rw [Hp.get_set_ne _ _ (by omega), r2.old _ (by omega)]; exact hq2
  have r4 := r3.set (o' := .arr 50 [.slice av nv cv, .int .i64 g, .bool false] .own) g2 (by simp) (B0 := A) (by omega) (Nat.le_refl _) (fun _ _ => rfl)
  refine ⟨.slice av nv cv, _, ?run, r4⟩
  case run =>
    conv => lhs; whnf
    refine bind_of (cellsAt_of hq _ _) ?_
    conv => lhs; whnf
    refine bind_of l1 ?_
    conv => lhs; whnf
    refine bind_of l2 ?_
    conv => lhs; whnf
    refine bind_of (dstore_of g1 (t := 22) (o := 0) (cs' := [.slice av nv cv, .int .i64 g, .bool false]) rfl) ?_
    conv => lhs; whnf
    rw [cellsAt_of (Hp.get_set_same _ _ _)]
    conv => lhs; whnf
    refine bind_of (dstore_of g2 (t := 50) (o := 0) (cs' := [.slice av nv cv, .int .i64 g, .bool false]) rfl) ?_
    conv => lhs; whnf
    rw [cellsAt_of (Hp.get_set_same _ _ _)]
    conv => lhs; whnf
    rfl

/-- older objects stay -/
structure Kp (A A' : Hp) : Prop where
  wf : A'.wf
  nx : A.next ≤ A'.next
  old : ∀ j, j < A.next → A'.get j = A.get j
theorem Kp.trans {A B C : Hp} (h : Kp A B) (k : Kp B C) : Kp A C := ⟨k.wf, Nat.le_trans h.nx k.nx, fun j hj => by have := h.nx; rw [k.old j (by omega), h.old j hj]⟩
theorem Kp.push {A : Hp} (hw : A.wf) (o : Ob) : Kp A (A.push o) := ⟨hw.push _, by simp, fun j hj => Hp.get_push_ne _ _ (by omega)⟩
theorem Kp.set {A B : Hp} (h : Kp A B) {i : Nat} {o : Ob} (hg : B.get i = some o) (hi : A.next ≤ i) (o' : Ob) : Kp A (B.set i (some o')) :=
  ⟨h.wf.put hg _, by rw [Hp.next_set]; exact h.nx, fun j hj => by rw [Hp.get_set_ne _ _ (by omega), h.old j hj]⟩
theorem RI.kp {A0 A : Hp} {V : Value} {us : List Value} (h : RI A0 V us A) : Kp A0 A := ⟨h.wf, h.nx, h.old⟩

/-- Put, of a pipe that is cut -/
theorem refput_cut {call : CallT} (lf : Nat) {A : Hp} (hw : A.wf) {a : Option Addr} {m c : Nat} {g : Int} (b : Value) :
    ∃ A', kfn Tryd.bk.E call (Tryd.bk.inf 28) lf Tryd.f28 [.agg #[.slice a m c, .int .i64 g, .bool true], b] A = some (.tuple #[.agg #[.slice a m c, .int .i64 g, .bool true], .int .i64 0, .int .i64 27], A') ∧ Kp A A' := by
  let A1 : Hp := A.push (.arr 50 [.slice a m c, .int .i64 g, .bool true] .own)
  let A2 : Hp := A1.push (.arr 50 [.slice none 0 0, .int .i64 0, .bool false] .own)
  have n1 : A1.next = A.next + 1 := by simp [A1]
  have hq : A2.get A.next = some (.arr 50 [.slice a m c, .int .i64 g, .bool true] .own) := by
    show (A1.push _).get A.next = _
    rw [Hp.get_push_ne _ _ (by omega)]
    exact Hp.get_push_same _ _
  have hq2 : A2.get A1.next = some (.arr 50 [.slice none 0 0, .int .i64 0, .bool false] .own) := Hp.get_push_same _ _
  have k2 : Kp A A2 := (Kp.push hw _).trans (Kp.push (hw.push _) _)
  refine ⟨_, ?run, k2.set hq2 (by omega) (.arr 50 [.slice a m c, .int .i64 g, .bool true] .own)⟩
  case run =>
    conv => lhs; whnf
    refine bind_of (cellsAt_of hq _ _) ?_
    conv => lhs; whnf
    refine bind_of (cellsAt_of hq _ _) ?_
    conv => lhs; whnf
    refine bind_of (dstore_of hq2 (t := 50) (o := 0) (cs' := [.slice a m c, .int .i64 g, .bool true]) rfl) ?_
    conv => lhs; whnf
    refine bind_of (cellsAt_of (A := A2.set A1.next (some (.arr 50 [.slice a m c, .int .i64 g, .bool true] .own))) (i := A1.next) (Hp.get_set_same _ _ _) 0 3) ?_
    conv => lhs; whnf
    rfl

def lftOf (ct : Bool) (m g : Nat) : Nat := if ct then 0 else m - g

/-- Left -/
theorem left_walk {call : CallT} (lf : Nat) (A : Hp) (a : Option Addr) (m c g : Nat) (ct : Bool) (hg : g ≤ m) (hm : m ≤ 1000000000) :
    kfn Tryd.bk.E call (Tryd.bk.inf 57) lf Tryd.f57 [.agg #[.slice a m c, .int .i64 g, .bool ct]] A = some (.int .i64 (lftOf ct m g : Nat), A.push (.arr 50 [.slice a m c, .int .i64 g, .bool ct] .own)) := by
  have hw1 : IntKind.i64.wrap ((m : Int) - (g : Int)) = ((m - g : Nat) : Int) := by rw [wrap64 (by omega) (by omega)]; omega
  conv => lhs; whnf
  rw [cellsAt_push_same]
  cases ct with
  | true =>
    conv => lhs; whnf
    rfl
  | false =>
    conv => lhs; whnf
    rw [cellsAt_push_same]
    conv => lhs; whnf
    rw [cellsAt_push_same]
    conv => lhs; whnf
    rw [hw1]
    rfl

def LeftOK (call : CallT) : Prop := ∀ (A : Hp) (a : Option Addr) (m c g : Nat) (ct : Bool), g ≤ m → m ≤ 1000000000 → call 57 [.agg #[.slice a m c, .int .i64 g, .bool ct]] A = some (.int .i64 (lftOf ct m g : Nat), A.push (.arr 50 [.slice a m c, .int .i64 g, .bool ct] .own))

/-- Break -/
theorem break_walk {call : CallT} (h57 : LeftOK call) (lf : Nat) {A : Hp} (hw : A.wf) (a : Option Addr) (m c g : Nat) (ct : Bool) (hg : g ≤ m) (hm : m ≤ 1000000000) :
    ∃ A', kfn Tryd.bk.E call (Tryd.bk.inf 58) lf Tryd.f58 [.agg #[.slice a m c, .int .i64 g, .bool ct]] A = some (.tuple #[.agg #[.slice a m c, .int .i64 g, .bool true], .int .i64 (lftOf ct m g : Nat)], A') ∧ Kp A A' := by
  let A1 : Hp := A.push (.arr 50 [.slice a m c, .int .i64 g, .bool ct] .own)
  let A2 : Hp := A1.push (.arr 50 [.slice none 0 0, .int .i64 0, .bool false] .own)
  let A3 : Hp := A2.push (.arr 50 [.slice a m c, .int .i64 g, .bool ct] .own)
  have n1 : A1.next = A.next + 1 := by simp [A1]
  have n2 : A2.next = A.next + 2 := by simp [A2, A1]
  have hq : A2.get A.next = some (.arr 50 [.slice a m c, .int .i64 g, .bool ct] .own) := by
    show (A1.push _).get A.next = _
    rw [Hp.get_push_ne _ _ (by omega)]
    exact Hp.get_push_same _ _
  have hq2 : A2.get A1.next = some (.arr 50 [.slice none 0 0, .int .i64 0, .bool false] .own) := Hp.get_push_same _ _
  have hq' : A3.get A.next = some (.arr 50 [.slice a m c, .int .i64 g, .bool ct] .own) := by
    show (A2.push _).get A.next = _
    rw [Hp.get_push_ne _ _ (by omega)]; exact hq
  have hq2' : A3.get A1.next = some (.arr 50 [.slice none 0 0, .int .i64 0, .bool false] .own) := by
    show (A2.push _).get A1.next = _
    rw [Hp.get_push_ne _ _ (by omega)]; exact hq2
  have k3 : Kp A A3 := ((Kp.push hw _).trans (Kp.push (hw.push _) _)).trans (Kp.push ((hw.push _).push _) _)
  have hq2'' : (A3.set A.next (some (.arr 50 [.slice a m c, .int .i64 g, .bool true] .own))).get A1.next = some (.arr 50 [.slice none 0 0, .int .i64 0, .bool false] .own) := by
    rw [Hp.get_set_ne _ _ (by omega)]; exact hq2'
  refine ⟨_, ?run, (k3.set hq' (Nat.le_refl _) (.arr 50 [.slice a m c, .int .i64 g, .bool true] .own)).set hq2'' (by omega) (.arr 50 [.slice a m c, .int .i64 g, .bool true] .own)⟩
  case run =>
    conv => lhs; whnf
    refine bind_of (cellsAt_of hq _ _) ?_
    conv => lhs; whnf
    refine bind_of (h57 _ _ _ _ _ _ hg hm) ?_
    conv => lhs; whnf
    refine bind_of (dstore_of hq' (t := 4) (o := 2) (cs' := [.slice a m c, .int .i64 g, .bool true]) rfl) ?_
    conv => lhs; whnf
    rw [cellsAt_of (Hp.get_set_same _ _ _)]
    conv => lhs; whnf
    refine bind_of (dstore_of hq2'' (t := 50) (o := 0) (cs' := [.slice a m c, .int .i64 g, .bool true]) rfl) ?_
    conv => lhs; whnf
    refine bind_of (cellsAt_of (A := (A3.set A.next (some (.arr 50 [.slice a m c, .int .i64 g, .bool true] .own))).set A1.next (some (.arr 50 [.slice a m c, .int .i64 g, .bool true] .own))) (i := A1.next) (Hp.get_set_same _ _ _) 0 3) ?_
    conv => lhs; whnf
    rfl

/-- Move's loop -/
theorem move_loop30 {call : CallT} (lf : Nat) {A0 : Hp} (hw : A0.wf) {q : Nat} {a : Option Addr} {c g : Nat} {ct : Bool} {all : List Value} (hq : A0.get q = some (.arr 50 [.slice a all.length c, .int .i64 g, .bool ct] .own)) (hV : BsAt A0 (.slice a all.length c) all) (hall : IsB all) (hl : all.length ≤ 1000000000) (hlf : all.length < lf)
    (n : Int) (hn : n.toNat ≤ all.length - g) (hg : g ≤ all.length) (V4 : Value) :
    ∃ A1 V', loopD (some [1, 2, 4, 5, 7, 8]) (exec Tryd.bk.E call Tryd.f30.ntmps (Tryd.bk.inf 30) lf (loopOf Tryd.f30 0)) lf [(1, .int .i64 n), (2, ptr q), (4, V4), (5, .slice none 0 0), (7, .slice none 0 0), (8, .int .i64 ((0 : Nat) : Int))] A0 =
      some (.exit 0, [(1, .int .i64 n), (2, ptr q), (4, V4), (5, .slice none 0 0), (7, V'), (8, .int .i64 (n.toNat : Nat))], A1) ∧ RI A0 V' ((all.drop g).take n.toNat) A1 := by
  have key := loop_rule (ks := some [1, 2, 4, 5, 7, 8]) (f := exec Tryd.bk.E call Tryd.f30.ntmps (Tryd.bk.inf 30) lf (loopOf Tryd.f30 0)) (S := RS)
    (fun s => [(1, .int .i64 n), (2, ptr q), (4, V4), (5, .slice none 0 0), (7, s.v), (8, .int .i64 (s.i : Nat))])
    (fun s A => s.i ≤ n.toNat ∧ RI A0 s.v ((all.drop g).take s.i) A) (fun s => n.toNat - s.i)
    (fun e σ A1 => e = .exit 0 ∧ ∃ V', σ = [(1, .int .i64 n), (2, ptr q), (4, V4), (5, .slice none 0 0), (7, V'), (8, .int .i64 (n.toNat : Nat))] ∧ RI A0 V' ((all.drop g).take n.toNat) A1) (fun s A hI => ?_)
    lf ⟨0, .slice none 0 0⟩ A0 ⟨Nat.zero_le _, RI.nil hw⟩ (by simp only; omega)
  · obtain ⟨e, σ1, A1, k1, rfl, V', rfl, k2⟩ := key
    exact ⟨A1, V', k1, k2⟩
  · obtain ⟨i, v⟩ := s
    obtain ⟨hi, hR⟩ := hI
    simp only at hi hR ⊢
    have hqA : A.get q = some (.arr 50 [.slice a all.length c, .int .i64 g, .bool ct] .own) := by rw [hR.old q (hw.lt hq)]; exact hq
    by_cases him : i < n.toNat
    · have hgi : g + i < all.length := by omega
      obtain ⟨x, hx⟩ : ∃ x, all[g + i]? = some x := ⟨_, List.getElem?_eq_getElem hgi⟩
      obtain ⟨y, rfl⟩ := hall (g + i) x hx
      have hx2 : (all.drop g)[i]? = some (.int .u8 y) := by rw [List.getElem?_drop]; exact hx
      obtain ⟨bb, o, T, cs, md, rfl, hgb, hc, _⟩ := bs_cell hV hx
      have hgA : A.get bb = some (.arr T cs md) := by rw [hR.old bb (hw.lt hgb)]; exact hgb
      obtain ⟨V', A', d1, d2⟩ := hR.app (.int .u8 y) (by simp; omega)
      have hw2 : IntKind.i64.wrap ((i : Int) + 1) = ((i + 1 : Nat) : Int) := by rw [wrap64 (by omega) (by omega)]; omega
      have hw3 : IntKind.i64.wrap ((g : Int) + (i : Int)) = ((g + i : Nat) : Int) := by rw [wrap64 (by omega) (by omega)]; omega
      have e1 : ((i : Nat) : Int) < n := by omega
      have e2 : ((g + i : Nat) : Int) < ((all.length : Nat) : Int) := by omega
      have e3 : (0 : Int) ≤ ((g + i : Nat) : Int) := by omega
      refine ⟨.normal, ?s, A', kexec_run ?run, .inl ⟨rfl, ⟨i + 1, V'⟩, ?kp, ⟨him, by rw [take_succ hx2]; exact d2⟩, by simp only; omega⟩⟩
      case run =>
        conv => lhs; whnf
        rw [kdec e1]
        conv => lhs; whnf
        rw [cellsAt_of hqA]
        conv => lhs; whnf
        rw [cellsAt_of hqA]
        conv => lhs; whnf
        rw [hw3]
        first | (rw [kdec e3]; conv => lhs; whnf) | skip
        rw [kdec e2]
        conv => lhs; whnf
        refine bind_of ((cellsAt_of hgA _ _).trans hc) ?_
        conv => lhs; whnf
        refine bind_of d1 ?_
        conv => lhs; whnf
      case kp =>
        show [_, _, _, _, _, (8, Value.int .i64 (IntKind.i64.wrap ((i : Int) + 1)))] = _
        rw [hw2]
    · have e1 : ¬ ((i : Nat) : Int) < n := by omega
      obtain rfl : i = n.toNat := by omega
      refine ⟨.exit 0, ?s2, A, kexec_run ?run2, .inr ⟨by simp, rfl, v, ?kp2, hR⟩⟩
      case run2 =>
        conv => lhs; whnf
        rw [kdecn e1]
      case kp2 => rfl

/-- Move -/
theorem refmove_walk {call : CallT} (h57 : LeftOK call) (lf : Nat) {A : Hp} (hw : A.wf) (a : Option Addr) (c g : Nat) (ct : Bool) {all : List Value} (hV : BsAt A (.slice a all.length c) all) (hall : IsB all) (hg : g ≤ all.length) (hm : all.length ≤ 1000000000) (n : Int) (hlf : all.length < lf) :
    ∃ V' A', kfn Tryd.bk.E call (Tryd.bk.inf 30) lf Tryd.f30 [.agg #[.slice a all.length c, .int .i64 g, .bool ct], .int .i64 n] A =
      some (.tuple #[.agg #[.slice a all.length c, .int .i64 (g + min n.toNat (lftOf ct all.length g) : Nat), .bool ct], V'], A') ∧ RI A V' ((all.drop g).take (min n.toNat (lftOf ct all.length g))) A' := by
  let A1 : Hp := A.push (.arr 50 [.slice a all.length c, .int .i64 g, .bool ct] .own)
  let A2 : Hp := A1.push (.arr 50 [.slice none 0 0, .int .i64 0, .bool false] .own)
  let A3 : Hp := A2.push (.arr 50 [.slice a all.length c, .int .i64 g, .bool ct] .own)
  have n1 : A1.next = A.next + 1 := by simp [A1]
  have n2 : A2.next = A.next + 2 := by simp [A2, A1]
  have n3 : A3.next = A.next + 3 := by simp [A3, A2, A1]
  have hq : A2.get A.next = some (.arr 50 [.slice a all.length c, .int .i64 g, .bool ct] .own) := by
    show (A1.push _).get A.next = _
    rw [Hp.get_push_ne _ _ (by omega)]
    exact Hp.get_push_same _ _
  have hq2 : A2.get A1.next = some (.arr 50 [.slice none 0 0, .int .i64 0, .bool false] .own) := Hp.get_push_same _ _
  have hq' : A3.get A.next = some (.arr 50 [.slice a all.length c, .int .i64 g, .bool ct] .own) := by
    show (A2.push _).get A.next = _
    rw [Hp.get_push_ne _ _ (by omega)]; exact hq
  have hq2' : A3.get A1.next = some (.arr 50 [.slice none 0 0, .int .i64 0, .bool false] .own) := by
    show (A2.push _).get A1.next = _
    rw [Hp.get_push_ne _ _ (by omega)]; exact hq2
  have k3 : Kp A A3 := ((Kp.push hw _).trans (Kp.push (hw.push _) _)).trans (Kp.push ((hw.push _).push _) _)
  have hlft : lftOf ct all.length g ≤ all.length - g := by unfold lftOf; split <;> omega
  have fin : ∀ (n' : Int), n'.toNat = min n.toNat (lftOf ct all.length g) → (∃ V4 A4, loopD (some [1, 2, 4, 5, 7, 8]) (exec Tryd.bk.E call Tryd.f30.ntmps (Tryd.bk.inf 30) lf (loopOf Tryd.f30 0)) lf [(1, .int .i64 n'), (2, ptr A.next), (4, ptr A1.next), (5, .slice none 0 0), (7, .slice none 0 0), (8, .int .i64 ((0 : Nat) : Int))] A3 =
      some (.exit 0, [(1, .int .i64 n'), (2, ptr A.next), (4, ptr A1.next), (5, .slice none 0 0), (7, V4), (8, .int .i64 (n'.toNat : Nat))], A4) ∧ RI A3 V4 ((all.drop g).take n'.toNat) A4) := fun n' hn' => by
    obtain ⟨A4, V4, l1, l2⟩ := move_loop30 (call := call) lf k3.wf hq' (hV.old hw k3.old) hall hm (by omega) n' (by omega) hg (ptr A1.next)
    exact ⟨V4, A4, l1, l2⟩
  by_cases hgt : n > ((lftOf ct all.length g : Nat) : Int)
  · obtain ⟨V4, A4, l1, l2⟩ := fin ((lftOf ct all.length g : Nat) : Int) (by omega)
    rw [show ((lftOf ct all.length g : Nat) : Int).toNat = min n.toNat (lftOf ct all.length g) by omega] at l2
    have hk : ((all.drop g).take (min n.toNat (lftOf ct all.length g))).length = min n.toNat (lftOf ct all.length g) := by simp; omega
    have hkb : min n.toNat (lftOf ct all.length g) ≤ all.length - g := by omega
    obtain ⟨av, cv, e⟩ := l2.bs.form
    rw [hk] at e
    generalize min n.toNat (lftOf ct all.length g) = k at l2 e hk hkb
    subst e
    have hw4 : IntKind.i64.wrap ((g : Int) + (k : Int)) = ((g + k : Nat) : Int) := by rw [wrap64 (by omega) (by omega)]; omega
    have g1 : A4.get A.next = some (.arr 50 [.slice a all.length c, .int .i64 g, .bool ct] .own) := by rw [l2.old _ (by omega)]; exact hq'
    have r3 := l2.set (o' := .arr 50 [.slice a all.length c, .int .i64 (g + k : Nat), .bool ct] .own) g1 (by simp) (B0 := A) (Nat.le_refl _) (by omega) k3.old
    have g2 : (A4.set A.next (some (.arr 50 [.slice a all.length c, .int .i64 (g + k : Nat), .bool ct] .own))).get A1.next = some (.arr 50 [.slice none 0 0, .int .i64 0, .bool false] .own) := by
      rw [Hp.get_set_ne _ _ (by omega), l2.old _ (by omega)]; exact hq2'
    have r4 := r3.set (o' := .arr 50 [.slice a all.length c, .int .i64 (g + k : Nat), .bool ct] .own) g2 (by simp) (B0 := A) (by omega) (Nat.le_refl _) (fun _ _ => rfl)
    refine ⟨.slice av k cv, _, ?run1, r4⟩
    case run1 =>
      conv => lhs; whnf
      refine bind_of (cellsAt_of hq _ _) ?_
      conv => lhs; whnf
      refine bind_of (h57 _ _ _ _ _ _ hg hm) ?_
      conv => lhs; whnf
      rw [kdec hgt]
      conv => lhs; whnf
      refine bind_of l1 ?_
      conv => lhs; whnf
      refine bind_of (cellsAt_of g1 _ _) ?_
      conv => lhs; whnf
      rw [hw4]
      refine bind_of (dstore_of g1 (t := 3) (o := 1) (cs' := [.slice a all.length c, .int .i64 (g + k : Nat), .bool ct]) rfl) ?_
      conv => lhs; whnf
      rw [cellsAt_of (Hp.get_set_same _ _ _)]
      conv => lhs; whnf
      refine bind_of (dstore_of g2 (t := 50) (o := 0) (cs' := [.slice a all.length c, .int .i64 (g + k : Nat), .bool ct]) rfl) ?_
      conv => lhs; whnf
      refine bind_of (cellsAt_of (A := (A4.set A.next (some (.arr 50 [.slice a all.length c, .int .i64 (g + k : Nat), .bool ct] .own))).set A1.next (some (.arr 50 [.slice a all.length c, .int .i64 (g + k : Nat), .bool ct] .own))) (i := A1.next) (Hp.get_set_same _ _ _) 0 3) ?_
      conv => lhs; whnf
      rfl
  · obtain ⟨V4, A4, l1, l2⟩ := fin n (by omega)
    rw [show n.toNat = min n.toNat (lftOf ct all.length g) by omega] at l2
    have hk : ((all.drop g).take (min n.toNat (lftOf ct all.length g))).length = min n.toNat (lftOf ct all.length g) := by simp; omega
    have hkb : min n.toNat (lftOf ct all.length g) ≤ all.length - g := by omega
    obtain ⟨av, cv, e⟩ := l2.bs.form
    rw [hk] at e
    generalize min n.toNat (lftOf ct all.length g) = k at l2 e hk hkb
    subst e
    have hw4 : IntKind.i64.wrap ((g : Int) + (k : Int)) = ((g + k : Nat) : Int) := by rw [wrap64 (by omega) (by omega)]; omega
    have g1 : A4.get A.next = some (.arr 50 [.slice a all.length c, .int .i64 g, .bool ct] .own) := by rw [l2.old _ (by omega)]; exact hq'
    have r3 := l2.set (o' := .arr 50 [.slice a all.length c, .int .i64 (g + k : Nat), .bool ct] .own) g1 (by simp) (B0 := A) (Nat.le_refl _) (by omega) k3.old
    have g2 : (A4.set A.next (some (.arr 50 [.slice a all.length c, .int .i64 (g + k : Nat), .bool ct] .own))).get A1.next = some (.arr 50 [.slice none 0 0, .int .i64 0, .bool false] .own) := by
      rw [Hp.get_set_ne _ _ (by omega), l2.old _ (by omega)]; exact hq2'
    have r4 := r3.set (o' := .arr 50 [.slice a all.length c, .int .i64 (g + k : Nat), .bool ct] .own) g2 (by simp) (B0 := A) (by omega) (Nat.le_refl _) (fun _ _ => rfl)
    refine ⟨.slice av k cv, _, ?run2, r4⟩
    case run2 =>
      conv => lhs; whnf
      refine bind_of (cellsAt_of hq _ _) ?_
      conv => lhs; whnf
      refine bind_of (h57 _ _ _ _ _ _ hg hm) ?_
      conv => lhs; whnf
      rw [kdecn hgt]
      conv => lhs; whnf
      refine bind_of l1 ?_
      conv => lhs; whnf
      refine bind_of (cellsAt_of g1 _ _) ?_
      conv => lhs; whnf
      rw [hw4]
      refine bind_of (dstore_of g1 (t := 3) (o := 1) (cs' := [.slice a all.length c, .int .i64 (g + k : Nat), .bool ct]) rfl) ?_
      conv => lhs; whnf
      rw [cellsAt_of (Hp.get_set_same _ _ _)]
      conv => lhs; whnf
      refine bind_of (dstore_of g2 (t := 50) (o := 0) (cs' := [.slice a all.length c, .int .i64 (g + k : Nat), .bool ct]) rfl) ?_
      conv => lhs; whnf
      refine bind_of (cellsAt_of (A := (A4.set A.next (some (.arr 50 [.slice a all.length c, .int .i64 (g + k : Nat), .bool ct] .own))).set A1.next (some (.arr 50 [.slice a all.length c, .int .i64 (g + k : Nat), .bool ct] .own))) (i := A1.next) (Hp.get_set_same _ _ _) 0 3) ?_
      conv => lhs; whnf
      rfl
end Go.Dn.Pipe
end

section
/-
  a frame's bytes (layer 4)
-/
namespace Go.Dn.Pipe
open Go.Proofs
set_option maxHeartbeats 4000000
set_option maxRecDepth 100000
attribute [local irreducible] Hp.get Hp.set Hp.push dappend dcopy dstore cellsAt callD loopD

def e16 (v : Int) : List Value := [.int .u8 (IntKind.u8.wrap (v.fdiv (2 ^ min (Int.toNat 8) IntKind.u16.bits))), .int .u8 (IntKind.u8.wrap v)]
def e32 (v : Int) : List Value := [.int .u8 (IntKind.u8.wrap (v.fdiv (2 ^ min (Int.toNat 24) IntKind.u32.bits))), .int .u8 (IntKind.u8.wrap (v.fdiv (2 ^ min (Int.toNat 16) IntKind.u32.bits))), .int .u8 (IntKind.u8.wrap (v.fdiv (2 ^ min (Int.toNat 8) IntKind.u32.bits))), .int .u8 (IntKind.u8.wrap v)]

theorem dcopy_of {A : Hp} {b b2 n c c2 : Nat} {T : TypeId} {zs us : List Value} {md : Md} (h1 : A.get b = some (.arr 5 zs .own)) (h2 : A.get b2 = some (.arr T us md)) (hz : zs.length = n) (hu : us.length = n) (hn : n ≠ 0) :
    dcopy Tryd.bk.E 22 22 A (.slice (some ⟨b, 0, some 1⟩) n c) (.slice (some ⟨b2, 0, some 1⟩) n c2) = some (.int .i64 (n : Nat), A.set b (some (.arr 5 us .own))) := by
  have e1 : Tryd.bk.E.T 22 = some Go.Dn.Tryd.ti22 := rfl
  have e2 : Tryd.bk.E.T 5 = some Go.Dn.Tryd.ti5 := rfl
  unfold dcopy
  rw [e1]
  simp only [Option.bind_some]
  show (Tryd.bk.E.T 5).bind _ = _
  rw [e2]
  simp only [Option.bind_some, lenSl, Nat.min_self]
  rw [Tr.beq_ff hn]
  simp only [cond_false]
  rw [if_pos ⟨rfl, rfl⟩]
  show (cellsAt A b2 0 (n * 1)).bind _ = _
  rw [cellsAt_of h2, cellsIn_of (us := us) (by omega) (by rw [List.drop_zero, List.take_of_length_le (by omega)])]
  simp only [Option.bind_some]
  unfold setCellsAt
  rw [h1]
  have h3 : 0 + us.length ≤ zs.length := by omega
  simp only [if_pos h3, List.take_zero, List.nil_append, Option.map_some]
  rw [List.drop_eq_nil_of_le (by omega), List.append_nil]

theorem b16_walk {call : CallT} (lf : Nat) {A : Hp} (hw : A.wf) (v : Int) :
    ∃ A', kfn Tryd.bk.E call (Tryd.bk.inf 74) lf Tryd.f74 [.int .u16 v] A = some (.slice (some ⟨A.next + 1, 0, some 1⟩) 2 5, A') ∧ Kp A A' ∧ A'.get (A.next + 1) = some (.arr 5 (e16 v) .own) := by
  let Z : List Value := [.int .u8 0, .int .u8 0]
  let A1 : Hp := (A.push (.arr 165 Z .own)).set A.next (some (.arr 165 (e16 v) .own))
  have n1 : A1.next = A.next + 1 := by simp [A1]
  have w1 : A1.wf := (hw.push _).put (Hp.get_push_same _ _) _
  let A2 : Hp := A1.push (.arr 5 Z .own)
  have g1 : A2.get A.next = some (.arr 165 (e16 v) .own) := by
    rw [show A2.get A.next = A1.get A.next from Hp.get_push_ne _ _ (by omega)]
    exact Hp.get_set_same _ _ _
  have g2 : A2.get A1.next = some (.arr 5 Z .own) := Hp.get_push_same _ _
  have hc := dcopy_of (c := 5) (c2 := 5) g2 g1 rfl rfl (by decide)
  have k : Kp A (A2.set A1.next (some (.arr 5 (e16 v) .own))) := (((Kp.push hw (.arr 165 Z .own)).set (Hp.get_push_same _ _) (Nat.le_refl _) (.arr 165 (e16 v) .own)).trans (Kp.push w1 (.arr 5 Z .own))).set g2 (by omega) _
  rw [← n1]
  refine ⟨_, ?run, k, Hp.get_set_same _ _ _⟩
  case run =>
    conv => lhs; whnf
    refine bind_of (dstore_of (Hp.get_push_same _ _) (t := 165) (o := 0) (cs' := e16 v) rfl) ?_
    conv => lhs; whnf
    refine bind_of hc ?_
    conv => lhs; whnf
    rfl

theorem b32_walk {call : CallT} (lf : Nat) {A : Hp} (hw : A.wf) (v : Int) :
    ∃ A', kfn Tryd.bk.E call (Tryd.bk.inf 75) lf Tryd.f75 [.int .u32 v] A = some (.slice (some ⟨A.next + 1, 0, some 1⟩) 4 9, A') ∧ Kp A A' ∧ A'.get (A.next + 1) = some (.arr 5 (e32 v) .own) := by
  let Z : List Value := [.int .u8 0, .int .u8 0, .int .u8 0, .int .u8 0]
  let A1 : Hp := (A.push (.arr 166 Z .own)).set A.next (some (.arr 166 (e32 v) .own))
  have n1 : A1.next = A.next + 1 := by simp [A1]
  have w1 : A1.wf := (hw.push _).put (Hp.get_push_same _ _) _
  let A2 : Hp := A1.push (.arr 5 Z .own)
  have g1 : A2.get A.next = some (.arr 166 (e32 v) .own) := by
    rw [show A2.get A.next = A1.get A.next from Hp.get_push_ne _ _ (by omega)]
    exact Hp.get_set_same _ _ _
  have g2 : A2.get A1.next = some (.arr 5 Z .own) := Hp.get_push_same _ _
  have hc := dcopy_of (c := 9) (c2 := 9) g2 g1 rfl rfl (by decide)
  have k : Kp A (A2.set A1.next (some (.arr 5 (e32 v) .own))) := (((Kp.push hw (.arr 166 Z .own)).set (Hp.get_push_same _ _) (Nat.le_refl _) (.arr 166 (e32 v) .own)).trans (Kp.push w1 (.arr 5 Z .own))).set g2 (by omega) _
  rw [← n1]
  refine ⟨_, ?run, k, Hp.get_set_same _ _ _⟩
  case run =>
    conv => lhs; whnf
    refine bind_of (dstore_of (Hp.get_push_same _ _) (t := 166) (o := 0) (cs' := e32 v) rfl) ?_
    conv => lhs; whnf
    refine bind_of hc ?_
    conv => lhs; whnf
    rfl

/-- an append that stays in its array -/
theorem append_in {A : Hp} {b n m c : Nat} {cs ys : List Value} {x : Value} (hg : A.get b = some (.arr 5 cs .own)) (hx : elemsOf A 1 x = some (m, ys)) (hm : m ≠ 0) (hy : ys.length = m) (hc : n + m ≤ c / 2) (hl : n + m ≤ cs.length) (hb : n + m ≤ 1000000000) :
    dappend Tryd.bk.E 22 22 A (.slice (some ⟨b, 0, some 1⟩) n c) x = some (.slice (some ⟨b, 0, some 1⟩) (n + m) c, A.set b (some (.arr 5 (cs.take n ++ ys ++ cs.drop (n + m)) .own))) := by
  obtain ⟨⟨i, h1, h2⟩, ⟨j, z, h3, h4, h5, h6, h7⟩, h8⟩ := elB
  unfold dappend
  rw [h1]
  simp only [Option.bind_some, h2, h3, h6, h4, hx, h7, h5]
  rw [Tr.beq_ff hm]
  simp only [cond_false]
  rw [if_pos ⟨trivial, h8⟩, if_pos ⟨trivial, by unfold maxLen; omega, by omega⟩, if_pos hc]
  unfold setCellsAt
  rw [hg]
  have h9 : 0 + n * 1 + ys.length ≤ cs.length := by omega
  simp only [if_pos h9, Option.map_some]
  rw [show 0 + n * 1 = n by omega, hy]

def hdrOf (ver typ fl st ln : Int) : List Value := [.int .u8 ver, .int .u8 typ] ++ e16 fl ++ e32 st ++ e32 ln
theorem hdr_len (ver typ fl st ln : Int) : (hdrOf ver typ fl st ln).length = 12 := rfl

def Enc16 (call : CallT) : Prop := ∀ {A : Hp} (v : Int), A.wf → ∃ A', call 74 [.int .u16 v] A = some (.slice (some ⟨A.next + 1, 0, some 1⟩) 2 5, A') ∧ Kp A A' ∧ A'.get (A.next + 1) = some (.arr 5 (e16 v) .own)
def Enc32 (call : CallT) : Prop := ∀ {A : Hp} (v : Int), A.wf → ∃ A', call 75 [.int .u32 v] A = some (.slice (some ⟨A.next + 1, 0, some 1⟩) 4 9, A') ∧ Kp A A' ∧ A'.get (A.next + 1) = some (.arr 5 (e32 v) .own)

/-- the header's twelve bytes -/
theorem encode_walk {call : CallT} (h74 : Enc16 call) (h75 : Enc32 call) (lf : Nat) {A : Hp} (hw : A.wf) (ver typ fl st ln : Int) :
    ∃ b A', kfn Tryd.bk.E call (Tryd.bk.inf 67) lf Tryd.f67 [.agg #[.int .u8 ver, .int .u8 typ, .int .u16 fl, .int .u32 st, .int .u32 ln]] A = some (.slice (some ⟨b, 0, some 1⟩) 12 25, A') ∧ Kp A A' ∧ A'.get b = some (.arr 5 (hdrOf ver typ fl st ln) .own) ∧ A.next ≤ b := by
  let H : List Value := [.int .u8 ver, .int .u8 typ, .int .u16 fl, .int .u32 st, .int .u32 ln]
  let c0 : List Value := List.replicate 12 (.int .u8 0)
  let c1 : List Value := c0.take 0 ++ [.int .u8 ver, .int .u8 typ] ++ c0.drop (0 + 2)
  let c2 : List Value := c1.take 2 ++ e16 fl ++ c1.drop (2 + 2)
  let c3 : List Value := c2.take 4 ++ e32 st ++ c2.drop (4 + 4)
  let c4 : List Value := c3.take 8 ++ e32 ln ++ c3.drop (8 + 4)
  let A1 : Hp := A.push (.arr 84 H .own)
  let A2 : Hp := A1.push (.arr 5 c0 .own)
  let A3 : Hp := A2.push (.arr 5 [.int .u8 ver, .int .u8 typ] .own)
  let A4 : Hp := A3.set A1.next (some (.arr 5 c1 .own))
  have n1 : A1.next = A.next + 1 := by simp [A1]
  have n2 : A2.next = A.next + 2 := by simp [A2, A1]
  have k1 : Kp A A1 := Kp.push hw _
  have k2 : Kp A A2 := k1.trans (Kp.push k1.wf _)
  have k3 : Kp A A3 := k2.trans (Kp.push k2.wf _)
  have g2 : A2.get A1.next = some (.arr 5 c0 .own) := Hp.get_push_same _ _
  have g3 : A3.get A1.next = some (.arr 5 c0 .own) := by rw [show A3.get A1.next = A2.get A1.next from Hp.get_push_ne _ _ (by omega)]; exact g2
  have k4 : Kp A A4 := k3.set g3 (by omega) _
  have q1 : A1.get A.next = some (.arr 84 H .own) := Hp.get_push_same _ _
  have q2 : A2.get A.next = some (.arr 84 H .own) := by rw [show A2.get A.next = A1.get A.next from Hp.get_push_ne _ _ (by omega)]; exact q1
  have q3 : A3.get A.next = some (.arr 84 H .own) := by rw [show A3.get A.next = A2.get A.next from Hp.get_push_ne _ _ (by omega)]; exact q2
  have q4 : A4.get A.next = some (.arr 84 H .own) := by rw [show A4.get A.next = A3.get A.next from Hp.get_set_ne _ _ (by omega)]; exact q3
  have n4 : A4.next = A.next + 3 := by simp [A4, A3, A2, A1]
  have a1 := append_in (n := 0) (c := 25) g3 (BsAt.at A2.next 0 2 5 5 [.int .u8 ver, .int .u8 typ] _ .own (Hp.get_push_same _ _) (by simp) rfl (by omega)).elems (by simp) rfl (by simp) (by simp [c0]) (by simp)
  obtain ⟨A5, r1, r2, r3⟩ := h74 fl k4.wf
  have g4 : A4.get A1.next = some (.arr 5 c1 .own) := Hp.get_set_same _ _ _
  have g5 : A5.get A1.next = some (.arr 5 c1 .own) := by rw [r2.old _ (by omega)]; exact g4
  have q5 : A5.get A.next = some (.arr 84 H .own) := by rw [r2.old _ (by omega)]; exact q4
  have a2 := append_in (n := 2) (c := 25) g5 (BsAt.at (A4.next + 1) 0 2 5 5 (e16 fl) _ .own r3 (by simp [e16]) rfl (by omega)).elems (by simp [e16]) rfl (by simp [e16]) (by simp [c1, c0, e16]) (by simp [e16])
  let A6 : Hp := A5.set A1.next (some (.arr 5 c2 .own))
  have k6 : Kp A A6 := (k4.trans r2).set g5 (by omega) _
  have g6 : A6.get A1.next = some (.arr 5 c2 .own) := Hp.get_set_same _ _ _
  have q6 : A6.get A.next = some (.arr 84 H .own) := by rw [show A6.get A.next = A5.get A.next from Hp.get_set_ne _ _ (by omega)]; exact q5
  have n6 : A6.next = A5.next := Hp.next_set _ _ _
  have l5 := r2.nx
  obtain ⟨A7, s1, s2, s3⟩ := h75 st k6.wf
  have g7 : A7.get A1.next = some (.arr 5 c2 .own) := by rw [s2.old _ (by omega)]; exact g6
  have q7 : A7.get A.next = some (.arr 84 H .own) := by rw [s2.old _ (by omega)]; exact q6
  have a3 := append_in (n := 4) (c := 25) g7 (BsAt.at (A6.next + 1) 0 4 9 5 (e32 st) _ .own s3 (by simp [e32]) rfl (by omega)).elems (by simp [e32]) rfl (by simp [e32]) (by simp [c2, c1, c0, e16, e32]) (by simp [e32])
  let A8 : Hp := A7.set A1.next (some (.arr 5 c3 .own))
  have k8 : Kp A A8 := (k6.trans s2).set g7 (by omega) _
  have g8 : A8.get A1.next = some (.arr 5 c3 .own) := Hp.get_set_same _ _ _
  have q8 : A8.get A.next = some (.arr 84 H .own) := by rw [show A8.get A.next = A7.get A.next from Hp.get_set_ne _ _ (by omega)]; exact q7
  have n8 : A8.next = A7.next := Hp.next_set _ _ _
  have l7 := s2.nx
  obtain ⟨A9, t1, t2, t3⟩ := h75 ln k8.wf
  have g9 : A9.get A1.next = some (.arr 5 c3 .own) := by rw [t2.old _ (by omega)]; exact g8
  have a4 := append_in (n := 8) (c := 25) g9 (BsAt.at (A8.next + 1) 0 4 9 5 (e32 ln) _ .own t3 (by simp [e32]) rfl (by omega)).elems (by simp [e32]) rfl (by simp [e32]) (by simp [c3, c2, c1, c0, e16, e32]) (by simp [e32])
  have k10 : Kp A (A9.set A1.next (some (.arr 5 (hdrOf ver typ fl st ln) .own))) := (k8.trans t2).set g9 (by omega) _
  refine ⟨A1.next, _, ?run, k10, Hp.get_set_same _ _ _, by omega⟩
  case run =>
    conv => lhs; whnf
    refine bind_of (cellsAt_of q2 _ _) ?_
    conv => lhs; whnf
    refine bind_of (cellsAt_of q2 _ _) ?_
    conv => lhs; whnf
    refine bind_of a1 ?_
    conv => lhs; whnf
    refine bind_of (cellsAt_of q4 _ _) ?_
    conv => lhs; whnf
    refine bind_of r1 ?_
    conv => lhs; whnf
    refine bind_of a2 ?_
    conv => lhs; whnf
    refine bind_of (cellsAt_of q6 _ _) ?_
    conv => lhs; whnf
    refine bind_of s1 ?_
    conv => lhs; whnf
    refine bind_of a3 ?_
    conv => lhs; whnf
    refine bind_of (cellsAt_of q8 _ _) ?_
    conv => lhs; whnf
    refine bind_of t1 ?_
    conv => lhs; whnf
    refine bind_of a4 ?_
    conv => lhs; whnf
    rfl
end Go.Dn.Pipe
end

section
/-
  Cut, and Put on a pipe that is cut, by their contracts
-/
namespace Go.Dn.Pipe
open Go.Proofs
set_option maxHeartbeats 4000000
set_option maxRecDepth 100000
attribute [local irreducible] Hp.get Hp.set Hp.push dappend dcopy dstore cellsAt callD loopD

def cutErr : Value := .tuple #[.int .i64 0, .iface 168 (.pointer (some ⟨44, 0, none⟩))]

inductive CutR : List Value → Hp → Value × Hp → Prop
  | mk (A : Hp) (i : Nat) (x : PX) (hi : A.get i = some (.abs 1 x.dat)) (hx : x.n ≤ 1000000000) : CutR [ptr i] A (.int .i64 x.fl.length, A.set i (some (.abs 1 (PX.dat { x with fl := [], c := true }))))
inductive PutR2 : List Value → Hp → Value × Hp → Prop
  | put {args : List Value} {A : Hp} {r : Value × Hp} (h : PutR args A r) : PutR2 args A r
  | cut (A : Hp) (i : Nat) (x : PX) (hi : A.get i = some (.abs 1 x.dat)) (hx : x.c = true) (bi bo bn bc : Nat) (cs : List Value) (m : Md) (hb : A.get bi = some (.arr 5 cs m)) (hpl : ∀ u ∈ cs, plain0 u = true) :
      PutR2 [ptr i, .slice (some ⟨bi, bo, some 1⟩) bn bc] A (cutErr, A.set i (some (.abs 1 x.dat)))

theorem CutR.one {A : Hp} {args : List Value} {r r' : Value × Hp} (h : CutR args A r) (h' : CutR args A r') : r' = r := by
  cases h with | mk _ i x hi _ => cases h' with | mk _ _ y hj => rw [same_px hj hi]
theorem PutR2.one {A : Hp} {args : List Value} {r r' : Value × Hp} (h : PutR2 args A r) (h' : PutR2 args A r') : r' = r := by
  cases h with
  | put h =>
    cases h' with
    | put h' => exact h.one h'
    | cut _ i y hj hy =>
      cases h with
      | put _ _ x hi hx => rw [same_px hj hi, hx] at hy; cases hy
  | cut _ i x hi hx =>
    cases h' with
    | put h' =>
      cases h' with
      | put _ _ y hj hy => rw [same_px hj hi, hx] at hy; cases hy
    | cut _ _ y hj => rw [same_px hj hi]

theorem fn26 : ∃ x, Tryd.prog.funcs[26]? = some x ∧ x.body.isSome = true ∧ (x.name == "runtime.NumGoroutine") = false := ⟨Tryd.f26, by kernel_rfl, by kernel_rfl, by kernel_rfl⟩

noncomputable def T4 (base : CallT) : CallT := withCall (withCall (T3 base) 14 (byRel PutR2)) 26 (byRel CutR)

variable [Reps] (hR : ∀ k d B r, Reps.rep k d B r ↔ repP k d B r)
include hR

theorem cut_call {g : Gh} {A : Hp} {w : World} (hA : RelX Tryd.prog g A w) {i : Nat} {x : PX} (hi : A.get i = some (.abs 1 x.dat)) (hx : x.n ≤ 1000000000) {args' : Array Value} (ha : AR g.ρ [ptr i].toArray args') :
    Calls Tryd.prog 26 args' w fun e w' => ∃ v', e = .returned v' ∧ After Tryd.prog g A w (.int .i64 x.fl.length) (A.set i (some (.abs 1 (PX.dat { x with fl := [], c := true })))) v' w' := by
  have hC := callD_ok Tryd.good (noCalls_ok _) (x.n + 3 + 3)
  refine call_method hC hA hi (k' := 1) (im := []) (ims := []) rfl (by simp) [] (by simp) ha (fun r _ => [ptr r]) (fun r n => .cons (.ptr 0 (.inl ⟨rfl, rfl⟩)) .nil) (.int .i64 x.fl.length) ?_
  intro B r hCB hw hCn hrep
  obtain ⟨_, _, y, e1, f, io, ps, gg, r1, r2, r3, r4, r5, r6⟩ := (hR _ _ _ _).1 hrep
  obtain rfl := PX.dat_inj e1
  obtain ⟨A', io', q1, q2, q3, q4, q5, q6⟩ := pipe_cut nc_none (x.n + 3) r1 hw (by omega) (by omega) (by omega)
  rw [r2] at q1
  have hCA : ∀ i o, Reps.C.get i = some o → A'.get i = some o := by
    intro j o hj
    have hjl := (Reps.Cro j o hj).1
    have hjB := hCB j o hj
    have hjp : j ≠ r := by
      rintro rfl
      have h1 := r1.hp
      rw [hjB] at h1
      cases h1
      have := (Reps.Cro _ _ hj).2
      cases this
    have hjf : j ≠ f := by
      rintro rfl
      obtain ⟨rv, h1, _⟩ := r1.hf
      rw [hjB] at h1
      cases h1
      have := (Reps.Cro _ _ hj).2
      cases this
    rw [q6 j (by omega) hjp hjf]
    exact hjB
  obtain ⟨B2, c1, c2, c3, c4, c5, c6, c7, c8⟩ := q4.close q2 hCA
  exact ⟨_, A', B2, [], q1, c1, by omega, c3, (hR _ _ _ _).2 ⟨rfl, c5, _, rfl, f, io', [], 0, c4, rfl, Nat.zero_le _, Nat.zero_le _, r5, by simp⟩, c6, c7, rfl, .nil, by simp, .plain rfl⟩

theorem putcut_call (h1 : Reps.C.get 1 = some (er 1)) (h44 : 44 < Reps.C.next) {g : Gh} {A : Hp} {w : World} (hA : RelX Tryd.prog g A w) {i : Nat} {x : PX} (hi : A.get i = some (.abs 1 x.dat)) (hx : x.c = true) {bi bo bn bc : Nat} {cs : List Value} {m : Md}
    (hb : A.get bi = some (.arr 5 cs m)) (hpl : ∀ u ∈ cs, plain0 u = true) {args' : Array Value} (ha : AR g.ρ [ptr i, .slice (some ⟨bi, bo, some 1⟩) bn bc].toArray args') :
    Calls Tryd.prog 14 args' w fun e w' => ∃ v', e = .returned v' ∧ After Tryd.prog g A w cutErr (A.set i (some (.abs 1 x.dat))) v' w' := by
  have hC := callD_ok Tryd.good (noCalls_ok _) 6
  refine call_method hC hA hi (k' := 1) (im := [(5, cs)]) (ims := [bi]) rfl ?_ [] (by simp) ha (fun r n => [ptr r, .slice (some ⟨n, bo, some 1⟩) bn bc]) ?_ cutErr ?_
  · intro t e j h1 h2
    match t, h1, h2 with
    | 0, h1, h2 =>
      simp only [List.getElem?_cons_zero, Option.some.injEq] at h1 h2
      subst h1 h2
      exact ⟨⟨m, hb⟩, hpl⟩
  · intro r n
    exact .cons (.ptr 0 (.inl ⟨rfl, rfl⟩)) (.cons (.slice bo 1 bn bc (.inr (.inr ⟨0, rfl, rfl⟩))) .nil)
  · intro B r hCB hw hCn hrep
    obtain ⟨_, _, y, e1, f, io, ps, gg, r1, r2, r3, r4, r5, r6⟩ := (hR _ _ _ _).1 hrep
    obtain rfl := PX.dat_inj e1
    have hP : IsPipe (B.push (.arr 5 cs .sh)) r f io ps gg x.s x.c := r1.keep fun j o hj _ => Hp.get_push_ne _ _ (by have := hw.lt hj; omega)
    have hCA : ∀ i o, Reps.C.get i = some o → (B.push (.arr 5 cs .sh)).get i = some o := fun j o hj => by
      have := (Reps.Cro j o hj).1
      rw [Hp.get_push_ne _ _ (by omega)]; exact hCB j o hj
    obtain ⟨B2, c1, c2, c3, c4, c5, c6, c7, _⟩ := hP.close (hw.push _) hCA
    have hp := hP.hp
    rw [hx] at hp
    refine ⟨_, _, B2, [], pipe_put_cut nc_none 5 hp (hCA 1 _ h1) _, c1, by omega, c3, (hR _ _ _ _).2 ⟨rfl, c5, _, rfl, f, io, ps, gg, c4, r2, r3, r4, r5, r6⟩, c6, c7, rfl, .nil, by simp, ?_⟩
    exact VM.tuples (us := [.int .i64 0, .iface 168 (.pointer (some ⟨44, 0, none⟩))]) (vs := [.int .i64 0, .iface 168 (.pointer (some ⟨44, 0, none⟩))]) (.cons (.plain rfl) (.cons (.iface _ (.ptr 0 (.inr (.inl ⟨h44, rfl⟩)))) .nil))

theorem T4_ok {base : CallT} (hB : CallOK Tryd.prog base) (hCw : Reps.C.wf) (h1 : Reps.C.get 1 = some (er 1)) (h44 : 44 < Reps.C.next) : CallOK Tryd.prog (T4 base) := by
  refine withCall_ok (withCall_ok (T3_ok hR hB hCw) fn14 ?_) fn26 ?_
  · intro args A v A' h ρ w args' hr ha
    have h := byRel_some h
    cases h with
    | put h =>
      refine (T3_ok hR hB hCw).calls 14 args A v A' ?_ ρ w args' hr ha
      exact byRel_of h fun r' h' => h.one h'
    | cut _ i x hi hx bi bo bn bc cs m hb hpl => exact putcut_call hR h1 h44 hr hi hx hb hpl ha
  · intro args A v A' h ρ w args' hr ha
    have h := byRel_some h
    cases h with
    | mk _ i x hi hx => exact cut_call hR hr hi hx ha
end Go.Dn.Pipe
end
