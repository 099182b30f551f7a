/-
  Part of the abstract machine for this program.
-/
import Derived.Test.YtombnpednnngoaaDoorPI
import Derived.Test.YtombnpednnngoaaDoorDnJ
import Derived.Test.YtombnpednnngoaaDoorPC
import Derived.Test.YtombnpednnngoaaDoorCards
import Derived.Test.YtombnpednnngoaaDoorTie
import Derived.WalkKit
import Derived.ProofKit
import Derived.OpenShut
import Derived.LaidLaws
import Derived.Deep.DeepHandedRow

section
/-
  BacklogOrder: the whole
-/
namespace Go.Dn.Bl
open Go.Proofs Go.Dn.Ln
set_option maxHeartbeats 4000000
set_option maxRecDepth 100000

/-! ## plain -/
def putsL : List Int → List Int → List Int
  | l, [] => l
  | l, x :: ids => putsL (ordP l x) ids
def remsL : List Int → List Int → List Int
  | l, [] => l
  | l, x :: g => remsL (stayL (· == x) l) g
theorem ordP_cases (l : List Int) (x : Int) : ordP l x = l ∨ (ordP l x = l ++ [x] ∧ l.any (· == x) = false ∧ l.length < 1024) := by
  unfold ordP putB
  split
  · exact .inl rfl
  · rename_i h
    unfold putF
    split
    · exact .inl rfl
    · rename_i h2
      exact .inr ⟨rfl, Bool.eq_false_iff.2 h, by omega⟩
theorem ordP_ok {l : List Int} (x : Int) (h : BX.ok ⟨1024, l⟩) (hn : l.Nodup) : BX.ok ⟨1024, ordP l x⟩ ∧ (ordP l x).Nodup := by
  rcases ordP_cases l x with e | ⟨e, h1, h2⟩
  · rw [e]; exact ⟨h, hn⟩
  · rw [e]
    refine ⟨⟨by simp only [List.length_append, List.length_singleton]; omega, h.2⟩, ?_⟩
    refine List.nodup_append.2 ⟨hn, by simp, fun a ha b hb => ?_⟩
    simp only [List.mem_singleton] at hb
    subst hb
    rintro rfl
    have := List.any_eq_false.1 h1 a ha
    simp at this
theorem putsL_sub : ∀ (ids l pre : List Int), l.Sublist pre → (putsL l ids).Sublist (pre ++ ids)
  | [], _, _, h => by rw [List.append_nil]; exact h
  | x :: ids, l, pre, h => by
    have h1 : (ordP l x).Sublist (pre ++ [x]) := by
      rcases ordP_cases l x with e | ⟨e, _⟩
      · rw [e]; exact h.trans (List.sublist_append_left _ _)
      · rw [e]; exact h.append (List.Sublist.refl _)
    have := putsL_sub ids (ordP l x) (pre ++ [x]) h1
    rw [List.append_assoc] at this
    exact this
theorem putsL_ok : ∀ (ids l : List Int), BX.ok ⟨1024, l⟩ → l.Nodup → BX.ok ⟨1024, putsL l ids⟩ ∧ (putsL l ids).Nodup
  | [], _, h, hn => ⟨h, hn⟩
  | x :: ids, _, h, hn => putsL_ok ids _ (ordP_ok x h hn).1 (ordP_ok x h hn).2
theorem remsL_sub : ∀ (g l : List Int), (remsL l g).Sublist l
  | [], _ => List.Sublist.refl _
  | _ :: g, _ => (remsL_sub g _).trans List.filter_sublist
theorem putsL_snoc (l : List Int) : ∀ (ids : List Int) (x : Int), putsL l (ids ++ [x]) = ordP (putsL l ids) x := by
  intro ids
  induction ids generalizing l with
  | nil => intro x; rfl
  | cons y ids ih => intro x; exact ih (ordP l y) x
theorem remsL_snoc (l : List Int) : ∀ (ids : List Int) (x : Int), remsL l (ids ++ [x]) = stayL (· == x) (remsL l ids) := by
  intro ids
  induction ids generalizing l with
  | nil => intro x; rfl
  | cons y ids ih => intro x; exact ih (stayL (· == y) l) x
theorem sub_ok {l m : List Int} (h : l.Sublist m) (hok : BX.ok ⟨1024, m⟩) (hn : m.Nodup) : BX.ok ⟨1024, l⟩ ∧ l.Nodup :=
  ⟨⟨Nat.le_trans h.length_le hok.1, hok.2⟩, hn.sublist h⟩

section
attribute [local irreducible] Hp.get Hp.set Hp.push dappend dcopy dstore cellsAt callD loopD

theorem QB.bs {A0 : Hp} {P : Nat} {x : BX} {B : Hp} (h : QB A0 P x B) (hw : A0.wf) (hP : ∃ y, A0.get P = some (bo y)) {v : Value} {us : List Value} (hv : BsAt A0 v us) : BsAt B v us := by
  cases hv with
  | nil c hc => exact .nil c hc
  | «at» i o n c T cs _ md hg hl hu hc => exact .at i o n c T cs us md (h.arg hw (.inr hP) hg) hl hu hc

theorem ord_loop1 {call : CallT} (h : BFns call) (hc : CodeB call) (lf : Nat) {A0 : Hp} (hw : A0.wf) {P : Nat} (hP : A0.get P = some (bo ⟨1024, []⟩)) {a : Option Addr} {c : Nat} {ids : List Int} (hv : BsAt A0 (.slice a ids.length c) (nums ids)) (G : Value)
    (hn : ids.length ≤ 100000000) (hlf : ids.length + 1 < lf) :
    ∃ B J, loopD (some [0, 1, 4, 5, 7, 8]) (exec Tryd.bk.E call Tryd.f6.ntmps (Tryd.bk.inf 6) lf (loopOf Tryd.f6 0)) lf [(0, .slice a ids.length c), (1, G), (4, .bool false), (5, ptr P), (7, .int .i64 ((0 : Nat) : Int)), (8, .int .i64 ((0 : Nat) : Int))] A0 =
      some (.exit 0, [(0, .slice a ids.length c), (1, G), (4, .bool false), (5, ptr P), (7, .int .i64 ((putsL [] ids).length : Nat)), (8, J)], B) ∧ QB A0 P ⟨1024, putsL [] ids⟩ B := by
  have ok0 : BX.ok ⟨1024, []⟩ := ⟨by simp, by show (1 : Int) ≤ 1024; decide, by show (1024 : Int) ≤ 1024; decide⟩
  have key := loop_rule (ks := some [0, 1, 4, 5, 7, 8]) (f := exec Tryd.bk.E call Tryd.f6.ntmps (Tryd.bk.inf 6) lf (loopOf Tryd.f6 0)) (S := Nat × Nat)
    (fun s => [(0, .slice a ids.length c), (1, G), (4, .bool false), (5, ptr P), (7, .int .i64 (s.2 : Nat)), (8, .int .i64 (s.1 : Nat))])
    (fun s B => s.1 ≤ ids.length ∧ s.2 = (putsL [] (ids.take s.1)).length ∧ QB A0 P ⟨1024, putsL [] (ids.take s.1)⟩ B) (fun s => ids.length - s.1)
    (fun e σ B => e = .exit 0 ∧ QB A0 P ⟨1024, putsL [] ids⟩ B ∧ ∃ J, σ = [(0, .slice a ids.length c), (1, G), (4, .bool false), (5, ptr P), (7, .int .i64 ((putsL [] ids).length : Nat)), (8, J)]) (fun s B hs => ?step)
    lf (0, 0) A0 ⟨Nat.zero_le _, rfl, hw, Nat.le_refl _, hP, fun _ _ _ => rfl⟩ (by simp only; omega)
  case step =>
    obtain ⟨i, m⟩ := s
    obtain ⟨z1, z2, z3⟩ := hs
    simp only at z1 z2 z3 ⊢
    subst z2
    by_cases hi : i < ids.length
    · have hx : ids[i]? = some ids[i] := List.getElem?_eq_getElem hi
      have htk : ids.take (i + 1) = ids.take i ++ [ids[i]] := take_succ' hx
      obtain ⟨k1, k2⟩ := putsL_ok (ids.take i) [] ok0 List.nodup_nil
      obtain ⟨σ1, B1, r1, r2, r3⟩ := ord_op1 h hc lf hw ⟨_, hP⟩ hv G hn z3 k1 hx
      refine ⟨.normal, σ1, B1, r1, .inl ⟨rfl, (i + 1, (ordP (putsL [] (ids.take i)) ids[i]).length), r2, ⟨hi, ?_, ?_⟩, by simp only; omega⟩⟩
      · simp only; rw [htk, putsL_snoc]
      · rw [htk, putsL_snoc]; exact r3
    · obtain rfl : i = ids.length := by omega
      rw [List.take_of_length_le (Nat.le_refl _)] at z3 ⊢
      have e1 : ¬ ((ids.length : Nat) : Int) < ((ids.length : Nat) : Int) := by omega
      refine ⟨.exit 0, ?s3, B, kexec_run ?run3, .inr ⟨by simp, rfl, z3, ?L3, ?kp3⟩⟩
      case run3 =>
        conv => lhs; whnf
        rw [kdecn e1]
      case kp3 => rfl
  obtain ⟨e, σ1, B, r1, rfl, q, J, rfl⟩ := key
  exact ⟨B, J, r1, q⟩

theorem ord_loop2 {call : CallT} (h : BFns call) (lf : Nat) {A0 : Hp} (hw : A0.wf) {P : Nat} (hP : ∃ y, A0.get P = some (bo y)) {a : Option Addr} {c : Nat} {ids : List Int} (hv : BsAt A0 (.slice a ids.length c) (nums ids)) (G : Value)
    (hn : ids.length ≤ 100000000) (hlf : ids.length + 1 < lf) {l : List Int} (hok : BX.ok ⟨1024, l⟩) (hnd : l.Nodup) {B0 : Hp} (hB : QB A0 P ⟨1024, l⟩ B0) :
    ∃ B J, loopD (some [0, 1, 4, 5, 7, 11]) (exec Tryd.bk.E call Tryd.f6.ntmps (Tryd.bk.inf 6) lf (loopOf Tryd.f6 1)) lf [(0, G), (1, .slice a ids.length c), (4, .bool false), (5, ptr P), (7, .int .i64 (l.length : Nat)), (11, .int .i64 ((0 : Nat) : Int))] B0 =
      some (.exit 3, [(0, G), (1, .slice a ids.length c), (4, .bool false), (5, ptr P), (7, .int .i64 ((remsL l ids).length : Nat)), (11, J)], B) ∧ QB A0 P ⟨1024, remsL l ids⟩ B := by
  have key := loop_rule (ks := some [0, 1, 4, 5, 7, 11]) (f := exec Tryd.bk.E call Tryd.f6.ntmps (Tryd.bk.inf 6) lf (loopOf Tryd.f6 1)) (S := Nat × Nat)
    (fun s => [(0, G), (1, .slice a ids.length c), (4, .bool false), (5, ptr P), (7, .int .i64 (s.2 : Nat)), (11, .int .i64 (s.1 : Nat))])
    (fun s B => s.1 ≤ ids.length ∧ s.2 = (remsL l (ids.take s.1)).length ∧ QB A0 P ⟨1024, remsL l (ids.take s.1)⟩ B) (fun s => ids.length - s.1)
    (fun e σ B => e = .exit 3 ∧ QB A0 P ⟨1024, remsL l ids⟩ B ∧ ∃ J, σ = [(0, G), (1, .slice a ids.length c), (4, .bool false), (5, ptr P), (7, .int .i64 ((remsL l ids).length : Nat)), (11, J)]) (fun s B hs => ?step)
    lf (0, l.length) B0 ⟨Nat.zero_le _, rfl, hB⟩ (by simp only; omega)
  case step =>
    obtain ⟨i, m⟩ := s
    obtain ⟨z1, z2, z3⟩ := hs
    simp only at z1 z2 z3 ⊢
    subst z2
    by_cases hi : i < ids.length
    · have hx : ids[i]? = some ids[i] := List.getElem?_eq_getElem hi
      have htk : ids.take (i + 1) = ids.take i ++ [ids[i]] := take_succ' hx
      obtain ⟨k1, k2⟩ := sub_ok (remsL_sub (ids.take i) l) hok hnd
      obtain ⟨σ1, B1, r1, r2, r3⟩ := ord_op2 h lf hw hP hv G hn z3 k1 k2 hx
      refine ⟨.normal, σ1, B1, r1, .inl ⟨rfl, (i + 1, (stayL (· == ids[i]) (remsL l (ids.take i))).length), r2, ⟨hi, ?_, ?_⟩, by simp only; omega⟩⟩
      · simp only; rw [htk, remsL_snoc]
      · rw [htk, remsL_snoc]; exact r3
    · obtain rfl : i = ids.length := by omega
      rw [List.take_of_length_le (Nat.le_refl _)] at z3 ⊢
      have e1 : ¬ ((ids.length : Nat) : Int) < ((ids.length : Nat) : Int) := by omega
      refine ⟨.exit 3, ?s3, B, kexec_run ?run3, .inr ⟨by simp, rfl, z3, ?L3, ?kp3⟩⟩
      case run3 =>
        conv => lhs; whnf
        rw [kdecn e1]
      case kp3 => rfl
  obtain ⟨e, σ1, B, r1, rfl, q, J, rfl⟩ := key
  exact ⟨B, J, r1, q⟩

theorem ord_loop3 {call : CallT} (h : BFns call) (lf : Nat) {A0 : Hp} (hw : A0.wf) {P : Nat} {a : Option Addr} {c : Nat} {L : List Int} (hP : A0.get P = some (bo ⟨1024, L⟩)) (hv : BsAt A0 (.slice a L.length c) (nums L)) (G : Value)
    (hn : L.length ≤ 1024) (hnd : L.Nodup) (hlf : L.length + 1 < lf) :
    ∃ B J, loopD (some [0, 4, 5, 7, 13, 14]) (exec Tryd.bk.E call Tryd.f6.ntmps (Tryd.bk.inf 6) lf (loopOf Tryd.f6 2)) lf [(0, G), (4, .bool false), (5, ptr P), (7, .int .i64 (L.length : Nat)), (13, .slice a L.length c), (14, .int .i64 ((0 : Nat) : Int))] A0 =
      some (.exit 5, [(0, G), (4, .bool false), (5, ptr P), (7, .int .i64 (L.length : Nat)), (13, .slice a L.length c), (14, J)], B) ∧ QB A0 P ⟨1024, []⟩ B := by
  have key := loop_rule (ks := some [0, 4, 5, 7, 13, 14]) (f := exec Tryd.bk.E call Tryd.f6.ntmps (Tryd.bk.inf 6) lf (loopOf Tryd.f6 2)) (S := Nat)
    (fun s => [(0, G), (4, .bool false), (5, ptr P), (7, .int .i64 (L.length : Nat)), (13, .slice a L.length c), (14, .int .i64 (s : Nat))])
    (fun s B => s ≤ L.length ∧ QB A0 P ⟨1024, L.drop s⟩ B) (fun s => L.length - s)
    (fun e σ B => e = .exit 5 ∧ QB A0 P ⟨1024, []⟩ B ∧ ∃ J, σ = [(0, G), (4, .bool false), (5, ptr P), (7, .int .i64 (L.length : Nat)), (13, .slice a L.length c), (14, J)]) (fun i B hs => ?step)
    lf 0 A0 ⟨Nat.zero_le _, hw, Nat.le_refl _, by rw [List.drop_zero]; exact hP, fun _ _ _ => rfl⟩ (by omega)
  case step =>
    obtain ⟨z1, z3⟩ := hs
    by_cases hi : i < L.length
    · have hx : L[i]? = some L[i] := List.getElem?_eq_getElem hi
      rw [List.drop_eq_getElem_cons hi] at z3
      obtain ⟨σ1, B1, r1, r2, r3⟩ := ord_op3 h lf hw ⟨_, hP⟩ hv G hn hnd z3 hx
      exact ⟨.normal, σ1, B1, r1, .inl ⟨rfl, i + 1, r2, ⟨hi, r3⟩, by omega⟩⟩
    · obtain rfl : i = L.length := by omega
      rw [List.drop_length] at z3
      have e1 : ¬ ((L.length : Nat) : Int) < ((L.length : Nat) : Int) := by omega
      refine ⟨.exit 5, ?s3, B, kexec_run ?run3, .inr ⟨by simp, rfl, z3, ?L3, ?kp3⟩⟩
      case run3 =>
        conv => lhs; whnf
        rw [kdecn e1]
      case kp3 => rfl
  obtain ⟨e, σ1, B, r1, rfl, q, J, rfl⟩ := key
  exact ⟨B, J, r1, q⟩

theorem bs_set {A : Hp} {v : Value} {us : List Value} (h : BsAt A v us) {P : Nat} {x : BX} (hP : A.get P = some (bo x)) (o : Option Ob) : BsAt (A.set P o) v us := by
  cases h with
  | nil c hc => exact .nil c hc
  | «at» i q n c T cs _ md hg hl hu hc =>
    refine .at i q n c T cs us md ?_ hl hu hc
    rw [Hp.get_set_ne _ _ (fun e => by subst e; rw [hP] at hg; cases hg)]
    exact hg

theorem list_at {A0 : Hp} {P : Nat} {L : List Int} {B : Hp} (hB : QB A0 P ⟨1024, L⟩ B) : ∃ a c, numsV B.next L = .slice a L.length c ∧ QB A0 P ⟨1024, L⟩ (pushL .own (B.set P (some (bo ⟨1024, L⟩))) (numsE L)) ∧ BsAt (pushL .own (B.set P (some (bo ⟨1024, L⟩))) (numsE L)) (.slice a L.length c) (nums L) := by
  have hB1 := hB.set ⟨1024, L⟩
  cases L with
  | nil => exact ⟨none, 0, rfl, hB1, .nil 0 (by omega)⟩
  | cons x l =>
    refine ⟨some ⟨B.next, 0, some 1⟩, 2 * (x :: l).length, rfl, ⟨hB1.wf.push _, by have := hB1.nx; rw [Hp.next_set] at this; show _ ≤ (Hp.push _ _).next; rw [Hp.next_push, Hp.next_set]; omega, ?_, fun j hj hP => ?_⟩, ?_⟩
    · show (Hp.push _ _).get P = _
      rw [Hp.get_push_ne _ _ (by have := hB.wf.lt hB.obj; rw [Hp.next_set]; omega)]
      exact hB1.obj
    · show (Hp.push _ _).get j = _
      rw [Hp.get_push_ne _ _ (by have := hB.nx; rw [Hp.next_set]; omega)]
      exact hB1.old j hj hP
    · refine .at B.next 0 _ _ 27 (nums (x :: l)) _ .own (show (Hp.push _ _).get B.next = _ from Hp.get_push_at _ (by rw [Hp.next_set])) (by rw [nums_len]; omega) ?_ (by omega)
      rw [List.drop_zero, List.take_of_length_le (by rw [nums_len]; omega)]

theorem order_walk {call : CallT} (h : BFns call) (hc : CodeB call) (hr : ∀ {A : Hp} {a a2 : Option Addr} {c c2 : Nat} {ids l : List Int}, BsAt A (.slice a ids.length c) (nums ids) → BsAt A (.slice a2 l.length c2) (nums l) → rsF ids l = [] → ids.length ≤ 1048576 →
      call 38 [.slice a ids.length c, .slice a2 l.length c2] A = some (.bool true, A))
    (lf : Nat) {A : Hp} (hw : A.wf) {a a2 : Option Addr} {c c2 : Nat} {ids gone : List Int} (hv : BsAt A (.slice a ids.length c) (nums ids)) (hg : BsAt A (.slice a2 gone.length c2) (nums gone)) (hn : ids.length ≤ 1048576) (hn2 : gone.length ≤ 1048576) (hlf : 1048576 + 3 < lf) :
    ∃ A', kfn Tryd.bk.E call (Tryd.bk.inf 6) lf Tryd.f6 [.slice a ids.length c, .slice a2 gone.length c2] A = some (.bool true, A') := by
  have hnew := h.new (BNewR.mk A 1024 (by decide) (by decide))
  let A1 : Hp := A.push (bo ⟨1024, []⟩)
  have hw1 : A1.wf := hw.push _
  have hP1 : A1.get A.next = some (bo ⟨1024, []⟩) := Hp.get_push_same _ _
  have hv1 : BsAt A1 (.slice a ids.length c) (nums ids) := hv.old hw fun i hi => Hp.get_push_ne _ _ (by omega)
  have hg1 : BsAt A1 (.slice a2 gone.length c2) (nums gone) := hg.old hw fun i hi => Hp.get_push_ne _ _ (by omega)
  have ok0 : BX.ok ⟨1024, []⟩ := ⟨by simp, by show (1 : Int) ≤ 1024; decide, by show (1024 : Int) ≤ 1024; decide⟩
  obtain ⟨B1, J1, l1, q1⟩ := ord_loop1 h hc lf hw1 hP1 hv1 (.slice a2 gone.length c2) (by omega) (by omega)
  obtain ⟨k1, k2⟩ := putsL_ok ids [] ok0 List.nodup_nil
  have hsub := putsL_sub ids [] [] (List.Sublist.refl _)
  rw [List.nil_append] at hsub
  obtain ⟨B2, J2, l2, q2⟩ := ord_loop2 h lf hw1 ⟨_, hP1⟩ hg1 (.slice a ids.length c) (by omega) (by omega) k1 k2 q1
  have hsub2 := (remsL_sub gone (putsL [] ids)).trans hsub
  obtain ⟨k3, k4⟩ := sub_ok (remsL_sub gone (putsL [] ids)) k1 k2
  generalize remsL (putsL [] ids) gone = L at l2 q2 hsub2 k3 k4
  have r3 := h.list (BListR.mk B2 A.next ⟨1024, L⟩ q2.obj k3)
  obtain ⟨a3, c3, hV, q3, hb3⟩ := list_at q2
  simp only at r3
  rw [hV] at r3
  generalize hB3 : pushL .own (B2.set A.next (some (bo ⟨1024, L⟩))) (numsE L) = B3 at r3 q3 hb3
  have r4 := h.len (BLenR.mk B3 A.next ⟨1024, L⟩ q3.obj k3)
  have q4 := q3.set ⟨1024, L⟩
  have hb4 : BsAt (B3.set A.next (some (bo ⟨1024, L⟩))) (.slice a3 L.length c3) (nums L) := bs_set hb3 q3.obj _
  obtain ⟨B5, J5, l5, q5⟩ := ord_loop3 h lf q4.wf q4.obj hb4 (.slice a ids.length c) k3.1 k4 (by have := k3.1; simp only at this; omega)
  have ok1 : BX.ok ⟨1024, []⟩ := ok0
  have r6 := h.take (BTakeR.mk B5 A.next ⟨1024, []⟩ q5.obj ok1)
  have q6 := q5.set ⟨1024, []⟩
  have r7 := h.clr (BClrR.mk _ A.next ⟨1024, []⟩ q6.obj ok1)
  have q7 := q6.set ⟨1024, []⟩
  have hbL : BsAt ((B5.set A.next (some (bo ⟨1024, []⟩))).set A.next (some (bo ⟨1024, []⟩))) (.slice a3 L.length c3) (nums L) := bs_set (bs_set (q5.bs q4.wf ⟨_, q4.obj⟩ hb4) q5.obj _) q6.obj _
  have hbI : BsAt ((B5.set A.next (some (bo ⟨1024, []⟩))).set A.next (some (bo ⟨1024, []⟩))) (.slice a ids.length c) (nums ids) := bs_set (bs_set (q5.bs q4.wf ⟨_, q4.obj⟩ (bs_set (q3.bs hw1 ⟨_, hP1⟩ hv1) q3.obj _)) q5.obj _) q6.obj _
  have r8 := hr hbI hbL (rsF_sub hsub2) hn
  have e1 : (((L.length : Nat) : Int) != ((L.length : Nat) : Int)) = false := by simp
  refine ⟨?A9, ?run⟩
  case run =>
    conv => lhs; whnf
    refine bind_of (h.awake _) ?_
    conv => lhs; whnf
    refine bind_of hnew ?_
    conv => lhs; whnf
    refine bind_of l1 ?_
    conv => lhs; whnf
    refine bind_of l2 ?_
    conv => lhs; whnf
    refine bind_of r3 ?_
    conv => lhs; whnf
    rw [e1]
    conv => lhs; whnf
    refine bind_of r4 ?_
    conv => lhs; whnf
    rw [e1]
    conv => lhs; whnf
    refine bind_of l5 ?_
    conv => lhs; whnf
    refine bind_of r6 ?_
    conv => lhs; whnf
    refine bind_of r7 ?_
    conv => lhs; whnf
    refine bind_of r8 ?_
    conv => lhs; whnf
    try rfl
end

theorem TB_free {f : FuncId} (hf : f = 38 ∨ f = 6) (args : List Value) (A : Hp) : TBk TA f args A = none := by
  rcases hf with rfl | rfl <;> rfl

theorem order_run {A : Hp} (hA : A.wf) {v v2 : Value} {ids gone : List Int} (hv : ArgSl 27 1 A v (nums ids) ids.length) (hg : ArgSl 27 1 A v2 (nums gone) gone.length) (hn : ids.length ≤ 1048576) (hn2 : gone.length ≤ 1048576) :
    ∃ n A', callD Tryd.bk (TBk TA) n 6 [v, v2] A = some (.bool true, A') := by
  have h1 := argsl_bs hv
  have h2 := argsl_bs hg
  obtain ⟨a, c, e1⟩ := h1.form
  obtain ⟨a2, c2, e2⟩ := h2.form
  rw [nums_len] at e1 e2
  subst e1 e2
  obtain ⟨A', r⟩ := order_walk (call := callD Tryd.bk (TBk TA) 1048600) (TBk_fns (base := TA) (fun _ => rfl) _) (codeB_ok _) (fun b1 b2 hs hl => callD_of (TB_free (.inl rfl) _ _) (fn := Tryd.f38) rfl (rises_walk 1048599 b1 b2 hs (by omega) (by omega))) 1048600 hA h1 h2 hn hn2 (by omega)
  exact ⟨1048601, A', callD_of (TB_free (.inr rfl) _ _) (fn := Tryd.f6) rfl r⟩
end Go.Dn.Bl
end

section
/-
  arguments that are lists of numbers
-/
namespace Go.Dn.Bl
open Go.Proofs Go.Dn.Ln
theorem nums_back : ∀ {us : List Value}, (∀ (j : Nat) x, us[j]? = some x → ∃ n, x = .int .u32 n) → ∃ ids, us = nums ids
  | [], _ => ⟨[], rfl⟩
  | u :: us, h => by
    obtain ⟨n, rfl⟩ := h 0 u rfl
    obtain ⟨ids, rfl⟩ := nums_back (us := us) fun j x hx => h (j + 1) x (by simpa using hx)
    exact ⟨n :: ids, rfl⟩
theorem nums_arg {H : Type} {A : Hp} {d : DataW H} {u : Value} (h : ArgR Tryd.bk.E.T A 49 d [u]) : ∃ ids, ArgSl 27 1 A u (nums ids) ids.length ∧ (ids.length = 0 ∨ ∃ els sp, d = .slice els sp ∧ els.length = ids.length) := by
  obtain ⟨w1, css, els, z1, y1, y2, y3, y4, y5, _⟩ := h.sl (i := Go.Dn.Tryd.ti49) (j := Go.Dn.Tryd.ti27) rfl rfl rfl
  cases z1
  have hj : (Go.Dn.Tryd.ti27).size = 1 := rfl
  rw [hj] at y1 y5
  have hfl := Go.Dn.flat_len css 1 y5
  obtain ⟨ids, hid⟩ := nums_back (us := css.flatten) fun j x hx => let ⟨n, e, _⟩ := ints_of (i := Go.Dn.Tryd.ti27) rfl rfl y2 y4 y5 j x hx; ⟨n, e⟩
  have hil : ids.length = css.length := by
    have := congrArg List.length hid
    rw [nums_len] at this
    omega
  rw [hid, ← hil] at y1
  refine ⟨ids, y1, ?_⟩
  rcases y3 with ⟨_, rfl⟩ | ⟨sp, rfl⟩
  · left; rw [hil, ← y2]; rfl
  · exact .inr ⟨els, sp, rfl, by omega⟩
end Go.Dn.Bl
end

section
/-
  listed variables: sentinels and tables of plain data, mixed
-/
namespace Go.Dn
open Go.ChangeShapes

/-- a row of parts, one behind the other -/
def rdFields (P : Program) (rd : TypeId → DataW Unit → Option (List Value)) : List Field → List (DataW Unit) → Nat → Option (List Value)
  | [], [], _ => some []
  | f :: fs, d :: ds, o => if f.offset = o then (rd f.type d).bind fun c => if c.length = P.cellsOf f.type then (rdFields P rd fs ds (o + c.length)).map fun r => c ++ r else none else none
  | _, _, _ => none
def rdElems (rd : DataW Unit → Option (List Value)) (sz : Nat) : List (DataW Unit) → Option (List Value)
  | [] => some []
  | d :: ds => (rd d).bind fun c => if c.length = sz then (rdElems rd sz ds).map fun r => c ++ r else none
/-- the cells of plain data of a type -/
def rdw (P : Program) : Nat → TypeId → DataW Unit → Option (List Value)
  | 0, _, _ => none
  | n + 1, t, d => match P.underlying t, d with
    | some .bool, .lit (.bool b) => some [.bool b]
    | some (.int k), .lit (.int k' m) => if k' = k then some [.int k m] else none
    | some (.struct fs), .agg ds => (rdFields P (rdw P n) fs.toList ds 0).bind fun c => if c.length = P.cellsOf t then some c else none
    | some (.array m e), .agg ds => (rdElems (rdw P n e) (P.cellsOf e) ds).bind fun c => if c.length = P.cellsOf t ∧ ds.length = m then some c else none
    | _, _ => none

theorem mapM_nil_of {α β : Type} {f : α → Option β} {xs : List β} (h : ([] : List α).mapM f = some xs) : xs = [] := by
  simp at h; exact h
theorem mapM_cons_of {α β : Type} {f : α → Option β} {a : α} {l : List α} {xs : List β} (h : (a :: l).mapM f = some xs) : ∃ y ys, f a = some y ∧ l.mapM f = some ys ∧ xs = y :: ys := by
  rw [List.mapM_cons] at h
  cases h1 : f a with
  | none => rw [h1] at h; cases h
  | some y =>
    rw [h1] at h
    cases h2 : l.mapM f with
    | none => rw [h2] at h; cases h
    | some ys => rw [h2] at h; cases h; exact ⟨y, ys, rfl, rfl, rfl⟩

theorem fields_of {P : Program} {rd : TypeId → DataW Unit → Option (List Value)} {tr : TypeId → List Value → Option (DataW Unit × List MemPlace)}
    (ih : ∀ t seg d p c, tr t seg = some (d, p) → rd t d = some c → seg = c ∧ p = []) (cs : List Value) :
    ∀ (fs : List Field) (xs : List (DataW Unit × List MemPlace)) (o : Nat) (c : List Value), fs.mapM (fun f => tr f.type ((cs.drop f.offset).take (P.cellsOf f.type))) = some xs → rdFields P rd fs (xs.map (·.1)) o = some c →
      (cs.drop o).take c.length = c ∧ xs.flatMap (·.2) = []
  | [], xs, o, c, h, hr => by
    obtain rfl := mapM_nil_of h
    simp [rdFields] at hr
    subst hr
    simp
  | f :: fs, xs, o, c, h, hr => by
    obtain ⟨⟨d, p⟩, ys, h1, h2, rfl⟩ := mapM_cons_of h
    simp only [List.map_cons, rdFields] at hr
    split at hr
    · rename_i ho
      subst ho
      cases h3 : rd f.type d with
      | none => rw [h3] at hr; cases hr
      | some c1 =>
        rw [h3] at hr
        simp only [Option.bind_some] at hr
        split at hr
        · rename_i hl
          cases h4 : rdFields P rd fs (ys.map (·.1)) (f.offset + c1.length) with
          | none => rw [h4] at hr; cases hr
          | some c2 =>
            rw [h4] at hr
            cases hr
            obtain ⟨e1, e2⟩ := ih _ _ _ _ _ h1 h3
            obtain ⟨e3, e4⟩ := fields_of ih cs fs ys (f.offset + c1.length) c2 h2 h4
            subst e2
            refine ⟨?_, by simpa using e4⟩
            rw [← hl] at e1
            rw [List.length_append, List.take_add, e1, List.drop_drop, e3]
        · cases hr
    · cases hr

theorem elems_of {rd : DataW Unit → Option (List Value)} {tr : List Value → Option (DataW Unit × List MemPlace)} {sz : Nat}
    (ih : ∀ seg d p c, tr seg = some (d, p) → rd d = some c → seg = c ∧ p = []) (cs : List Value) :
    ∀ (n o : Nat) (xs : List (DataW Unit × List MemPlace)) (c : List Value), (List.range' o n).mapM (fun i => tr ((cs.drop (i * sz)).take sz)) = some xs → rdElems rd sz (xs.map (·.1)) = some c →
      (cs.drop (o * sz)).take c.length = c ∧ xs.flatMap (·.2) = []
  | 0, o, xs, c, h, hr => by
    obtain rfl := mapM_nil_of h
    simp [rdElems] at hr
    subst hr
    simp
  | n + 1, o, xs, c, h, hr => by
    rw [List.range'_succ] at h
    obtain ⟨⟨d, p⟩, ys, h1, h2, rfl⟩ := mapM_cons_of h
    simp only [List.map_cons, rdElems] at hr
    cases h3 : rd d with
    | none => rw [h3] at hr; cases hr
    | some c1 =>
      rw [h3] at hr
      simp only [Option.bind_some] at hr
      split at hr
      · rename_i hl
        cases h4 : rdElems rd sz (ys.map (·.1)) with
        | none => rw [h4] at hr; cases hr
        | some c2 =>
          rw [h4] at hr
          cases hr
          obtain ⟨e1, e2⟩ := ih _ _ _ _ h1 h3
          obtain ⟨e3, e4⟩ := elems_of ih cs n (o + 1) ys c2 h2 h4
          subst e2
          refine ⟨?_, by simpa using e4⟩
          have e5 : (cs.drop (o * sz)).drop c1.length = cs.drop ((o + 1) * sz) := by
            rw [List.drop_drop, hl, Nat.add_mul, Nat.one_mul]
          have e6 : (cs.drop (o * sz)).take c1.length = c1 := by rw [hl]; exact e1
          rw [List.length_append, List.take_add, e6, e5, e3]
      · cases hr

theorem rdw_of {P : Program} {w : World} {base : Nat} {spare : Nat → Bool} : ∀ (n fuel : Nat) (t : TypeId) (cs : List Value) (d : DataW Unit) (p : List MemPlace) (c : List Value),
    DataW.trod (fun _ => ()) P w base spare false fuel t cs = some (d, p) → rdw P n t d = some c → cs = c ∧ p = []
  | 0, _, _, _, _, _, _, _, h => by cases h
  | n + 1, 0, _, _, _, _, _, h, _ => by cases h
  | n + 1, fuel + 1, t, cs, d, p, c, h, hr => by
    have ih := fun t seg d p c => rdw_of (P := P) (w := w) (base := base) (spare := spare) n fuel t seg d p c
    unfold rdw at hr
    split at hr
    · rename_i hu
      cases hr
      unfold DataW.trod at h
      rw [hu] at h
      split at h <;> simp_all
    · rename_i k k' m hu
      split at hr
      · rename_i hk
        subst hk
        cases hr
        unfold DataW.trod at h
        rw [hu] at h
        split at h <;> simp_all
      · cases hr
    · rename_i fs ds hu
      cases h1 : rdFields P (rdw P n) fs.toList ds 0 with
      | none => rw [h1] at hr; cases hr
      | some c1 =>
        rw [h1] at hr
        simp only [Option.bind_some] at hr
        split at hr
        · rename_i hl
          cases hr
          unfold DataW.trod at h
          rw [hu] at h
          simp only at h
          split at h
          · rename_i hcl
            cases h2 : fs.toList.mapM (fun f => DataW.trod (fun _ => ()) P w base spare false fuel f.type ((cs.drop f.offset).take (P.cellsOf f.type))) with
            | none => rw [h2] at h; cases h
            | some xs =>
              rw [h2] at h
              simp only [Option.map_some, Option.some.injEq, Prod.mk.injEq, DataW.agg.injEq] at h
              obtain ⟨h3, h4⟩ := h
              subst h3
              obtain ⟨e1, e2⟩ := fields_of (P := P) ih cs _ xs 0 _ h2 h1
              refine ⟨?_, by rw [← h4]; exact e2⟩
              rw [List.drop_zero, List.take_of_length_le (by omega)] at e1
              exact e1
          · cases h
        · cases hr
    · rename_i m e ds hu
      cases h1 : rdElems (rdw P n e) (P.cellsOf e) ds with
      | none => rw [h1] at hr; cases hr
      | some c1 =>
        rw [h1] at hr
        simp only [Option.bind_some] at hr
        split at hr
        · rename_i hl
          cases hr
          unfold DataW.trod at h
          rw [hu] at h
          simp only at h
          split at h
          · rename_i hcl
            rw [List.range_eq_range'] at h
            cases h2 : (List.range' 0 m).mapM (fun i => DataW.trod (fun _ => ()) P w base spare false fuel e ((cs.drop (i * P.cellsOf e)).take (P.cellsOf e))) with
            | none => rw [h2] at h; cases h
            | some xs =>
              rw [h2] at h
              simp only [Option.map_some, Option.some.injEq, Prod.mk.injEq, DataW.agg.injEq] at h
              obtain ⟨h3, h4⟩ := h
              subst h3
              obtain ⟨e1, e2⟩ := elems_of (ih e) cs m 0 xs _ h2 h1
              refine ⟨?_, by rw [← h4]; exact e2⟩
              rw [Nat.zero_mul, List.drop_zero, List.take_of_length_le (by omega)] at e1
              exact e1
          · cases h
        · cases hr
    · cases hr

/-- a table's variable -/
def TabVar (P : Program) (w : World) (n : String) (g : Nat) (cs : List Value) : Prop :=
  P.globalNamed n = some g ∧ ∃ T fz, w.heap[g]? = some (.cells cs.toArray T fz)

theorem laid_mix {P : Program} {w : World} {te tp ts : TypeId} (hE : ErrT P te tp ts) : ∀ (L : List (String × DataW Unit)) (ps : List MemPlace),
    (∀ x ∈ L, (isErr x.2 = true ∧ ∃ g, P.globalNamed x.1 = some g ∧ (P.globals[g]?).map (·.type) = some te) ∨ (isErr x.2 = false ∧ ∃ g t c, P.globalNamed x.1 = some g ∧ (P.globals[g]?).map (·.type) = some t ∧ rdw P 20 t x.2 = some c)) →
    DataW.LaidVars P w L ps → (∀ b off, MemPlace.cell b off ∈ ps → ∀ u v, w.cell? ⟨b, off, none⟩ = some (.iface u v) → Value.okWide P w .any 0 u v) →
    ∃ ads : List (Nat × Addr), ads.length = (L.filter fun x => isErr x.2).length ∧ (errPlaces ads).Sublist ps ∧ (∀ (k : Nat) x y, (L.filter fun x => isErr x.2)[k]? = some x → ads[k]? = some y → ErrVar P w tp x.1 y.1 y.2) ∧
      ∀ x ∈ L, isErr x.2 = false → ∃ g t c, (P.globals[g]?).map (·.type) = some t ∧ rdw P 20 t x.2 = some c ∧ TabVar P w x.1 g c
  | [], ps, _, h, _ => ⟨[], rfl, List.nil_sublist _, by simp, by simp⟩
  | x :: L, ps, hl, h, hok => by
    obtain ⟨n, d⟩ := x
    have hh := h
    obtain ⟨g, t, cs, fuel, p, q, h1, h2, h3, h4, h5, rfl⟩ := h
    obtain ⟨ads, r1, r2, r3, r4⟩ := laid_mix hE L q (fun y hy => hl y (by simp [hy])) h5 (fun b off hb => hok b off (by simp [hb]))
    rcases hl (n, d) (by simp) with ⟨e1, g', e2, e3⟩ | ⟨e1, g', t', c, e2, e3, e4⟩
    · simp only at e1 e2
      have hone : DataW.LaidVars P w [(n, d)] (MemPlace.row ⟨g, 0, none⟩ cs.size ++ p ++ []) := ⟨g, t, cs, fuel, p, [], h1, h2, h3, h4, rfl, rfl⟩
      obtain ⟨as1, s1, s2, s3⟩ := laid_errs hE [(n, d)] _ (fun y hy => by simp only [List.mem_singleton] at hy; subst hy; exact ⟨e1, g', e2, e3⟩) hone (fun b off hb => hok b off (by simp at hb ⊢; rcases hb with hb | hb <;> simp [hb]))
      obtain ⟨a1, rfl⟩ : ∃ a, as1 = [a] := by
        match as1, s1 with
        | [a], _ => exact ⟨a, rfl⟩
      obtain ⟨ga, aa⟩ := a1
      refine ⟨(ga, aa) :: ads, by simp [e1, r1], ?_, fun k x y hk hy => ?_, fun x hx hxe => ?_⟩
      · have : errPlaces ((ga, aa) :: ads) = errPlaces [(ga, aa)] ++ errPlaces ads := by simp [errPlaces]
        rw [this, ← s2]
        simp only [List.append_nil]
        exact List.Sublist.append (List.Sublist.refl _) r2
      · rw [List.filter_cons, if_pos (by simpa using e1)] at hk
        cases k with
        | zero =>
          simp at hk hy
          subst hk; subst hy
          exact s3 0 _ _ rfl rfl
        | succ k => exact r3 k x y (by simpa using hk) (by simpa using hy)
      · rcases List.mem_cons.1 hx with rfl | hx
        · simp only at hxe; rw [e1] at hxe; cases hxe
        · exact r4 x hx hxe
    · simp only at e1 e2 e4
      rw [h1] at e2; cases e2
      rw [h2] at e3; cases e3
      obtain ⟨k1, k2⟩ := rdw_of 20 fuel t cs.toList d p c h4 e4
      refine ⟨ads, by simp [e1, r1], List.Sublist.trans r2 (List.sublist_append_right _ _), fun k x y hk hy => ?_, fun x hx hxe => ?_⟩
      · rw [List.filter_cons, if_neg (by simp [e1])] at hk
        exact r3 k x y hk hy
      · rcases List.mem_cons.1 hx with rfl | hx
        · refine ⟨g, t, c, h2, e4, h1, ?_⟩
          unfold World.var? at h3
          rw [h1] at h3
          simp only [Option.bind_some] at h3
          split at h3
          · rename_i c' T fz hh
            cases h3
            exact ⟨T, fz, by rw [hh, ← k1, Array.toArray_toList]⟩
          · cases h3
        · exact r4 x hx hxe
end Go.Dn
end

section
namespace Go.Dn.Ln
open Go.Proofs Go.ChangeShapes
set_option maxRecDepth 100000

/-! ## what the rows' lists give -/
theorem star : "*" ++ "errors.errorString" = "*errors.errorString" := by decide
theorem errT : ErrT Tryd.prog 31 206 230 :=
  ⟨⟨_, Tryd.underlying31⟩, fun u h => typeName_ptr_named (nm := "errors.errorString") (by rw [star]; kernel_rfl) (by kernel_rfl) (by decide) u (by rw [star]; exact h), Tryd.underlying206,
    ⟨_, _, Tryd.underlying230, rfl, rfl, Tryd.underlying9, by kernel_rfl, by kernel_rfl⟩⟩

/-- the rows of the globals, as the program begins -/
theorem rows : (List.range 44).map (fun g => (((begin Tryd.prog (fun _ _ => 0) default).world.heap[g]?).bind Obj.row?).map (fun x => x.2)) = (List.range 44).map (fun g => (Tryd.prog.globals[g]?).map (·.type)) := by kernel_rfl
theorem types : (List.range 44).all (fun g => ((Tryd.prog.globals[g]?).map (·.type)).isSome) = true := by kernel_rfl
theorem gsize : Tryd.prog.globals.size = 44 := Tryd.good.glob.symm

theorem hrow_of {W : World} (hS : W.ShapedOpen Tryd.prog) : ∀ g, g < 44 → ∃ c t, W.heap[g]? = some (.cells c t (0, 0)) ∧ (Tryd.prog.globals[g]?).map (·.type) = some t := by
  intro g hg
  have h1 := congrArg (fun l => l[g]?) rows
  simp only [List.getElem?_map, List.getElem?_range hg, Option.map_some, Option.some.injEq] at h1
  have h2 := List.all_eq_true.1 types g (List.mem_range.2 hg)
  cases ht : (Tryd.prog.globals[g]?).map (·.type) with
  | none => rw [ht] at h2; cases h2
  | some t =>
    rw [ht] at h1
    cases hb : ((begin Tryd.prog (fun _ _ => 0) default).world.heap[g]?).bind Obj.row? with
    | none => rw [hb] at h1; cases h1
    | some x =>
      obtain ⟨zero, t'⟩ := x
      rw [hb] at h1
      simp only [Option.map_some, Option.some.injEq] at h1
      subst h1
      obtain ⟨cs, k1, _⟩ := hS.1 g zero t' (by rw [gsize]; exact hg) hb
      exact ⟨cs, t', k1, rfl⟩

noncomputable def mixOk (L : List (String × DataW Unit)) : Bool := L.all fun x => match Tryd.prog.globalNamed x.1 with
  | some g => Nat.blt g 44 && bif isErr x.2 then decide ((Tryd.prog.globals[g]?).map (·.type) = some 31) else match (Tryd.prog.globals[g]?).map (·.type) with
    | some t => (rdw Tryd.prog 20 t x.2).isSome
    | none => false
  | none => false
noncomputable def coversE (L : List (String × DataW Unit)) (gs : List Nat) : Bool := gs.all fun g => L.any fun x => isErr x.2 && Tryd.prog.globalNamed x.1 == some g

/-- the beginning, for the laws that list sentinels and tables -/
theorem begin_rep (rep : Nat → Dat → Hp → Nat → Prop) {W : World} (hS : W.ShapedOpen Tryd.prog) {L : List (String × DataW Unit)} (hL : laidMet Tryd.prog L W) (h1 : mixOk L = true) {C : Hp} (hCn : C.next = 88)
    (hC : ∀ i o, C.get i = some o → (∃ x ∈ L, isErr x.2 = true ∧ Tryd.prog.globalNamed x.1 = some i ∧ o = er i) ∨
      (∃ x ∈ L, isErr x.2 = false ∧ Tryd.prog.globalNamed x.1 = some i ∧ ∃ t c, (Tryd.prog.globals[i]?).map (·.type) = some t ∧ rdw Tryd.prog 20 t x.2 = some c ∧ o = .arr t c .ro ∧ ∀ u ∈ c, plain0 u = true)) :
    ∃ R : Reps, R.C = C ∧ R.rep = rep ∧ Rel Tryd.prog R.ρC C W ∧ (∀ i p, i < C.next → R.ρC i = some p → p.blk < W.heap.size) ∧ ConW Tryd.prog W := by
  obtain ⟨ps, hl, hn, hp⟩ := hL
  have hchk : ∀ x ∈ L, ∃ g, Tryd.prog.globalNamed x.1 = some g ∧ g < 44 ∧ ((isErr x.2 = true ∧ (Tryd.prog.globals[g]?).map (·.type) = some 31) ∨ (isErr x.2 = false ∧ ∃ t c, (Tryd.prog.globals[g]?).map (·.type) = some t ∧ rdw Tryd.prog 20 t x.2 = some c)) := by
    intro x hx
    have := List.all_eq_true.1 h1 x hx
    cases hg : Tryd.prog.globalNamed x.1 with
    | none => rw [hg] at this; cases this
    | some g =>
      rw [hg] at this
      simp only [Bool.and_eq_true, Nat.blt_eq] at this
      obtain ⟨k1, k2⟩ := this
      refine ⟨g, rfl, k1, ?_⟩
      cases he : isErr x.2 with
      | true => rw [he] at k2; exact .inl ⟨rfl, by simpa using k2⟩
      | false =>
        rw [he] at k2
        simp only [cond_false] at k2
        cases ht : (Tryd.prog.globals[g]?).map (·.type) with
        | none => rw [ht] at k2; cases k2
        | some t =>
          rw [ht] at k2
          simp only at k2
          obtain ⟨c, hc⟩ := Option.isSome_iff_exists.1 k2
          exact .inr ⟨rfl, t, c, rfl, hc⟩
  obtain ⟨ads, e1, e2, e3, e4⟩ := laid_mix errT L ps (fun x hx => by
    obtain ⟨g, b1, b2, b3⟩ := hchk x hx
    rcases b3 with ⟨c1, c2⟩ | ⟨c1, t, c, c2, c3⟩
    · exact .inl ⟨c1, g, b1, c2⟩
    · exact .inr ⟨c1, g, t, c, b1, c2, c3⟩) hl (fun b off hb => (hp b off hb).2)
  have hn' : (errPlaces ads).Nodup := hn.sublist e2
  have hE : ∀ x ∈ ads, ∃ y ∈ L.filter (fun x => isErr x.2), ErrVar Tryd.prog W 206 y.1 x.1 x.2 := by
    intro x hx
    obtain ⟨k, hk⟩ := List.getElem?_of_mem hx
    have hkl : k < (L.filter fun x => isErr x.2).length := by rw [← e1]; exact (List.getElem?_eq_some_iff.1 hk).1
    exact ⟨_, List.getElem_mem hkl, e3 k _ x (List.getElem?_eq_getElem hkl) hk⟩
  have key := consts_start (P := Tryd.prog) (W := W) (te := 31) (tp := 206) gsize ads hn' (hrow_of hS) (fun x hx => by
    obtain ⟨y, hy, q1, q2, q3, _⟩ := hE x hx
    obtain ⟨hyL, hye⟩ := List.mem_filter.1 hy
    obtain ⟨g, r1, r2, r3⟩ := hchk y hyL
    rw [q1] at r1; cases r1
    rcases r3 with ⟨_, r4⟩ | ⟨r4, _⟩
    · exact ⟨r2, r4, q2, q3, (hp _ _ (e2.subset (errPlaces_mem hx).2)).1⟩
    · rw [r4] at hye; cases hye) C hCn (fun i o hi => by
    rcases hC i o hi with ⟨y, hy, q0, q1, rfl⟩ | ⟨y, hy, q0, q1, t, c, q2, q3, rfl, q4⟩
    · left
      have hyf : y ∈ L.filter fun x => isErr x.2 := List.mem_filter.2 ⟨hy, q0⟩
      obtain ⟨k, hk⟩ := List.getElem?_of_mem hyf
      have hkl : k < ads.length := by rw [e1]; exact (List.getElem?_eq_some_iff.1 hk).1
      have := e3 k y ads[k] hk (List.getElem?_eq_getElem hkl)
      have h0 := this.1
      rw [q1] at h0
      refine ⟨ads[k].2, ?_, rfl⟩
      have : ads[k] = (i, ads[k].2) := by rw [Option.some.inj h0]
      rw [← this]; exact List.getElem_mem hkl
    · right
      obtain ⟨g, t', c', r1, r2, r3, T, fz, r4⟩ := e4 y hy q0
      rw [q1] at r3; cases r3
      rw [q2] at r1; cases r1
      rw [q3] at r2; cases r2
      obtain ⟨g', b1, b2, _⟩ := hchk y hy
      rw [q1] at b1; cases b1
      obtain ⟨c0, t0, s1, s2⟩ := hrow_of hS i b2
      rw [q2] at s2; cases s2
      rw [s1] at r4; cases r4
      exact ⟨t, c, b2, rfl, q2, q4, (0, 0), s1⟩)
  obtain ⟨c1, c2, c3, c4, c5⟩ := key
  let R : Reps := { rep := rep, C := C, ρC := fun i => if i < 44 + 44 then placeC 44 C ads i else none, Cro := c1, Cpl := c2 }
  exact ⟨R, rfl, rfl, c3, c4, c5 (R := R) rfl rfl⟩

/-! ## a world for the witness -/
noncomputable def lowT : Nat := (World.holding Tryd.prog default ⟨#[], #[], []⟩).heap.size
def textOf : DataW Unit → ByteArray
  | .iface _ (.ptr (.agg [.lit (.string s)])) => ⟨s.toArray⟩
  | _ => .empty
noncomputable def setErr (h : Array Obj) (g k : Nat) : Array Obj := h.modify g fun
  | .cells _ t fr => .cells #[.iface 206 (.pointer (some ⟨lowT + k, 0, none⟩))] t fr
  | o => o
noncomputable def setTab (h : Array Obj) (g : Nat) (c : List Value) : Array Obj := h.modify g fun
  | .cells _ t fr => .cells c.toArray t fr
  | o => o
noncomputable def tabOf (g : Nat) (d : DataW Unit) : List Value := (((Tryd.prog.globals[g]?).map (·.type)).bind fun t => rdw Tryd.prog 20 t d).getD []
noncomputable def setErrs (L : List (String × DataW Unit)) (k : Nat) (h : Array Obj) : Array Obj := match L with
  | [] => h
  | x :: l => setErrs l (k + 1) (match Tryd.prog.globalNamed x.1 with
    | some g => bif isErr x.2 then setErr h g k else setTab h g (tabOf g x.2)
    | none => h)
noncomputable def laidWorld (L : List (String × DataW Unit)) (os : Os) : World :=
  { World.holding Tryd.prog os ⟨(L.map fun x => Obj.cells #[.string (textOf x.2)] 230).toArray, #[], []⟩ with
    heap := setErrs L 0 (World.holding Tryd.prog os ⟨(L.map fun x => Obj.cells #[.string (textOf x.2)] 230).toArray, #[], []⟩).heap }

end Go.Dn.Ln

namespace Go.Proofs.YtombnpednnngoaaDoor.bulks
theorem one_le {H : Type} (d : DataW H) : 1 ≤ Rows.uptoBulk d := by
  cases d with
  | lit l => cases l <;> simp [Rows.uptoBulk]
  | nil => simp [Rows.uptoBulk]
  | ptr d => simp [Rows.uptoBulk]
  | slice elems spare => simp [Rows.uptoBulk]
  | agg parts => simp [Rows.uptoBulk]
  | iface t d => simp [Rows.uptoBulk]
  | map entries => simp [Rows.uptoBulk]
  | held h => simp [Rows.uptoBulk]

/-- a part's bulk is at most the whole's -/
theorem part_le {H : Type} {d : DataW H} {l : List (DataW H)} (h : d ∈ l) : Rows.uptoBulk d ≤ Rows.uptoBulkAll l := by
  induction l with
  | nil => cases h
  | cons x r ih =>
    simp only [Rows.uptoBulkAll]
    cases List.mem_cons.1 h with
    | inl e => subst e; omega
    | inr e => have := ih e; omega

theorem append {H : Type} (l r : List (DataW H)) : Rows.uptoBulkAll (l ++ r) = Rows.uptoBulkAll l + Rows.uptoBulkAll r := by
  induction l with
  | nil => simp [Rows.uptoBulkAll]
  | cons x l ih => simp only [List.cons_append, Rows.uptoBulkAll, ih]; omega

/-- so many values at the most -/
theorem length_le {H : Type} (l : List (DataW H)) : l.length ≤ Rows.uptoBulkAll l := by
  induction l with
  | nil => simp [Rows.uptoBulkAll]
  | cons x r ih => have := one_le x; simp only [Rows.uptoBulkAll, List.length_cons]; omega

/-- a slice's places, and what they hold -/
theorem slice_le {H : Type} (elems spare : List (DataW H)) : elems.length + spare.length + 1 ≤ Rows.uptoBulk (.slice elems spare) := by
  have h1 := length_le elems
  have h2 := length_le spare
  simp only [Rows.uptoBulk]
  omega
theorem slice_elems {H : Type} (elems spare : List (DataW H)) : Rows.uptoBulkAll elems + 1 ≤ Rows.uptoBulk (.slice elems spare) := by
  simp only [Rows.uptoBulk]
  omega

/-- a string's letters -/
theorem string_eq {H : Type} (bytes : List UInt8) : Rows.uptoBulk (DataW.lit (H := H) (.string bytes)) = bytes.length + 1 := by
  simp [Rows.uptoBulk]

/-- THE BOUND, as the builder hands it over ('hk') -/
theorem bound {H : Type} {l : List (DataW H)} (hk : Rows.uptoSmall H l = true) : Rows.uptoBulkAll l ≤ 1048576 := of_decide_eq_true hk


end Go.Proofs.YtombnpednnngoaaDoor.bulks
end

section
/-
  the closed facts of the seat's program that every row of it asks: each by itself, since together they ask for more than ten gigabytes
-/
namespace Go.Proofs.YtombnpednnngoaaDoor
open Go.ChangeShapes Go.Dn Go.Dn.Ln
set_option maxRecDepth 100000
theorem jLaid : laidOutB Tryd.pinned.checked.prog = true := by kernel_rfl
theorem jMaps : mapsRowed Tryd.pinned.checked.prog = true := by kernel_rfl
theorem jHeard : Program.stopsHeard Tryd.pinned.checked.prog = true := by kernel_rfl
theorem jEnter : Program.mayEnter Tryd.pinned.checked.prog = true := by kernel_rfl
theorem jKeys : Program.plainKeys Tryd.pinned.checked.prog = false := by kernel_rfl
theorem jLifts : Program.liftsFinal Tryd.pinned.checked.prog = false := by kernel_rfl
theorem jMake : Program.make Tryd.pinned.checked.prog = some Rows.laneDrainsUptoRow.make := by kernel_rfl
end Go.Proofs.YtombnpednnngoaaDoor
end
