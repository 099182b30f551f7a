/-
  Part of the abstract machine for this program.
-/
import Derived.Test.YtombnpednnngoaaDoorPI

section
/-
  BacklogOrder: the whole
-/
namespace Go.Dn.Bl
open Go.Proofs Go.Dn.Ln
set_option maxHeartbeats 4000000
set_option maxRecDepth 100000

/-! ## plain -/
def putsL : List Int → List Int → List Int
  | l, [] => l
  | l, x :: ids => putsL (ordP l x) ids
def remsL : List Int → List Int → List Int
  | l, [] => l
  | l, x :: g => remsL (stayL (· == x) l) g
theorem ordP_cases (l : List Int) (x : Int) : ordP l x = l ∨ (ordP l x = l ++ [x] ∧ l.any (· == x) = false ∧ l.length < 1024) := by
  unfold ordP putB
  split
  · exact .inl rfl
  · rename_i h
    unfold putF
    split
    · exact .inl rfl
    · rename_i h2
      exact .inr ⟨rfl, Bool.eq_false_iff.2 h, by omega⟩
theorem ordP_ok {l : List Int} (x : Int) (h : BX.ok ⟨1024, l⟩) (hn : l.Nodup) : BX.ok ⟨1024, ordP l x⟩ ∧ (ordP l x).Nodup := by
  rcases ordP_cases l x with e | ⟨e, h1, h2⟩
  · rw [e]; exact ⟨h, hn⟩
  · rw [e]
    refine ⟨⟨by simp only [List.length_append, List.length_singleton]; omega, h.2⟩, ?_⟩
    refine List.nodup_append.2 ⟨hn, by simp, fun a ha b hb => ?_⟩
    simp only [List.mem_singleton] at hb
    subst hb
    rintro rfl
    have := List.any_eq_false.1 h1 a ha
    simp at this
theorem putsL_sub : ∀ (ids l pre : List Int), l.Sublist pre → (putsL l ids).Sublist (pre ++ ids)
  | [], _, _, h => by rw [List.append_nil]; exact h
  | x :: ids, l, pre, h => by
    have h1 : (ordP l x).Sublist (pre ++ [x]) := by
      rcases ordP_cases l x with e | ⟨e, _⟩
      · rw [e]; exact h.trans (List.sublist_append_left _ _)
      · rw [e]; exact h.append (List.Sublist.refl _)
    have := putsL_sub ids (ordP l x) (pre ++ [x]) h1
    rw [List.append_assoc] at this
    exact this
theorem putsL_ok : ∀ (ids l : List Int), BX.ok ⟨1024, l⟩ → l.Nodup → BX.ok ⟨1024, putsL l ids⟩ ∧ (putsL l ids).Nodup
  | [], _, h, hn => ⟨h, hn⟩
  | x :: ids, _, h, hn => putsL_ok ids _ (ordP_ok x h hn).1 (ordP_ok x h hn).2
theorem remsL_sub : ∀ (g l : List Int), (remsL l g).Sublist l
  | [], _ => List.Sublist.refl _
  | _ :: g, _ => (remsL_sub g _).trans List.filter_sublist
theorem putsL_snoc (l : List Int) : ∀ (ids : List Int) (x : Int), putsL l (ids ++ [x]) = ordP (putsL l ids) x := by
  intro ids
  induction ids generalizing l with
  | nil => intro x; rfl
  | cons y ids ih => intro x; exact ih (ordP l y) x
theorem remsL_snoc (l : List Int) : ∀ (ids : List Int) (x : Int), remsL l (ids ++ [x]) = stayL (· == x) (remsL l ids) := by
  intro ids
  induction ids generalizing l with
  | nil => intro x; rfl
  | cons y ids ih => intro x; exact ih (stayL (· == y) l) x
theorem sub_ok {l m : List Int} (h : l.Sublist m) (hok : BX.ok ⟨1024, m⟩) (hn : m.Nodup) : BX.ok ⟨1024, l⟩ ∧ l.Nodup :=
  ⟨⟨Nat.le_trans h.length_le hok.1, hok.2⟩, hn.sublist h⟩

section
attribute [local irreducible] Hp.get Hp.set Hp.push dappend dcopy dstore cellsAt callD loopD

theorem QB.bs {A0 : Hp} {P : Nat} {x : BX} {B : Hp} (h : QB A0 P x B) (hw : A0.wf) (hP : ∃ y, A0.get P = some (bo y)) {v : Value} {us : List Value} (hv : BsAt A0 v us) : BsAt B v us := by
  cases hv with
  | nil c hc => exact .nil c hc
  | «at» i o n c T cs _ md hg hl hu hc => exact .at i o n c T cs us md (h.arg hw (.inr hP) hg) hl hu hc

theorem ord_loop1 {call : CallT} (h : BFns call) (hc : CodeB call) (lf : Nat) {A0 : Hp} (hw : A0.wf) {P : Nat} (hP : A0.get P = some (bo ⟨1024, []⟩)) {a : Option Addr} {c : Nat} {ids : List Int} (hv : BsAt A0 (.slice a ids.length c) (nums ids)) (G : Value)
    (hn : ids.length ≤ 100000000) (hlf : ids.length + 1 < lf) :
    ∃ B J, loopD (some [0, 1, 4, 5, 7, 8]) (exec Tryd.bk.E call Tryd.f6.ntmps (Tryd.bk.inf 6) lf (loopOf Tryd.f6 0)) lf [(0, .slice a ids.length c), (1, G), (4, .bool false), (5, ptr P), (7, .int .i64 ((0 : Nat) : Int)), (8, .int .i64 ((0 : Nat) : Int))] A0 =
      some (.exit 0, [(0, .slice a ids.length c), (1, G), (4, .bool false), (5, ptr P), (7, .int .i64 ((putsL [] ids).length : Nat)), (8, J)], B) ∧ QB A0 P ⟨1024, putsL [] ids⟩ B := by
  have ok0 : BX.ok ⟨1024, []⟩ := ⟨by simp, by show (1 : Int) ≤ 1024; decide, by show (1024 : Int) ≤ 1024; decide⟩
  have key := loop_rule (ks := some [0, 1, 4, 5, 7, 8]) (f := exec Tryd.bk.E call Tryd.f6.ntmps (Tryd.bk.inf 6) lf (loopOf Tryd.f6 0)) (S := Nat × Nat)
    (fun s => [(0, .slice a ids.length c), (1, G), (4, .bool false), (5, ptr P), (7, .int .i64 (s.2 : Nat)), (8, .int .i64 (s.1 : Nat))])
    (fun s B => s.1 ≤ ids.length ∧ s.2 = (putsL [] (ids.take s.1)).length ∧ QB A0 P ⟨1024, putsL [] (ids.take s.1)⟩ B) (fun s => ids.length - s.1)
    (fun e σ B => e = .exit 0 ∧ QB A0 P ⟨1024, putsL [] ids⟩ B ∧ ∃ J, σ = [(0, .slice a ids.length c), (1, G), (4, .bool false), (5, ptr P), (7, .int .i64 ((putsL [] ids).length : Nat)), (8, J)]) (fun s B hs => ?step)
    lf (0, 0) A0 ⟨Nat.zero_le _, rfl, hw, Nat.le_refl _, hP, fun _ _ _ => rfl⟩ (by simp only; omega)
  case step =>
    obtain ⟨i, m⟩ := s
    obtain ⟨z1, z2, z3⟩ := hs
    simp only at z1 z2 z3 ⊢
    subst z2
    by_cases hi : i < ids.length
    · have hx : ids[i]? = some ids[i] := List.getElem?_eq_getElem hi
      have htk : ids.take (i + 1) = ids.take i ++ [ids[i]] := take_succ' hx
      obtain ⟨k1, k2⟩ := putsL_ok (ids.take i) [] ok0 List.nodup_nil
      obtain ⟨σ1, B1, r1, r2, r3⟩ := ord_op1 h hc lf hw ⟨_, hP⟩ hv G hn z3 k1 hx
      refine ⟨.normal, σ1, B1, r1, .inl ⟨rfl, (i + 1, (ordP (putsL [] (ids.take i)) ids[i]).length), r2, ⟨hi, ?_, ?_⟩, by simp only; omega⟩⟩
      · simp only; rw [htk, putsL_snoc]
      · rw [htk, putsL_snoc]; exact r3
    · obtain rfl : i = ids.length := by omega
      rw [List.take_of_length_le (Nat.le_refl _)] at z3 ⊢
      have e1 : ¬ ((ids.length : Nat) : Int) < ((ids.length : Nat) : Int) := by omega
      refine ⟨.exit 0, ?s3, B, kexec_run ?run3, .inr ⟨by simp, rfl, z3, ?L3, ?kp3⟩⟩
      case run3 =>
        conv => lhs; whnf
        rw [kdecn e1]
      case kp3 => rfl
  obtain ⟨e, σ1, B, r1, rfl, q, J, rfl⟩ := key
  exact ⟨B, J, r1, q⟩

theorem ord_loop2 {call : CallT} (h : BFns call) (lf : Nat) {A0 : Hp} (hw : A0.wf) {P : Nat} (hP : ∃ y, A0.get P = some (bo y)) {a : Option Addr} {c : Nat} {ids : List Int} (hv : BsAt A0 (.slice a ids.length c) (nums ids)) (G : Value)
    (hn : ids.length ≤ 100000000) (hlf : ids.length + 1 < lf) {l : List Int} (hok : BX.ok ⟨1024, l⟩) (hnd : l.Nodup) {B0 : Hp} (hB : QB A0 P ⟨1024, l⟩ B0) :
    ∃ B J, loopD (some [0, 1, 4, 5, 7, 11]) (exec Tryd.bk.E call Tryd.f6.ntmps (Tryd.bk.inf 6) lf (loopOf Tryd.f6 1)) lf [(0, G), (1, .slice a ids.length c), (4, .bool false), (5, ptr P), (7, .int .i64 (l.length : Nat)), (11, .int .i64 ((0 : Nat) : Int))] B0 =
      some (.exit 3, [(0, G), (1, .slice a ids.length c), (4, .bool false), (5, ptr P), (7, .int .i64 ((remsL l ids).length : Nat)), (11, J)], B) ∧ QB A0 P ⟨1024, remsL l ids⟩ B := by
  have key := loop_rule (ks := some [0, 1, 4, 5, 7, 11]) (f := exec Tryd.bk.E call Tryd.f6.ntmps (Tryd.bk.inf 6) lf (loopOf Tryd.f6 1)) (S := Nat × Nat)
    (fun s => [(0, G), (1, .slice a ids.length c), (4, .bool false), (5, ptr P), (7, .int .i64 (s.2 : Nat)), (11, .int .i64 (s.1 : Nat))])
    (fun s B => s.1 ≤ ids.length ∧ s.2 = (remsL l (ids.take s.1)).length ∧ QB A0 P ⟨1024, remsL l (ids.take s.1)⟩ B) (fun s => ids.length - s.1)
    (fun e σ B => e = .exit 3 ∧ QB A0 P ⟨1024, remsL l ids⟩ B ∧ ∃ J, σ = [(0, G), (1, .slice a ids.length c), (4, .bool false), (5, ptr P), (7, .int .i64 ((remsL l ids).length : Nat)), (11, J)]) (fun s B hs => ?step)
    lf (0, l.length) B0 ⟨Nat.zero_le _, rfl, hB⟩ (by simp only; omega)
  case step =>
    obtain ⟨i, m⟩ := s
    obtain ⟨z1, z2, z3⟩ := hs
    simp only at z1 z2 z3 ⊢
    subst z2
    by_cases hi : i < ids.length
    · have hx : ids[i]? = some ids[i] := List.getElem?_eq_getElem hi
      have htk : ids.take (i + 1) = ids.take i ++ [ids[i]] := take_succ' hx
      obtain ⟨k1, k2⟩ := sub_ok (remsL_sub (ids.take i) l) hok hnd
      obtain ⟨σ1, B1, r1, r2, r3⟩ := ord_op2 h lf hw hP hv G hn z3 k1 k2 hx
      refine ⟨.normal, σ1, B1, r1, .inl ⟨rfl, (i + 1, (stayL (· == ids[i]) (remsL l (ids.take i))).length), r2, ⟨hi, ?_, ?_⟩, by simp only; omega⟩⟩
      · simp only; rw [htk, remsL_snoc]
      · rw [htk, remsL_snoc]; exact r3
    · obtain rfl : i = ids.length := by omega
      rw [List.take_of_length_le (Nat.le_refl _)] at z3 ⊢
      have e1 : ¬ ((ids.length : Nat) : Int) < ((ids.length : Nat) : Int) := by omega
      refine ⟨.exit 3, ?s3, B, kexec_run ?run3, .inr ⟨by simp, rfl, z3, ?L3, ?kp3⟩⟩
      case run3 =>
        conv => lhs; whnf
        rw [kdecn e1]
      case kp3 => rfl
  obtain ⟨e, σ1, B, r1, rfl, q, J, rfl⟩ := key
  exact ⟨B, J, r1, q⟩

theorem ord_loop3 {call : CallT} (h : BFns call) (lf : Nat) {A0 : Hp} (hw : A0.wf) {P : Nat} {a : Option Addr} {c : Nat} {L : List Int} (hP : A0.get P = some (bo ⟨1024, L⟩)) (hv : BsAt A0 (.slice a L.length c) (nums L)) (G : Value)
    (hn : L.length ≤ 1024) (hnd : L.Nodup) (hlf : L.length + 1 < lf) :
    ∃ B J, loopD (some [0, 4, 5, 7, 13, 14]) (exec Tryd.bk.E call Tryd.f6.ntmps (Tryd.bk.inf 6) lf (loopOf Tryd.f6 2)) lf [(0, G), (4, .bool false), (5, ptr P), (7, .int .i64 (L.length : Nat)), (13, .slice a L.length c), (14, .int .i64 ((0 : Nat) : Int))] A0 =
      some (.exit 5, [(0, G), (4, .bool false), (5, ptr P), (7, .int .i64 (L.length : Nat)), (13, .slice a L.length c), (14, J)], B) ∧ QB A0 P ⟨1024, []⟩ B := by
  have key := loop_rule (ks := some [0, 4, 5, 7, 13, 14]) (f := exec Tryd.bk.E call Tryd.f6.ntmps (Tryd.bk.inf 6) lf (loopOf Tryd.f6 2)) (S := Nat)
    (fun s => [(0, G), (4, .bool false), (5, ptr P), (7, .int .i64 (L.length : Nat)), (13, .slice a L.length c), (14, .int .i64 (s : Nat))])
    (fun s B => s ≤ L.length ∧ QB A0 P ⟨1024, L.drop s⟩ B) (fun s => L.length - s)
    (fun e σ B => e = .exit 5 ∧ QB A0 P ⟨1024, []⟩ B ∧ ∃ J, σ = [(0, G), (4, .bool false), (5, ptr P), (7, .int .i64 (L.length : Nat)), (13, .slice a L.length c), (14, J)]) (fun i B hs => ?step)
    lf 0 A0 ⟨Nat.zero_le _, hw, Nat.le_refl _, by rw [List.drop_zero]; exact hP, fun _ _ _ => rfl⟩ (by omega)
  case step =>
    obtain ⟨z1, z3⟩ := hs
    by_cases hi : i < L.length
    · have hx : L[i]? = some L[i] := List.getElem?_eq_getElem hi
      rw [List.drop_eq_getElem_cons hi] at z3
      obtain ⟨σ1, B1, r1, r2, r3⟩ := ord_op3 h lf hw ⟨_, hP⟩ hv G hn hnd z3 hx
      exact ⟨.normal, σ1, B1, r1, .inl ⟨rfl, i + 1, r2, ⟨hi, r3⟩, by omega⟩⟩
    · obtain rfl : i = L.length := by omega
      rw [List.drop_length] at z3
      have e1 : ¬ ((L.length : Nat) : Int) < ((L.length : Nat) : Int) := by omega
      refine ⟨.exit 5, ?s3, B, kexec_run ?run3, .inr ⟨by simp, rfl, z3, ?L3, ?kp3⟩⟩
      case run3 =>
        conv => lhs; whnf
        rw [kdecn e1]
      case kp3 => rfl
  obtain ⟨e, σ1, B, r1, rfl, q, J, rfl⟩ := key
  exact ⟨B, J, r1, q⟩

theorem bs_set {A : Hp} {v : Value} {us : List Value} (h : BsAt A v us) {P : Nat} {x : BX} (hP : A.get P = some (bo x)) (o : Option Ob) : BsAt (A.set P o) v us := by
  cases h with
  | nil c hc => exact .nil c hc
  | «at» i q n c T cs _ md hg hl hu hc =>
    refine .at i q n c T cs us md ?_ hl hu hc
    rw [Hp.get_set_ne _ _ (fun e => by subst e; rw [hP] at hg; cases hg)]
    exact hg

theorem list_at {A0 : Hp} {P : Nat} {L : List Int} {B : Hp} (hB : QB A0 P ⟨1024, L⟩ B) : ∃ a c, numsV B.next L = .slice a L.length c ∧ QB A0 P ⟨1024, L⟩ (pushL .own (B.set P (some (bo ⟨1024, L⟩))) (numsE L)) ∧ BsAt (pushL .own (B.set P (some (bo ⟨1024, L⟩))) (numsE L)) (.slice a L.length c) (nums L) := by
  have hB1 := hB.set ⟨1024, L⟩
  cases L with
  | nil => exact ⟨none, 0, rfl, hB1, .nil 0 (by omega)⟩
  | cons x l =>
    refine ⟨some ⟨B.next, 0, some 1⟩, 2 * (x :: l).length, rfl, ⟨hB1.wf.push _, by have := hB1.nx; rw [Hp.next_set] at this; show _ ≤ (Hp.push _ _).next; rw [Hp.next_push, Hp.next_set]; omega, ?_, fun j hj hP => ?_⟩, ?_⟩
    · show (Hp.push _ _).get P = _
      rw [Hp.get_push_ne _ _ (by have := hB.wf.lt hB.obj; rw [Hp.next_set]; omega)]
      exact hB1.obj
    · show (Hp.push _ _).get j = _
      rw [Hp.get_push_ne _ _ (by have := hB.nx; rw [Hp.next_set]; omega)]
      exact hB1.old j hj hP
    · refine .at B.next 0 _ _ 27 (nums (x :: l)) _ .own (show (Hp.push _ _).get B.next = _ from Hp.get_push_at _ (by rw [Hp.next_set])) (by rw [nums_len]; omega) ?_ (by omega)
      rw [List.drop_zero, List.take_of_length_le (by rw [nums_len]; omega)]

theorem order_walk {call : CallT} (h : BFns call) (hc : CodeB call) (hr : ∀ {A : Hp} {a a2 : Option Addr} {c c2 : Nat} {ids l : List Int}, BsAt A (.slice a ids.length c) (nums ids) → BsAt A (.slice a2 l.length c2) (nums l) → rsF ids l = [] → ids.length ≤ 1048576 →
      call 38 [.slice a ids.length c, .slice a2 l.length c2] A = some (.bool true, A))
    (lf : Nat) {A : Hp} (hw : A.wf) {a a2 : Option Addr} {c c2 : Nat} {ids gone : List Int} (hv : BsAt A (.slice a ids.length c) (nums ids)) (hg : BsAt A (.slice a2 gone.length c2) (nums gone)) (hn : ids.length ≤ 1048576) (hn2 : gone.length ≤ 1048576) (hlf : 1048576 + 3 < lf) :
    ∃ A', kfn Tryd.bk.E call (Tryd.bk.inf 6) lf Tryd.f6 [.slice a ids.length c, .slice a2 gone.length c2] A = some (.bool true, A') := by
  have hnew := h.new (BNewR.mk A 1024 (by decide) (by decide))
  let A1 : Hp := A.push (bo ⟨1024, []⟩)
  have hw1 : A1.wf := hw.push _
  have hP1 : A1.get A.next = some (bo ⟨1024, []⟩) := Hp.get_push_same _ _
  have hv1 : BsAt A1 (.slice a ids.length c) (nums ids) := hv.old hw fun i hi => Hp.get_push_ne _ _ (by omega)
  have hg1 : BsAt A1 (.slice a2 gone.length c2) (nums gone) := hg.old hw fun i hi => Hp.get_push_ne _ _ (by omega)
  have ok0 : BX.ok ⟨1024, []⟩ := ⟨by simp, by show (1 : Int) ≤ 1024; decide, by show (1024 : Int) ≤ 1024; decide⟩
  obtain ⟨B1, J1, l1, q1⟩ := ord_loop1 h hc lf hw1 hP1 hv1 (.slice a2 gone.length c2) (by omega) (by omega)
  obtain ⟨k1, k2⟩ := putsL_ok ids [] ok0 List.nodup_nil
  have hsub := putsL_sub ids [] [] (List.Sublist.refl _)
  rw [List.nil_append] at hsub
  obtain ⟨B2, J2, l2, q2⟩ := ord_loop2 h lf hw1 ⟨_, hP1⟩ hg1 (.slice a ids.length c) (by omega) (by omega) k1 k2 q1
  have hsub2 := (remsL_sub gone (putsL [] ids)).trans hsub
  obtain ⟨k3, k4⟩ := sub_ok (remsL_sub gone (putsL [] ids)) k1 k2
  generalize remsL (putsL [] ids) gone = L at l2 q2 hsub2 k3 k4
  have r3 := h.list (BListR.mk B2 A.next ⟨1024, L⟩ q2.obj k3)
  obtain ⟨a3, c3, hV, q3, hb3⟩ := list_at q2
  simp only at r3
  rw [hV] at r3
  generalize hB3 : pushL .own (B2.set A.next (some (bo ⟨1024, L⟩))) (numsE L) = B3 at r3 q3 hb3
  have r4 := h.len (BLenR.mk B3 A.next ⟨1024, L⟩ q3.obj k3)
  have q4 := q3.set ⟨1024, L⟩
  have hb4 : BsAt (B3.set A.next (some (bo ⟨1024, L⟩))) (.slice a3 L.length c3) (nums L) := bs_set hb3 q3.obj _
  obtain ⟨B5, J5, l5, q5⟩ := ord_loop3 h lf q4.wf q4.obj hb4 (.slice a ids.length c) k3.1 k4 (by have := k3.1; simp only at this; omega)
  have ok1 : BX.ok ⟨1024, []⟩ := ok0
  have r6 := h.take (BTakeR.mk B5 A.next ⟨1024, []⟩ q5.obj ok1)
  have q6 := q5.set ⟨1024, []⟩
  have r7 := h.clr (BClrR.mk _ A.next ⟨1024, []⟩ q6.obj ok1)
  have q7 := q6.set ⟨1024, []⟩
  have hbL : BsAt ((B5.set A.next (some (bo ⟨1024, []⟩))).set A.next (some (bo ⟨1024, []⟩))) (.slice a3 L.length c3) (nums L) := bs_set (bs_set (q5.bs q4.wf ⟨_, q4.obj⟩ hb4) q5.obj _) q6.obj _
  have hbI : BsAt ((B5.set A.next (some (bo ⟨1024, []⟩))).set A.next (some (bo ⟨1024, []⟩))) (.slice a ids.length c) (nums ids) := bs_set (bs_set (q5.bs q4.wf ⟨_, q4.obj⟩ (bs_set (q3.bs hw1 ⟨_, hP1⟩ hv1) q3.obj _)) q5.obj _) q6.obj _
  have r8 := hr hbI hbL (rsF_sub hsub2) hn
  have e1 : (((L.length : Nat) : Int) != ((L.length : Nat) : Int)) = false := by simp
  refine ⟨?A9, ?run⟩
  case run =>
    conv => lhs; whnf
    refine bind_of (h.awake _) ?_
    conv => lhs; whnf
    refine bind_of hnew ?_
    conv => lhs; whnf
    refine bind_of l1 ?_
    conv => lhs; whnf
    refine bind_of l2 ?_
    conv => lhs; whnf
    refine bind_of r3 ?_
    conv => lhs; whnf
    rw [e1]
    conv => lhs; whnf
    refine bind_of r4 ?_
    conv => lhs; whnf
    rw [e1]
    conv => lhs; whnf
    refine bind_of l5 ?_
    conv => lhs; whnf
    refine bind_of r6 ?_
    conv => lhs; whnf
    refine bind_of r7 ?_
    conv => lhs; whnf
    refine bind_of r8 ?_
    conv => lhs; whnf
    try rfl
end

theorem TB_free {f : FuncId} (hf : f = 38 ∨ f = 6) (args : List Value) (A : Hp) : TBk TA f args A = none := by
  rcases hf with rfl | rfl <;> rfl

theorem order_run {A : Hp} (hA : A.wf) {v v2 : Value} {ids gone : List Int} (hv : ArgSl 27 1 A v (nums ids) ids.length) (hg : ArgSl 27 1 A v2 (nums gone) gone.length) (hn : ids.length ≤ 1048576) (hn2 : gone.length ≤ 1048576) :
    ∃ n A', callD Tryd.bk (TBk TA) n 6 [v, v2] A = some (.bool true, A') := by
  have h1 := argsl_bs hv
  have h2 := argsl_bs hg
  obtain ⟨a, c, e1⟩ := h1.form
  obtain ⟨a2, c2, e2⟩ := h2.form
  rw [nums_len] at e1 e2
  subst e1 e2
  obtain ⟨A', r⟩ := order_walk (call := callD Tryd.bk (TBk TA) 1048600) (TBk_fns (base := TA) (fun _ => rfl) _) (codeB_ok _) (fun b1 b2 hs hl => callD_of (TB_free (.inl rfl) _ _) (fn := Tryd.f38) rfl (rises_walk 1048599 b1 b2 hs (by omega) (by omega))) 1048600 hA h1 h2 hn hn2 (by omega)
  exact ⟨1048601, A', callD_of (TB_free (.inr rfl) _ _) (fn := Tryd.f6) rfl r⟩
end Go.Dn.Bl
end

section
/-
  arguments that are lists of numbers
-/
namespace Go.Dn.Bl
open Go.Proofs Go.Dn.Ln
theorem nums_back : ∀ {us : List Value}, (∀ (j : Nat) x, us[j]? = some x → ∃ n, x = .int .u32 n) → ∃ ids, us = nums ids
  | [], _ => ⟨[], rfl⟩
  | u :: us, h => by
    obtain ⟨n, rfl⟩ := h 0 u rfl
    obtain ⟨ids, rfl⟩ := nums_back (us := us) fun j x hx => h (j + 1) x (by simpa using hx)
    exact ⟨n :: ids, rfl⟩
theorem nums_arg {H : Type} {A : Hp} {d : DataW H} {u : Value} (h : ArgR Tryd.bk.E.T A 49 d [u]) : ∃ ids, ArgSl 27 1 A u (nums ids) ids.length ∧ (ids.length = 0 ∨ ∃ els sp, d = .slice els sp ∧ els.length = ids.length) := by
  obtain ⟨w1, css, els, z1, y1, y2, y3, y4, y5, _⟩ := h.sl (i := Go.Dn.Tryd.ti49) (j := Go.Dn.Tryd.ti27) rfl rfl rfl
  cases z1
  have hj : (Go.Dn.Tryd.ti27).size = 1 := rfl
  rw [hj] at y1 y5
  have hfl := Go.Dn.flat_len css 1 y5
  obtain ⟨ids, hid⟩ := nums_back (us := css.flatten) fun j x hx => let ⟨n, e, _⟩ := ints_of (i := Go.Dn.Tryd.ti27) rfl rfl y2 y4 y5 j x hx; ⟨n, e⟩
  have hil : ids.length = css.length := by
    have := congrArg List.length hid
    rw [nums_len] at this
    omega
  rw [hid, ← hil] at y1
  refine ⟨ids, y1, ?_⟩
  rcases y3 with ⟨_, rfl⟩ | ⟨sp, rfl⟩
  · left; rw [hil, ← y2]; rfl
  · exact .inr ⟨els, sp, rfl, by omega⟩
end Go.Dn.Bl
end

section
/-
  two lists of numbers that are alike
-/
namespace Go.Dn.Bl
open Go.Proofs Go.Dn.Ln
set_option maxHeartbeats 4000000
set_option maxRecDepth 100000
attribute [local irreducible] Hp.get Hp.set Hp.push dappend dcopy dstore cellsAt callD loopD

theorem same_nums {call : CallT} (lf : Nat) {A : Hp} {a a2 : Option Addr} {c c2 : Nat} {l : List Int} (h1 : BsAt A (.slice a l.length c) (nums l)) (h2 : BsAt A (.slice a2 l.length c2) (nums l)) (hn : l.length ≤ 100000000) (hlf : l.length + 1 < lf) :
    kfn Tryd.bk.E call (Tryd.bk.inf 39) lf Tryd.f39 [.slice a l.length c, .slice a2 l.length c2] A = some (.bool true, A) := by
  have key := loop_rule (ks := some [0, 1, 4, 5]) (f := exec Tryd.bk.E call Tryd.f39.ntmps (Tryd.bk.inf 39) lf (loopOf Tryd.f39 0)) (S := Nat)
    (fun i => [(0, .slice a l.length c), (1, .slice a2 l.length c2), (4, .bool false), (5, .int .i64 (i : Nat))])
    (fun i B => B = A ∧ i ≤ l.length) (fun i => l.length - i)
    (fun e σ B => e = .exit 0 ∧ B = A ∧ ∃ I, σ = [(0, .slice a l.length c), (1, .slice a2 l.length c2), (4, .bool false), (5, I)]) (fun i B hs => ?step)
    lf 0 A ⟨rfl, Nat.zero_le _⟩ (by omega)
  case step =>
    obtain ⟨rfl, z1⟩ := hs
    by_cases hi : i < l.length
    · have e1 : ((i : Nat) : Int) < ((l.length : Nat) : Int) := by omega
      have hx : l[i]? = some l[i] := List.getElem?_eq_getElem hi
      generalize l[i] = x at hx
      obtain ⟨b1, o1, T1, cs1, md1, rfl, g1, q1, _⟩ := bs_cell h1 (nums_at hx)
      obtain ⟨b2, o2, T2, cs2, md2, rfl, g2, q2, _⟩ := bs_cell h2 (nums_at hx)
      have hw1 : IntKind.i64.wrap ((i : Int) + 1) = ((i + 1 : Nat) : Int) := by rw [w64 (by omega) (by omega)]; omega
      have e3 : (x != x) = false := by simp
      refine ⟨.normal, ?s1, B, kexec_run ?run1, .inl ⟨rfl, i + 1, ?kp1, ⟨rfl, by omega⟩, by omega⟩⟩
      case run1 =>
        conv => lhs; whnf
        rw [kdec e1]
        conv => lhs; whnf
        rw [kdec e1]
        conv => lhs; whnf
        refine bind_of ((cellsAt_of g1 _ _).trans q1) ?_
        conv => lhs; whnf
        rw [kdec e1]
        conv => lhs; whnf
        refine bind_of ((cellsAt_of g2 _ _).trans q2) ?_
        conv => lhs; whnf
        rw [e3]
        conv => lhs; whnf
      case kp1 =>
        show [_, _, _, (5, Value.int .i64 (IntKind.i64.wrap ((i : Int) + 1)))] = _
        rw [hw1]
    · have e1 : ¬ ((i : Nat) : Int) < ((l.length : Nat) : Int) := by omega
      refine ⟨.exit 0, ?s4, B, kexec_run ?run4, .inr ⟨by simp, rfl, rfl, ?L4, ?kp4⟩⟩
      case run4 =>
        conv => lhs; whnf
        rw [kdecn e1]
      case kp4 => rfl
  obtain ⟨e, σ1, A1, r1, rfl, rfl, I, rfl⟩ := key
  conv => lhs; whnf
  rw [show (((l.length : Nat) : Int) != ((l.length : Nat) : Int)) = false by simp]
  conv => lhs; whnf
  refine bind_of r1 ?_
  conv => lhs; whnf
  try rfl

theorem byRel_no {R : List Value → Hp → Value × Hp → Prop} {args : List Value} {A : Hp} (h : ∀ r, ¬ R args A r) : byRel R args A = none := by
  unfold byRel
  rw [dif_neg (fun ⟨r, hr⟩ => h r hr)]

/-! ## a backlog that is nil -/
def NB : Value := .pointer none
structure BNil (call : CallT) : Prop where
  put : ∀ {A : Hp}, A.get 0 = some (er 0) → ∀ y : Int, call 31 [NB, .int .u32 y] A = some (errO' (some 0), A)
  has : ∀ {A : Hp}, A.wf → ∀ y : Int, ∃ A', call 30 [NB, .int .u32 y] A = some (.bool false, A') ∧ Kp A A'
  rem : ∀ {A : Hp}, A.wf → ∀ y : Int, ∃ A', call 32 [NB, .int .u32 y] A = some (.bool false, A') ∧ Kp A A'
  list : ∀ {A : Hp}, A.wf → ∃ A', call 33 [NB] A = some (.slice none 0 0, A') ∧ Kp A A'
  len : ∀ A : Hp, call 34 [NB] A = some (.int .i64 0, A)
  head : ∀ A : Hp, call 35 [NB] A = some (topV [], A)
  take : ∀ A : Hp, call 36 [NB] A = some (topV [], A)
  clr : ∀ A : Hp, call 37 [NB] A = some (.int .i64 0, A)

section
variable {call : CallT} (lf : Nat)
theorem n_put {A : Hp} (h0 : A.get 0 = some (er 0)) (y : Int) : kfn Tryd.bk.E call (Tryd.bk.inf 31) lf Tryd.f31 [NB, .int .u32 y] A = some (errO' (some 0), A) := by
  conv => lhs; whnf
  refine bind_of (cellsAt_of h0 _ _) ?_
  conv => lhs; whnf
  try rfl
theorem n_has {A : Hp} (hw : A.wf) (y : Int) : ∃ A', kfn Tryd.bk.E call (Tryd.bk.inf 30) lf Tryd.f30 [NB, .int .u32 y] A = some (.bool false, A') ∧ Kp A A' := by
  let A1 : Hp := A.push (.arr 27 [.int .u32 y] .own)
  have hn1 : A1.next = A.next + 1 := Hp.next_push _ _
  let A2 : Hp := A1.push (.arr 4 [.bool false] .own)
  have k2 : Kp A A2 := (Kp.push hw _).trans (Kp.push (hw.push _) _)
  have b2 : A2.get A1.next = some (.arr 4 [.bool false] .own) := Hp.get_push_same _ _
  refine ⟨A2.set A1.next (some (.arr 4 [.bool false] .own)), ?run, k2.set b2 (by omega) _⟩
  case run =>
    conv => lhs; whnf
    refine bind_of (dstore_of b2 (t := 4) (o := 0) (cs' := [.bool false]) rfl) ?_
    conv => lhs; whnf
    refine bind_of (cellsAt_of (Hp.get_set_same _ _ _) _ _) ?_
    conv => lhs; whnf
    try rfl
theorem n_rem {A : Hp} (hw : A.wf) (y : Int) : ∃ A', kfn Tryd.bk.E call (Tryd.bk.inf 32) lf Tryd.f32 [NB, .int .u32 y] A = some (.bool false, A') ∧ Kp A A' := by
  refine ⟨A.push (.arr 27 [.int .u32 y] .own), ?run, Kp.push hw _⟩
  case run =>
    conv => lhs; whnf
    try rfl
theorem n_list {A : Hp} (hw : A.wf) : ∃ A', kfn Tryd.bk.E call (Tryd.bk.inf 33) lf Tryd.f33 [NB] A = some (.slice none 0 0, A') ∧ Kp A A' := by
  refine ⟨A.push (.arr 49 [.slice none 0 0] .own), ?run, Kp.push hw _⟩
  case run =>
    conv => lhs; whnf
    refine bind_of (cellsAt_of (Hp.get_push_same _ _) _ _) ?_
    conv => lhs; whnf
    try rfl
theorem n_len (A : Hp) : kfn Tryd.bk.E call (Tryd.bk.inf 34) lf Tryd.f34 [NB] A = some (.int .i64 0, A) := by
  conv => lhs; whnf
  try rfl
theorem n_head (A : Hp) : kfn Tryd.bk.E call (Tryd.bk.inf 35) lf Tryd.f35 [NB] A = some (topV [], A) := by
  conv => lhs; whnf
  try rfl
theorem n_take (A : Hp) : kfn Tryd.bk.E call (Tryd.bk.inf 36) lf Tryd.f36 [NB] A = some (topV [], A) := by
  conv => lhs; whnf
  try rfl
theorem n_clr (A : Hp) : kfn Tryd.bk.E call (Tryd.bk.inf 37) lf Tryd.f37 [NB] A = some (.int .i64 0, A) := by
  conv => lhs; whnf
  try rfl
end

theorem bnil_ok (n : Nat) : BNil (callD Tryd.bk (TBk TA) (n + 1)) where
  put h0 y := callD_of (show byRel BPutR _ _ = none from byRel_no fun r hr => by cases hr) (fn := Tryd.f31) rfl (n_put n h0 y)
  has hw y := by
    obtain ⟨A', r1, r2⟩ := n_has (call := callD Tryd.bk (TBk TA) n) n hw y
    exact ⟨A', callD_of (show byRel BHasR _ _ = none from byRel_no fun r hr => by cases hr) (fn := Tryd.f30) rfl r1, r2⟩
  rem hw y := by
    obtain ⟨A', r1, r2⟩ := n_rem (call := callD Tryd.bk (TBk TA) n) n hw y
    exact ⟨A', callD_of (show byRel BRemR _ _ = none from byRel_no fun r hr => by cases hr) (fn := Tryd.f32) rfl r1, r2⟩
  list hw := by
    obtain ⟨A', r1, r2⟩ := n_list (call := callD Tryd.bk (TBk TA) n) n hw
    exact ⟨A', callD_of (show byRel BListR _ _ = none from byRel_no fun r hr => by cases hr) (fn := Tryd.f33) rfl r1, r2⟩
  len A := callD_of (show byRel BLenR _ _ = none from byRel_no fun r hr => by cases hr) (fn := Tryd.f34) rfl (n_len n A)
  head A := callD_of (show byRel BHeadR _ _ = none from byRel_no fun r hr => by cases hr) (fn := Tryd.f35) rfl (n_head n A)
  take A := callD_of (show byRel BTakeR _ _ = none from byRel_no fun r hr => by cases hr) (fn := Tryd.f36) rfl (n_take n A)
  clr A := callD_of (show byRel BClrR _ _ = none from byRel_no fun r hr => by cases hr) (fn := Tryd.f37) rfl (n_clr n A)
end Go.Dn.Bl
end

section
/-
  BacklogOwn: numbers go in
-/
namespace Go.Dn.Bl
open Go.Proofs Go.Dn.Ln
set_option maxHeartbeats 4000000
set_option maxRecDepth 100000
attribute [local irreducible] Hp.get Hp.set Hp.push dappend dcopy dstore cellsAt callD loopD

theorem QB.kp {A0 : Hp} {P : Nat} {x : BX} {B C : Hp} (h : QB A0 P x B) (k : Kp B C) : QB A0 P x C :=
  ⟨k.wf, Nat.le_trans h.nx k.nx, by rw [k.old P (h.wf.lt h.obj)]; exact h.obj, fun j hj hP => by rw [k.old j (Nat.lt_of_lt_of_le hj h.nx), h.old j hj hP]⟩

theorem own_op1 {call : CallT} (h : BFns call) (hz : BNil call) (hc : CodeB call) (lf : Nat) {A0 : Hp} (hw : A0.wf) {P : Nat} (hP : ∃ y, A0.get P = some (bo y)) {a : Option Addr} {c : Nat} {ids : List Int} (hv : BsAt A0 (.slice a ids.length c) (nums ids)) (Q : Value)
    (h0 : A0.get 0 = some (er 0)) (hn : ids.length ≤ 100000000) {l : List Int} {B : Hp} (hB : QB A0 P ⟨1024, l⟩ B) (hok : BX.ok ⟨1024, l⟩) {i : Nat} {x : Int} (hx : ids[i]? = some x) :
    ∃ σ1 B1, exec Tryd.bk.E call Tryd.f7.ntmps (Tryd.bk.inf 7) lf (loopOf Tryd.f7 0) [(0, .slice a ids.length c), (2, .bool false), (3, NB), (4, ptr P), (6, Q), (8, .int .i64 (i : Nat))] B = some (.normal, σ1, B1) ∧
      keepSl (some [0, 2, 3, 4, 6, 8]) σ1 = [(0, .slice a ids.length c), (2, .bool false), (3, NB), (4, ptr P), (6, Q), (8, .int .i64 ((i + 1 : Nat) : Int))] ∧ QB A0 P ⟨1024, ordP l x⟩ B1 := by
  obtain ⟨b, o, T, cs, md, rfl, g, q, him⟩ := bs_cell hv (nums_at hx)
  have e1 : ((i : Nat) : Int) < ((ids.length : Nat) : Int) := by omega
  have hw1 : IntKind.i64.wrap ((i : Int) + 1) = ((i + 1 : Nat) : Int) := by rw [w64 (by omega) (by omega)]; omega
  have gB := hB.arg hw (.inr hP) g
  have r1 := h.put (BPutR.mk B P ⟨1024, l⟩ hB.obj hok x)
  simp only at r1
  have hB1 := hB.set ⟨1024, (putB 1024 l x).2⟩
  have gB1 := hB1.arg hw (.inr hP) g
  have z1 : (B.set P (some (bo ⟨1024, (putB 1024 l x).2⟩))).get 0 = some (er 0) := hB1.arg hw (.inr hP) h0
  have r2 := hz.put z1 x
  have r3 := hc (B.set P (some (bo ⟨1024, (putB 1024 l x).2⟩))) (some 0) (.inr (.inl rfl))
  obtain ⟨B2, r4, k4⟩ := hz.has hB1.wf x
  have hB2 := hB1.kp k4
  have gB2 := hB2.arg hw (.inr hP) g
  obtain ⟨B3, r5, k5⟩ := hz.rem hB2.wf x
  have hB3 := hB2.kp k5
  refine ⟨?s1, B3, kexec_run ?run1, ?kp1, hB3⟩
  case run1 =>
    conv => lhs; whnf
    rw [kdec e1]
    conv => lhs; whnf
    rw [kdec e1]
    conv => lhs; whnf
    refine bind_of ((cellsAt_of gB _ _).trans q) ?_
    conv => lhs; whnf
    refine bind_of r1 ?_
    conv => lhs; whnf
    rw [kdec e1]
    conv => lhs; whnf
    refine bind_of ((cellsAt_of gB1 _ _).trans q) ?_
    conv => lhs; whnf
    refine bind_of r2 ?_
    conv => lhs; whnf
    refine bind_of r3 ?_
    conv => lhs; whnf
    rw [kdec e1]
    conv => lhs; whnf
    refine bind_of ((cellsAt_of gB1 _ _).trans q) ?_
    conv => lhs; whnf
    refine bind_of r4 ?_
    conv => lhs; whnf
    rw [kdec e1]
    conv => lhs; whnf
    refine bind_of ((cellsAt_of gB2 _ _).trans q) ?_
    conv => lhs; whnf
    refine bind_of r5 ?_
    conv => lhs; whnf
  case kp1 =>
    show [_, _, _, _, _, (8, Value.int .i64 (IntKind.i64.wrap ((i : Int) + 1)))] = _
    rw [hw1]

theorem own_loop1 {call : CallT} (h : BFns call) (hz : BNil call) (hc : CodeB call) (lf : Nat) {A0 : Hp} (hw : A0.wf) {P : Nat} (hP : A0.get P = some (bo ⟨1024, []⟩)) {a : Option Addr} {c : Nat} {ids : List Int} (hv : BsAt A0 (.slice a ids.length c) (nums ids)) (Q : Value)
    (h0 : A0.get 0 = some (er 0)) (hn : ids.length ≤ 100000000) (hlf : ids.length + 1 < lf) :
    ∃ B J, loopD (some [0, 2, 3, 4, 6, 8]) (exec Tryd.bk.E call Tryd.f7.ntmps (Tryd.bk.inf 7) lf (loopOf Tryd.f7 0)) lf [(0, .slice a ids.length c), (2, .bool false), (3, NB), (4, ptr P), (6, Q), (8, .int .i64 ((0 : Nat) : Int))] A0 =
      some (.exit 0, [(0, .slice a ids.length c), (2, .bool false), (3, NB), (4, ptr P), (6, Q), (8, J)], B) ∧ QB A0 P ⟨1024, putsL [] ids⟩ B := by
  have ok0 : BX.ok ⟨1024, []⟩ := ⟨by simp, by show (1 : Int) ≤ 1024; decide, by show (1024 : Int) ≤ 1024; decide⟩
  have key := loop_rule (ks := some [0, 2, 3, 4, 6, 8]) (f := exec Tryd.bk.E call Tryd.f7.ntmps (Tryd.bk.inf 7) lf (loopOf Tryd.f7 0)) (S := Nat)
    (fun i => [(0, .slice a ids.length c), (2, .bool false), (3, NB), (4, ptr P), (6, Q), (8, .int .i64 (i : Nat))])
    (fun i B => i ≤ ids.length ∧ QB A0 P ⟨1024, putsL [] (ids.take i)⟩ B) (fun i => ids.length - i)
    (fun e σ B => e = .exit 0 ∧ QB A0 P ⟨1024, putsL [] ids⟩ B ∧ ∃ J, σ = [(0, .slice a ids.length c), (2, .bool false), (3, NB), (4, ptr P), (6, Q), (8, J)]) (fun i B hs => ?step)
    lf 0 A0 ⟨Nat.zero_le _, hw, Nat.le_refl _, hP, fun _ _ _ => rfl⟩ (by omega)
  case step =>
    obtain ⟨z1, z3⟩ := hs
    by_cases hi : i < ids.length
    · have hx : ids[i]? = some ids[i] := List.getElem?_eq_getElem hi
      have htk : ids.take (i + 1) = ids.take i ++ [ids[i]] := take_succ' hx
      obtain ⟨k1, k2⟩ := putsL_ok (ids.take i) [] ok0 List.nodup_nil
      obtain ⟨σ1, B1, r1, r2, r3⟩ := own_op1 h hz hc lf hw ⟨_, hP⟩ hv Q h0 hn z3 k1 hx
      refine ⟨.normal, σ1, B1, r1, .inl ⟨rfl, i + 1, r2, ⟨hi, ?_⟩, by omega⟩⟩
      rw [htk, putsL_snoc]; exact r3
    · obtain rfl : i = ids.length := by omega
      rw [List.take_of_length_le (Nat.le_refl _)] at z3
      have e1 : ¬ ((ids.length : Nat) : Int) < ((ids.length : Nat) : Int) := by omega
      refine ⟨.exit 0, ?s3, B, kexec_run ?run3, .inr ⟨by simp, rfl, z3, ?L3, ?kp3⟩⟩
      case run3 =>
        conv => lhs; whnf
        rw [kdecn e1]
      case kp3 => rfl
  obtain ⟨e, σ1, B, r1, rfl, q, J, rfl⟩ := key
  exact ⟨B, J, r1, q⟩

/-- a number that a loop makes -/
def mkV (base : Int) (i : Nat) : Value := .int .u32 (IntKind.u32.wrap (base + IntKind.u32.wrap ((i : Nat) : Int)))
theorem store_num {us : List Value} {i : Nat} (hi : i < us.length) (z : Int) : storeIn Tryd.bk.E 27 us (0 + i * 1) (.int .u32 z) = some (cellsPut us (0 + i * 1) [.int .u32 z]) := by
  have : Nat.ble (0 + i * 1 + 1) us.length = true := by rw [Nat.ble_eq]; omega
  show (bif true && true && Nat.ble (0 + i * 1 + 1) us.length then _ else _) = _
  rw [this]
  rfl
theorem own_op2 {call : CallT} (lf : Nat) {B : Hp} {b n c i : Nat} {us : List Value} (hb : B.get b = some (.arr 27 us .own)) (hlen : us.length = n) (hi : i < n) (hn : n ≤ 1000000) (S2 S3 S4 S6 S10 S12 : Value) :
    ∃ σ1 us', exec Tryd.bk.E call Tryd.f7.ntmps (Tryd.bk.inf 7) lf (loopOf Tryd.f7 1) [(2, S2), (3, S3), (4, S4), (6, S6), (9, .slice (some ⟨b, 0, some 1⟩) n c), (10, S10), (11, .int .i64 (n : Nat)), (12, S12), (13, .int .i64 (i : Nat))] B = some (.normal, σ1, B.set b (some (.arr 27 us' .own))) ∧
      keepSl (some [2, 3, 4, 6, 9, 10, 11, 12, 13]) σ1 = [(2, S2), (3, S3), (4, S4), (6, S6), (9, .slice (some ⟨b, 0, some 1⟩) n c), (10, S10), (11, .int .i64 (n : Nat)), (12, S12), (13, .int .i64 ((i + 1 : Nat) : Int))] ∧ us'.length = n := by
  have e1 : ((i : Nat) : Int) < ((n : Nat) : Int) := by omega
  have hw1 : IntKind.i64.wrap ((i : Int) + 1) = ((i + 1 : Nat) : Int) := by rw [w64 (by omega) (by omega)]; omega
  have hst := store_num (us := us) (i := i) (by omega) (IntKind.u32.wrap (4000000000 + IntKind.u32.wrap ((i : Nat) : Int)))
  have hl2 : (cellsPut us (0 + i * 1) [Value.int .u32 (IntKind.u32.wrap (4000000000 + IntKind.u32.wrap ((i : Nat) : Int)))]).length = n := (cellsPut_length (by show 0 + i * 1 + 1 ≤ us.length; omega)).trans hlen
  refine ⟨?s1, _, kexec_run ?run1, ?kp1, hl2⟩
  case run1 =>
    conv => lhs; whnf
    rw [kdec e1]
    conv => lhs; whnf
    rw [kdec e1]
    conv => lhs; whnf
    refine bind_of (dstore_of hb (t := 27) (o := 0 + i * 1) hst) ?_
    conv => lhs; whnf
  case kp1 =>
    show [_, _, _, _, _, _, _, _, (13, Value.int .i64 (IntKind.i64.wrap ((i : Int) + 1)))] = _
    rw [hw1]

theorem own_end2 {call : CallT} (lf : Nat) (B : Hp) (V9 : Value) (i n : Nat) (hi : ¬ i < n) (S2 S3 S4 S6 S10 S12 : Value) :
    ∃ σ1, exec Tryd.bk.E call Tryd.f7.ntmps (Tryd.bk.inf 7) lf (loopOf Tryd.f7 1) [(2, S2), (3, S3), (4, S4), (6, S6), (9, V9), (10, S10), (11, .int .i64 (n : Nat)), (12, S12), (13, .int .i64 (i : Nat))] B = some (.exit 2, σ1, B) ∧
      keepSl (some [2, 3, 4, 6, 9, 10, 11, 12, 13]) σ1 = [(2, S2), (3, S3), (4, S4), (6, S6), (9, V9), (10, S10), (11, .int .i64 (n : Nat)), (12, S12), (13, .int .i64 (i : Nat))] := by
  have e1 : ¬ ((i : Nat) : Int) < ((n : Nat) : Int) := by omega
  refine ⟨?s1, kexec_run ?run1, ?kp1⟩
  case run1 =>
    conv => lhs; whnf
    rw [kdecn e1]
  case kp1 => rfl

theorem own_loop2 {call : CallT} (lf : Nat) {A0 : Hp} (hw : A0.wf) {V9 : Value} {io : Option Nat} {us : List Value} {n : Nat} (hv : CanAt 27 1 A0 V9 io us n) (hn : n ≤ 1000000) (hlf : n + 1 < lf) (S2 S3 S4 S6 S10 S12 : Value) :
    ∃ B us' J, loopD (some [2, 3, 4, 6, 9, 10, 11, 12, 13]) (exec Tryd.bk.E call Tryd.f7.ntmps (Tryd.bk.inf 7) lf (loopOf Tryd.f7 1)) lf [(2, S2), (3, S3), (4, S4), (6, S6), (9, V9), (10, S10), (11, .int .i64 (n : Nat)), (12, S12), (13, .int .i64 ((0 : Nat) : Int))] A0 =
      some (.exit 2, [(2, S2), (3, S3), (4, S4), (6, S6), (9, V9), (10, S10), (11, .int .i64 (n : Nat)), (12, S12), (13, J)], B) ∧ CanAt 27 1 B V9 io us' n ∧ B.wf ∧ B.next = A0.next ∧ ∀ j, io ≠ some j → B.get j = A0.get j := by
  cases hv with
  | nil =>
    obtain ⟨σ1, r1, r2⟩ := own_end2 (call := call) lf A0 (.slice none 0 0) 0 0 (by omega) S2 S3 S4 S6 S10 S12
    obtain ⟨lf', rfl⟩ : ∃ k, lf = k + 1 := ⟨lf - 1, by omega⟩
    have := loopD_end (ks := some [2, 3, 4, 6, 9, 10, 11, 12, 13]) (n := lf') r1 (by simp)
    rw [r2] at this
    exact ⟨A0, [], _, this, .nil, hw, rfl, fun _ _ => rfl⟩
  | «at» b _ _ hg hl hp =>
    have key := loop_rule (ks := some [2, 3, 4, 6, 9, 10, 11, 12, 13]) (f := exec Tryd.bk.E call Tryd.f7.ntmps (Tryd.bk.inf 7) lf (loopOf Tryd.f7 1)) (S := Nat)
      (fun i => [(2, S2), (3, S3), (4, S4), (6, S6), (9, .slice (some ⟨b, 0, some 1⟩) n (2 * n)), (10, S10), (11, .int .i64 (n : Nat)), (12, S12), (13, .int .i64 (i : Nat))])
      (fun i B => i ≤ n ∧ B.wf ∧ B.next = A0.next ∧ (∀ j, j ≠ b → B.get j = A0.get j) ∧ ∃ us', B.get b = some (.arr 27 us' .own) ∧ us'.length = n) (fun i => n - i)
      (fun e σ B => e = .exit 2 ∧ (B.wf ∧ B.next = A0.next ∧ (∀ j, j ≠ b → B.get j = A0.get j) ∧ ∃ us', B.get b = some (.arr 27 us' .own) ∧ us'.length = n) ∧ ∃ J, σ = [(2, S2), (3, S3), (4, S4), (6, S6), (9, .slice (some ⟨b, 0, some 1⟩) n (2 * n)), (10, S10), (11, .int .i64 (n : Nat)), (12, S12), (13, J)]) (fun i B hs => ?step)
      lf 0 A0 ⟨Nat.zero_le _, hw, rfl, fun _ _ => rfl, us, hg, by omega⟩ (by omega)
    case step =>
      obtain ⟨z1, z2, z3, z4, us', z5, z6⟩ := hs
      by_cases hi : i < n
      · obtain ⟨σ1, us2, r1, r2, r3⟩ := own_op2 (call := call) lf z5 z6 hi hn S2 S3 S4 S6 S10 S12 (c := 2 * n)
        exact ⟨.normal, σ1, _, r1, .inl ⟨rfl, i + 1, r2, ⟨hi, z2.put z5 _, by rw [Hp.next_set]; exact z3, fun j hj => by rw [Hp.get_set_ne _ _ hj, z4 j hj], us2, Hp.get_set_same _ _ _, r3⟩, by omega⟩⟩
      · obtain ⟨σ1, r1, r2⟩ := own_end2 (call := call) lf B (.slice (some ⟨b, 0, some 1⟩) n (2 * n)) i n hi S2 S3 S4 S6 S10 S12
        exact ⟨.exit 2, σ1, B, r1, .inr ⟨by simp, rfl, ⟨z2, z3, z4, us', z5, z6⟩, _, r2⟩⟩
    obtain ⟨e, σ1, B, r1, rfl, ⟨z2, z3, z4, us', z5, z6⟩, J, rfl⟩ := key
    exact ⟨B, us', J, r1, .at b n us' z5 (by omega) hp, z2, z3, fun j hj => z4 j fun e => hj (by rw [e])⟩

/-! ## appends -/
theorem app_val {A : Hp} (hw : A.wf) {V : Value} {io : Option Nat} {us : List Value} {n : Nat} (hc : SlAt 27 1 A V io us n) (x : Value) (hn : n ≤ 100000000) :
    ∃ V' A' i', dappend Tryd.bk.E 49 49 (A.push (.arr 27 [x] .own)) V (.slice (some ⟨A.next, 0, some 1⟩) 1 3) = some (V', A') ∧ CanAt 27 1 A' V' (some i') (us ++ [x]) (n + 1) ∧ A.next ≤ i' ∧ A.next ≤ A'.next ∧ A'.wf ∧ ∀ j, j < A.next → io ≠ some j → A'.get j = A.get j := by
  have hw1 : (A.push (.arr 27 [x] .own)).wf := hw.push _
  have hx : elemsOf (A.push (.arr 27 [x] .own)) 1 (.slice (some ⟨A.next, 0, some 1⟩) 1 3) = some (1, [x]) :=
    (SlAt.at A.next 0 1 3 [x] [x] (.inr rfl) (Hp.get_push_same _ _) (by simp) rfl).elems
  have hc1 : SlAt 27 1 (A.push (.arr 27 [x] .own)) V io us n := hc.keep fun i hi => by
    subst hi
    obtain ⟨cs, hcs⟩ := hc.lt
    exact Hp.get_push_ne _ _ (by have := hw.lt hcs; omega)
  obtain ⟨V', A', i', r1, r2, r3, r4, r5, r6⟩ := append_sl (t := 49) (t2 := 49) (E := Tryd.bk.E) (e := 27) (sz := 1) (bz := 4) ⟨⟨_, rfl, rfl⟩, ⟨_, _, rfl, rfl, rfl, rfl, rfl⟩, by decide⟩ ⟨_, _, rfl, rfl⟩ hc1 hx rfl (by omega) (by omega) (by unfold maxLen; omega)
  rw [Hp.next_push] at r3 r4
  exact ⟨V', A', i', r1, r2, by omega, by omega, r5 hw1, fun j hj hne => by rw [r6 j (by rw [Hp.next_push]; omega) hne, Hp.get_push_ne _ _ (by omega)]⟩

/-- a list that grows; all else but its first place stays -/
structure GI (A0 : Hp) (io9 : Option Nat) (us : List Value) (n : Nat) (base : Int) (k : Nat) (V : Value) (B : Hp) : Prop where
  wf : B.wf
  nx : A0.next ≤ B.next
  can : ∃ io, CanAt 27 1 B V io (us ++ (List.range k).map (mkV base)) (n + k) ∧ ∀ j, io = some j → io9 = some j ∨ A0.next ≤ j
  old : ∀ j, j < A0.next → io9 ≠ some j → B.get j = A0.get j

theorem GI.step {A0 : Hp} {io9 : Option Nat} {us : List Value} {n : Nat} {base : Int} {k : Nat} {V : Value} {B : Hp} (h : GI A0 io9 us n base k V B) (hn : n + k ≤ 10000000) :
    ∃ V' B', dappend Tryd.bk.E 49 49 (B.push (.arr 27 [mkV base k] .own)) V (.slice (some ⟨B.next, 0, some 1⟩) 1 3) = some (V', B') ∧ GI A0 io9 us n base (k + 1) V' B' := by
  obtain ⟨h1, h2, ⟨io, h3, h4⟩, h5⟩ := h
  obtain ⟨V', B', i', r1, r2, r3, r4, r5, r6⟩ := app_val h1 h3.slAt (mkV base k) (by omega)
  refine ⟨V', B', r1, r5, by omega, ⟨some i', ?_, fun j hj => by cases hj; exact .inr (by omega)⟩, fun j hj hne => ?_⟩
  · rw [List.range_succ, List.map_append, List.map_cons, List.map_nil, ← List.append_assoc]
    exact r2
  · rw [r6 j (by omega) (fun e => by rcases h4 j e with e2 | e2; exact hne e2; omega), h5 j hj hne]

theorem own_loop3 {call : CallT} (lf : Nat) {A0 : Hp} (hw : A0.wf) {V9 : Value} {io : Option Nat} {us : List Value} {n : Nat} (hv : CanAt 27 1 A0 V9 io us n) (hn : n ≤ 1000000) (hlf : 50 < lf) (S2 S3 S4 S6 S10 S11 S12 : Value) :
    ∃ B V J, loopD (some [2, 3, 4, 6, 10, 11, 12, 14, 15]) (exec Tryd.bk.E call Tryd.f7.ntmps (Tryd.bk.inf 7) lf (loopOf Tryd.f7 2)) lf [(2, S2), (3, S3), (4, S4), (6, S6), (10, S10), (11, S11), (12, S12), (14, V9), (15, .int .i64 ((0 : Nat) : Int))] A0 =
      some (.exit 4, [(2, S2), (3, S3), (4, S4), (6, S6), (10, S10), (11, S11), (12, S12), (14, V), (15, J)], B) ∧ GI A0 io us n 4100000000 40 V B := by
  have key := loop_rule (ks := some [2, 3, 4, 6, 10, 11, 12, 14, 15]) (f := exec Tryd.bk.E call Tryd.f7.ntmps (Tryd.bk.inf 7) lf (loopOf Tryd.f7 2)) (S := Nat × Value)
    (fun s => [(2, S2), (3, S3), (4, S4), (6, S6), (10, S10), (11, S11), (12, S12), (14, s.2), (15, .int .i64 (s.1 : Nat))])
    (fun s B => s.1 ≤ 40 ∧ GI A0 io us n 4100000000 s.1 s.2 B) (fun s => 40 - s.1)
    (fun e σ B => e = .exit 4 ∧ ∃ V J, σ = [(2, S2), (3, S3), (4, S4), (6, S6), (10, S10), (11, S11), (12, S12), (14, V), (15, J)] ∧ GI A0 io us n 4100000000 40 V B) (fun s B hs => ?step)
    lf (0, V9) A0 ⟨Nat.zero_le _, hw, Nat.le_refl _, ⟨io, by simpa using hv, fun j hj => .inl hj⟩, fun _ _ _ => rfl⟩ (by simp only; omega)
  case step =>
    obtain ⟨k, V⟩ := s
    obtain ⟨z1, z2⟩ := hs
    simp only at z1 z2 ⊢
    by_cases hi : k < 40
    · have e1 : ((k : Nat) : Int) < 40 := by omega
      have hw1 : IntKind.i64.wrap ((k : Int) + 1) = ((k + 1 : Nat) : Int) := by rw [w64 (by omega) (by omega)]; omega
      obtain ⟨V', B', r1, r2⟩ := z2.step (by omega)
      refine ⟨.normal, ?s1, B', kexec_run ?run1, .inl ⟨rfl, (k + 1, V'), ?kp1, ⟨hi, r2⟩, by simp only; omega⟩⟩
      case run1 =>
        conv => lhs; whnf
        rw [kdec e1]
        conv => lhs; whnf
        refine bind_of r1 ?_
        conv => lhs; whnf
      case kp1 =>
        show [_, _, _, _, _, _, _, _, (15, Value.int .i64 (IntKind.i64.wrap ((k : Int) + 1)))] = _
        rw [hw1]
    · obtain rfl : k = 40 := by omega
      refine ⟨.exit 4, ?s3, B, kexec_run ?run3, .inr ⟨by simp, rfl, V, ?L3, ?kp3, z2⟩⟩
      case run3 =>
        conv => lhs; whnf
      case kp3 => rfl
  obtain ⟨e, σ1, B, r1, rfl, V, J, rfl, q⟩ := key
  exact ⟨B, V, J, r1, q⟩

theorem own_loop4 {call : CallT} (lf : Nat) {A0 : Hp} (hw : A0.wf) {V9 : Value} {io : Option Nat} {us : List Value} {n : Nat} (hv : CanAt 27 1 A0 V9 io us n) (hn : n ≤ 1000000) (hlf : 50 < lf) (S2 S3 S4 S6 S11 S12 S14 : Value) :
    ∃ B V J, loopD (some [2, 3, 4, 6, 11, 12, 14, 16, 17]) (exec Tryd.bk.E call Tryd.f7.ntmps (Tryd.bk.inf 7) lf (loopOf Tryd.f7 3)) lf [(2, S2), (3, S3), (4, S4), (6, S6), (11, S11), (12, S12), (14, S14), (16, V9), (17, .int .i64 ((0 : Nat) : Int))] A0 =
      some (.exit 6, [(2, S2), (3, S3), (4, S4), (6, S6), (11, S11), (12, S12), (14, S14), (16, V), (17, J)], B) ∧ GI A0 io us n 4200000000 40 V B := by
  have key := loop_rule (ks := some [2, 3, 4, 6, 11, 12, 14, 16, 17]) (f := exec Tryd.bk.E call Tryd.f7.ntmps (Tryd.bk.inf 7) lf (loopOf Tryd.f7 3)) (S := Nat × Value)
    (fun s => [(2, S2), (3, S3), (4, S4), (6, S6), (11, S11), (12, S12), (14, S14), (16, s.2), (17, .int .i64 (s.1 : Nat))])
    (fun s B => s.1 ≤ 40 ∧ GI A0 io us n 4200000000 s.1 s.2 B) (fun s => 40 - s.1)
    (fun e σ B => e = .exit 6 ∧ ∃ V J, σ = [(2, S2), (3, S3), (4, S4), (6, S6), (11, S11), (12, S12), (14, S14), (16, V), (17, J)] ∧ GI A0 io us n 4200000000 40 V B) (fun s B hs => ?step)
    lf (0, V9) A0 ⟨Nat.zero_le _, hw, Nat.le_refl _, ⟨io, by simpa using hv, fun j hj => .inl hj⟩, fun _ _ _ => rfl⟩ (by simp only; omega)
  case step =>
    obtain ⟨k, V⟩ := s
    obtain ⟨z1, z2⟩ := hs
    simp only at z1 z2 ⊢
    by_cases hi : k < 40
    · have e1 : ((k : Nat) : Int) < 40 := by omega
      have hw1 : IntKind.i64.wrap ((k : Int) + 1) = ((k + 1 : Nat) : Int) := by rw [w64 (by omega) (by omega)]; omega
      obtain ⟨V', B', r1, r2⟩ := z2.step (by omega)
      refine ⟨.normal, ?s1, B', kexec_run ?run1, .inl ⟨rfl, (k + 1, V'), ?kp1, ⟨hi, r2⟩, by simp only; omega⟩⟩
      case run1 =>
        conv => lhs; whnf
        rw [kdec e1]
        conv => lhs; whnf
        refine bind_of r1 ?_
        conv => lhs; whnf
      case kp1 =>
        show [_, _, _, _, _, _, _, _, (17, Value.int .i64 (IntKind.i64.wrap ((k : Int) + 1)))] = _
        rw [hw1]
    · obtain rfl : k = 40 := by omega
      refine ⟨.exit 6, ?s3, B, kexec_run ?run3, .inr ⟨by simp, rfl, V, ?L3, ?kp3, z2⟩⟩
      case run3 =>
        conv => lhs; whnf
      case kp3 => rfl
  obtain ⟨e, σ1, B, r1, rfl, V, J, rfl, q⟩ := key
  exact ⟨B, V, J, r1, q⟩
end Go.Dn.Bl
end

section
/-
  BacklogPlays: the document's backlog: At, New, Put
-/
namespace Go.Dn.Bl
open Go.Proofs Go.Dn.Ln
set_option maxHeartbeats 4000000
set_option maxRecDepth 100000
attribute [local irreducible] Hp.get Hp.set Hp.push dappend dcopy dstore cellsAt callD loopD

/-- the document's backlog, as a value -/
def dv (m : Int) (V : Value) : Value := .agg #[.int .i64 m, V]
def atV (x : Int) (L : List Int) : Int := match L.findIdx? (· == x) with
  | some i => ((i : Nat) : Int)
  | none => -1

theorem find_take {x : Int} : ∀ {L : List Int} {i : Nat} {y : Int}, (L.take i).any (· == x) = false → L[i]? = some y → y = x → L.findIdx? (· == x) = some i
  | [], i, y, _, h, _ => by simp at h
  | z :: L, 0, y, _, h, e => by
    simp at h
    subst h e
    simp [List.findIdx?_cons]
  | z :: L, i + 1, y, h0, h, e => by
    simp only [List.take_succ_cons, List.any_cons, Bool.or_eq_false_iff] at h0
    have := find_take h0.2 (by simpa using h) e
    rw [List.findIdx?_cons, h0.1, this]
    rfl
theorem find_none {x : Int} {L : List Int} (h : L.any (· == x) = false) : L.findIdx? (· == x) = none := by
  rw [List.findIdx?_eq_none_iff]
  intro y hy
  have := List.any_eq_false.1 h y hy
  simpa using this

theorem at_walk {call : CallT} (lf : Nat) {A : Hp} (hw : A.wf) (m : Int) {a : Option Addr} {c : Nat} {L : List Int} (hv : BsAt A (.slice a L.length c) (nums L)) (x : Int) (hn : L.length ≤ 100000000) (hlf : L.length + 1 < lf) :
    ∃ A', kfn Tryd.bk.E call (Tryd.bk.inf 71) lf Tryd.f71 [dv m (.slice a L.length c), .int .u32 x] A = some (.int .i64 (atV x L), A') ∧ Kp A A' := by
  let A1 : Hp := A.push (.arr 51 [.int .i64 m, .slice a L.length c] .own)
  have k1 : Kp A A1 := Kp.push hw _
  have g1 : A1.get A.next = some (.arr 51 [.int .i64 m, .slice a L.length c] .own) := Hp.get_push_same _ _
  have hv1 : BsAt A1 (.slice a L.length c) (nums L) := hv.old hw fun i hi => k1.old i hi
  have key := loop_rule (ks := some [1, 2, 4, 5]) (f := exec Tryd.bk.E call Tryd.f71.ntmps (Tryd.bk.inf 71) lf (loopOf Tryd.f71 0)) (S := Nat)
    (fun i => [(1, .int .u32 x), (2, ptr A.next), (4, .int .i64 0), (5, .int .i64 (i : Nat))])
    (fun i B => B = A1 ∧ i ≤ L.length ∧ (L.take i).any (· == x) = false) (fun i => L.length - i)
    (fun e σ B => B = A1 ∧ ((e = .exit 0 ∧ L.any (· == x) = false ∧ ∃ J, σ = [(1, .int .u32 x), (2, ptr A.next), (4, .int .i64 0), (5, J)]) ∨
      (e = .ret ∧ ∃ i : Nat, L.findIdx? (· == x) = some i ∧ ∃ J, σ = [(1, .int .u32 x), (2, ptr A.next), (4, .int .i64 (i : Nat)), (5, J)]))) (fun i B hs => ?step)
    lf 0 A1 ⟨rfl, Nat.zero_le _, rfl⟩ (by omega)
  case step =>
    obtain ⟨hB, z1, z2⟩ := hs
    subst hB
    by_cases hi : i < L.length
    · have e1 : ((i : Nat) : Int) < ((L.length : Nat) : Int) := by omega
      have hx : L[i]? = some L[i] := List.getElem?_eq_getElem hi
      have htk := take_succ' hx
      generalize L[i] = y at hx htk
      obtain ⟨b, o, T, cs, md, rfl, g, q, _⟩ := bs_cell hv1 (nums_at hx)
      have hw1 : IntKind.i64.wrap ((i : Int) + 1) = ((i + 1 : Nat) : Int) := by rw [w64 (by omega) (by omega)]; omega
      by_cases hy : y = x
      · have e3 : (y == x) = true := by simp [hy]
        refine ⟨.ret, ?s1, _, kexec_run ?run1, .inr ⟨by simp, rfl, .inr ⟨rfl, i, find_take z2 hx hy, ?J1, ?kp1⟩⟩⟩
        case run1 =>
          conv => lhs; whnf
          refine bind_of (cellsAt_of g1 _ _) ?_
          conv => lhs; whnf
          rw [kdec e1]
          conv => lhs; whnf
          refine bind_of (cellsAt_of g1 _ _) ?_
          conv => lhs; whnf
          rw [kdec e1]
          conv => lhs; whnf
          refine bind_of ((cellsAt_of g _ _).trans q) ?_
          conv => lhs; whnf
          rw [e3]
          conv => lhs; whnf
        case kp1 => rfl
      · have e3 : (y == x) = false := by simp [hy]
        refine ⟨.normal, ?s2, _, kexec_run ?run2, .inl ⟨rfl, i + 1, ?kp2, ⟨rfl, hi, ?_⟩, by omega⟩⟩
        case run2 =>
          conv => lhs; whnf
          refine bind_of (cellsAt_of g1 _ _) ?_
          conv => lhs; whnf
          rw [kdec e1]
          conv => lhs; whnf
          refine bind_of (cellsAt_of g1 _ _) ?_
          conv => lhs; whnf
          rw [kdec e1]
          conv => lhs; whnf
          refine bind_of ((cellsAt_of g _ _).trans q) ?_
          conv => lhs; whnf
          rw [e3]
          conv => lhs; whnf
        case kp2 =>
          show [_, _, _, (5, Value.int .i64 (IntKind.i64.wrap ((i : Int) + 1)))] = _
          rw [hw1]
        · rw [htk, List.any_append, z2]
          simp [hy]
    · obtain rfl : i = L.length := by omega
      rw [List.take_of_length_le (Nat.le_refl _)] at z2
      have e1 : ¬ ((L.length : Nat) : Int) < ((L.length : Nat) : Int) := by omega
      refine ⟨.exit 0, ?s4, _, kexec_run ?run4, .inr ⟨by simp, rfl, .inl ⟨rfl, z2, ?L4, ?kp4⟩⟩⟩
      case run4 =>
        conv => lhs; whnf
        refine bind_of (cellsAt_of g1 _ _) ?_
        conv => lhs; whnf
        rw [kdecn e1]
      case kp4 => rfl
  obtain ⟨e, σ1, B, r1, rfl, hp⟩ := key
  refine ⟨A1, ?run, k1⟩
  case run =>
    unfold atV
    rcases hp with ⟨rfl, hno, J, rfl⟩ | ⟨rfl, i, hf, J, rfl⟩
    · rw [find_none hno]
      conv => lhs; whnf
      refine bind_of r1 ?_
      conv => lhs; whnf
      try rfl
    · rw [hf]
      conv => lhs; whnf
      refine bind_of r1 ?_
      conv => lhs; whnf
      try rfl

theorem rnew_walk {call : CallT} (lf : Nat) {A : Hp} (hw : A.wf) (m : Int) :
    ∃ A', kfn Tryd.bk.E call (Tryd.bk.inf 27) lf Tryd.f27 [.int .i64 m] A = some (.tuple #[dv (if m < 1 ∨ 1024 < m then 0 else m) (.slice none 0 0), .int .i64 (if m < 1 ∨ 1024 < m then 2 else 0)], A') ∧ Kp A A' := by
  have k1 : Kp A (A.push (.arr 51 [.int .i64 0, .slice none 0 0] .own)) := Kp.push hw _
  have g1 : (A.push (.arr 51 [.int .i64 0, .slice none 0 0] .own)).get A.next = some (.arr 51 [.int .i64 0, .slice none 0 0] .own) := Hp.get_push_same _ _
  by_cases h1 : m < 1
  · rw [if_pos (.inl h1), if_pos (.inl h1)]
    refine ⟨_, ?run1, k1.set g1 (Nat.le_refl _) (.arr 51 [.int .i64 0, .slice none 0 0] .own)⟩
    case run1 =>
      conv => lhs; whnf
      rw [kdec h1]
      conv => lhs; whnf
      refine bind_of (dstore_of g1 (t := 51) (o := 0) (cs' := [.int .i64 0, .slice none 0 0]) rfl) ?_
      conv => lhs; whnf
      refine bind_of (cellsAt_of (Hp.get_set_same _ _ _) _ _) ?_
      conv => lhs; whnf
      try rfl
  · by_cases h2 : m > 1024
    · rw [if_pos (.inr h2), if_pos (.inr h2)]
      refine ⟨_, ?run2, k1.set g1 (Nat.le_refl _) (.arr 51 [.int .i64 0, .slice none 0 0] .own)⟩
      case run2 =>
        conv => lhs; whnf
        rw [kdecn h1]
        conv => lhs; whnf
        rw [kdec h2]
        conv => lhs; whnf
        refine bind_of (dstore_of g1 (t := 51) (o := 0) (cs' := [.int .i64 0, .slice none 0 0]) rfl) ?_
        conv => lhs; whnf
        refine bind_of (cellsAt_of (Hp.get_set_same _ _ _) _ _) ?_
        conv => lhs; whnf
        try rfl
    · rw [if_neg (by omega), if_neg (by omega)]
      refine ⟨_, ?run3, k1.set g1 (Nat.le_refl _) (.arr 51 [.int .i64 m, .slice none 0 0] .own)⟩
      case run3 =>
        conv => lhs; whnf
        rw [kdecn h1]
        conv => lhs; whnf
        rw [kdecn h2]
        conv => lhs; whnf
        refine bind_of (dstore_of g1 (t := 51) (o := 0) (cs' := [.int .i64 m, .slice none 0 0]) rfl) ?_
        conv => lhs; whnf
        refine bind_of (cellsAt_of (Hp.get_set_same _ _ _) _ _) ?_
        conv => lhs; whnf
        try rfl
end Go.Dn.Bl
end
