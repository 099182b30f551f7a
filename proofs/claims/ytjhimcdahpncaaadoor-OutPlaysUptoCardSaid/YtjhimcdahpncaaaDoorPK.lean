/-
  Part of the abstract machine for this program.
-/
import Derived.Test.YtjhimcdahpncaaaDoorPJ
import Derived.Test.YtjhimcdahpncaaaDoorPH

section
/-
  'step' of culvertlaw06: Take, Len, Clear
-/
namespace Go.Dn.Pipe
open Go.Proofs
set_option maxHeartbeats 4000000
set_option maxRecDepth 100000
attribute [local irreducible] Hp.get Hp.set Hp.push dappend dcopy dstore cellsAt callD loopD dstring guardL hideL backL

/-- a Take under guard -/
theorem guarded_take {call : CallT} (h : OutFns call) {A : Hp} (hw : A.wf) {P : Nat} {x : OX} (hP : A.get P = some (.abs 2 x.dat)) (hx : x.n ≤ 1000000000) (hpl : ∀ u ∈ x.fs.flatten, plain0 u = true) {n : Int} (hn : n ≤ 9223372036854775807) (l : List Nat) (hl : ∀ j ∈ l, j < A.next ∧ j ≠ P) :
    ∃ v C, call 44 [ptr P, .int .i64 n] (guardL (hideL A []) l) = some (v, C) ∧ KP P A (backL A (backL A C l) []) ∧
      (backL A (backL A C l) []).get P = some (.abs 2 (OX.dat { x with fs := dropF n.toNat x.fs })) ∧ BsAt (backL A (backL A C l) []) v (x.fs.flatten.take n.toNat) ∧
      (x.fs.flatten.take n.toNat = [] → blkOf v = []) ∧ (x.fs.flatten.take n.toNat ≠ [] → ∃ b, blkOf v = [b] ∧ A.next ≤ b ∧ b < (backL A (backL A C l) []).next) := by
  have hPl : P ∉ l := fun hm => (hl P hm).2 rfl
  have hB := guard_get (A := A) hPl
  have h1 := h.take (TakeOR.mk (guardL (hideL A []) l) P x (hB.trans hP) n hn hx hpl)
  have hBw := guard_wf hw l
  have hBn := guard_next A l
  have hlP := hw.lt hP
  have hCw := pushL_outE_wf (hBw.put (hB.trans hP) (.abs 2 (OX.dat { x with fs := dropF n.toNat x.fs }))) (x.fs.flatten.take n.toNat)
  have hCn := pushL_outE_next ((guardL (hideL A []) l).set P (some (.abs 2 (OX.dat { x with fs := dropF n.toNat x.fs })))) (x.fs.flatten.take n.toNat)
  have hCo := pushL_outE_get ((guardL (hideL A []) l).set P (some (.abs 2 (OX.dat { x with fs := dropF n.toNat x.fs })))) (x.fs.flatten.take n.toNat)
  obtain ⟨a, c, iv, o1, o2, o3⟩ := outV_at ((guardL (hideL A []) l).set P (some (.abs 2 (OX.dat { x with fs := dropF n.toNat x.fs })))) (x.fs.flatten.take n.toNat)
  rw [Hp.next_set, hBn] at hCn hCo o1 o3
  rw [hBn] at h1
  obtain ⟨d1, d2, d3, d4⟩ := back_facts (fun j hj => (hl j hj).1) hCw hCn
  refine ⟨_, _, h1, ⟨d1, by rw [d2]; exact hCn, fun j hj hjP => ?_⟩, ?_, ?_, fun he => by rw [he]; rfl, fun he => ?_⟩
  · by_cases hm : j ∈ l
    · exact d4 j hm
    · rw [d3 j hm, hCo j hj, Hp.get_set_ne _ _ hjP, guard_get hm]
  · rw [d3 P hPl, hCo P hlP, Hp.get_set_same]
  · rw [o1]
    have : CanAt 5 1 (backL A (backL A (pushL .own ((guardL (hideL A []) l).set P (some (.abs 2 (OX.dat { x with fs := dropF n.toNat x.fs })))) (outE (x.fs.flatten.take n.toNat))) l) []) (.slice a (x.fs.flatten.take n.toNat).length c) iv (x.fs.flatten.take n.toNat) (x.fs.flatten.take n.toNat).length :=
      o2.keep fun i hi => d3 i fun hm => by have := (hl i hm).1; have := (o3 i hi).1; omega
    exact this.slAt.bs
  · rw [o1, d2]
    obtain ⟨i, hi, hb⟩ := can_some o2 he
    exact ⟨i, hb, (o3 i hi).1, (o3 i hi).2⟩

theorem dropF_ne : ∀ (n : Nat) (fs : List (List Value)), (∀ us ∈ fs, us ≠ []) → ∀ us ∈ dropF n fs, us ≠ []
  | _, [], _, us, h => by simp [dropF] at h
  | n, y :: l, hne, us, h => by
    simp only [dropF] at h
    by_cases hy : n < y.length
    · rw [if_pos hy] at h
      rcases List.mem_cons.1 h with rfl | h
      · intro e
        have := congrArg List.length e
        simp at this
        omega
      · exact hne us (List.mem_cons_of_mem _ h)
    · rw [if_neg hy] at h
      exact dropF_ne _ l (fun z hz => hne z (List.mem_cons_of_mem _ hz)) us h

section
variable {call : CallT} {N : Nat} (h : OStep call N) {P : Nat} {A : Hp} (hw : A.wf) {fs : List (List Value)} {n : Nat} {V : Value} (hI : OW P fs n V A)
include h hw hI

theorem ostep_take (lf : Nat) (ver typ fl st ln : Int) {a : Option Addr} {m c : Nat} (t : Int) (ht : t ≤ 9223372036854775807) (hn : n ≤ 100000000) (hfl : fs.length ≤ 1048576) (hN : n < N) :
    ∃ V' A', kfn Tryd.bk.E call (Tryd.bk.inf 40) lf Tryd.f40 [ptr P, .agg #[V], .agg (opv 2 ver typ fl st ln (.slice a m c) t).toArray] A = some (.tuple #[.agg #[V'], .bool true], A') ∧ KP P A A' ∧ OW P (dropF t.toNat fs) n V' A' := by
  obtain ⟨va, vc, rfl⟩ := hI.rf.sl
  let o : List Value := opv 2 ver typ fl st ln (.slice a m c) t
  obtain ⟨b1, b2, b3, b4, b5⟩ := obox_ok hw (.slice va fs.length vc) o
  have hPl := hw.lt hI.buf
  have hfew := hI.few
  obtain ⟨V4, Vo, A4, p1, p2, p3, p4, p5⟩ := h.rtake b1.wf (hI.rf.old hw b1) hfl hI.ne hI.bytes (by omega) (by omega) t
  obtain ⟨av, cv, rfl⟩ := p3.sl
  let W : Value := .slice av (dropF t.toNat fs).length cv
  let A5 : Hp := (A4.push (.arr 79 [.slice none 0 0] .own)).set A4.next (some (.arr 79 [W] .own))
  have k04 : Kp A A4 := b1.trans p2
  have hlt4 : A.next + 3 ≤ A4.next := by have := p2.nx; omega
  have k45 : Kp A4 A5 := (Kp.push p2.wf (.arr 79 [.slice none 0 0] .own)).set (Hp.get_push_same _ _) (Nat.le_refl _) _
  have n5 : A5.next = A4.next + 1 := by simp [A5]
  have k05 : Kp A A5 := k04.trans k45
  let q5 := (A.push (.arr 79 [.slice va fs.length vc] .own)).next
  let q6 := ((A.push (.arr 79 [.slice va fs.length vc] .own)).push (.arr 88 o .own)).next
  have hq5 : q5 = A.next + 1 := by simp [q5]
  have hq6 : q6 = A.next + 2 := by simp [q6]
  have g5 : A5.get q5 = some (.arr 88 o .own) := by rw [k45.old _ (by omega), p2.old _ (by omega)]; exact b4
  have g6 : A5.get q6 = some (.arr 79 [.slice none 0 0] .own) := by rw [k45.old _ (by omega), p2.old _ (by omega)]; exact b5
  have g8 : A5.get A4.next = some (.arr 79 [W] .own) := Hp.get_set_same _ _ _
  have hP5 : A5.get P = some (.abs 2 (OX.dat ⟨fs, n⟩)) := by rw [k05.old P hPl]; exact hI.buf
  have hb1 : BsAt A5 Vo (fs.flatten.take t.toNat) := p4.old p2.wf k45.old
  have hrf5 : RF A5 W (dropF t.toNat fs) := p3.old p2.wf k45
  obtain ⟨ns, hns⟩ := bytesOf_some (hI.bytes.take t.toNat)
  have hd1 := dstring_bs stS hb1 hns
  have ht5 : Typ5 A5 Vo := p5.keep fun j cs md hg => k45.old j (p2.wf.lt hg)
  have hpl : ∀ u ∈ fs.flatten, plain0 u = true := hI.bytes.plain
  have howr : ∀ A' : Hp, RF A' W (dropF t.toNat fs) → A'.get P = some (.abs 2 (OX.dat ⟨dropF t.toNat fs, n⟩)) → OW P (dropF t.toNat fs) n W A' := fun A' h1 h2 =>
    ⟨h1, dropF_ne _ _ hI.ne, by rw [dropF_flat]; exact hI.bytes.drop _, by rw [dropF_flat, List.length_drop]; omega, h2⟩
  have hVo := hb1.form
  obtain ⟨ao, co, rfl⟩ := hVo
  generalize hul : (fs.flatten.take t.toNat).length = ul at hd1 hb1 p1
  match ao, hb1, ht5, hd1, p1 with
  | none, hb1, ht5, hd1, p1 =>
    obtain ⟨v17, C, e1, e2, e3, e4, e5, e6⟩ := guarded_take h.toOutFns k45.wf hP5 (show n ≤ _ by omega) hpl ht [A4.next] (fun j hj => by
      simp only [List.mem_singleton] at hj
      subst hj
      exact ⟨by omega, by omega⟩)
    have hd2 := dstring_bs stS e4 hns
    have hun : fs.flatten.take t.toNat = [] := by
      clear hns hd2 e4 e5 e6 hd1 hul
      generalize fs.flatten.take t.toNat = us0 at hb1
      cases hb1 with
      | nil => rfl
    have g7 := (e2.old q6 (by omega) (by omega)).trans g6
    have k8 := ((k05.toP P).trans e2).set g7 (by omega) (.arr 79 [W] .own)
    refine ⟨W, _, ?run, k8, howr _ ((hrf5.kp k45.wf e2 hP5).set (q := q6) (fun T cs hh => by rw [g7] at hh; cases hh; decide) _) (by rw [Hp.get_set_ne _ _ (by omega)]; exact e3)⟩
    case run =>
      conv => lhs; whnf
      refine bind_of (cellsAt_of b4 _ _) ?_
      conv => lhs; whnf
      refine bind_of (cellsAt_of b3 _ _) ?_
      conv => lhs; whnf
      refine bind_of (cellsAt_of b4 _ _) ?_
      conv => lhs; whnf
      refine bind_of p1 ?_
      conv => lhs; whnf
      refine bind_of (dstore_of (Hp.get_push_same _ _) (t := 79) (o := 0) (cs' := [W]) rfl) ?_
      conv => lhs; whnf
      refine bind_of (cellsAt_of g8 _ _) ?_
      conv => lhs; whnf
      refine bind_of (cellsAt_of g5 _ _) ?_
      conv => lhs; whnf
      refine bind_of hd1 ?_
      refine bif_of (all_blk hb1 fun i => rfl) ?_
      conv => lhs; whnf
      refine bind_of e1 ?_
      conv => lhs; whnf
      refine bind_of hd2 ?_
      refine bif_of (all_blk e4 fun i => rfl) ?_
      conv => lhs; whnf
      rw [beq_self_eq_true]
      conv => lhs; whnf
      rw [e5 hun]
      conv => lhs; whnf
      refine bind_of (dstore_of g7 (t := 79) (o := 0) (cs' := [W]) rfl) ?_
      conv => lhs; whnf
      refine bind_of (cellsAt_of (A := Hp.set _ q6 (some (.arr 79 [W] .own))) (i := q6) (Hp.get_set_same _ _ _) 0 1) ?_
      conv => lhs; whnf
      rw [beq_self_eq_true]
      rfl
  | some ⟨i4, o4, s4⟩, hb1, ht5, hd1, p1 =>
    obtain rfl : s4 = some 1 := by cases hb1; rfl
    obtain ⟨cs4, md4, hg4⟩ := ht5 i4 (by simp [blkOf])
    have hi4 := k45.wf.lt hg4
    have hi4P : i4 ≠ P := by rintro rfl; rw [hP5] at hg4; cases hg4
    have hi4q : i4 ≠ q6 := by rintro rfl; rw [g6] at hg4; cases hg4
    obtain ⟨v17, C, e1, e2, e3, e4, e5, e6⟩ := guarded_take h.toOutFns k45.wf hP5 (show n ≤ _ by omega) hpl ht [i4, A4.next] (fun j hj => by
      simp only [List.mem_cons, List.not_mem_nil, or_false] at hj
      rcases hj with rfl | rfl
      · exact ⟨hi4, hi4P⟩
      · exact ⟨by omega, by omega⟩)
    have hd2 := dstring_bs stS e4 hns
    have n67 := e2.nx
    have g7 := (e2.old q6 (by omega) (by omega)).trans g6
    have hlst : ∀ l : List Nat, (∀ j ∈ l, j = i4 ∨ (A5.next ≤ j ∧ j < (backL A5 (backL A5 C [i4, A4.next]) []).next)) → ∀ j ∈ l, j < (backL A5 (backL A5 C [i4, A4.next]) []).next ∧ j ≠ q6 := fun l hl j hj => by
      rcases hl j hj with rfl | ⟨h1, h2⟩
      · exact ⟨by omega, hi4q⟩
      · exact ⟨h2, by omega⟩
    have fin : ∀ l : List Nat, (∀ j ∈ l, j = i4 ∨ (A5.next ≤ j ∧ j < (backL A5 (backL A5 C [i4, A4.next]) []).next)) →
        (guardL (hideL (backL A5 (backL A5 C [i4, A4.next]) []) []) l).get q6 = some (.arr 79 [.slice none 0 0] .own) ∧
        (backL (backL A5 (backL A5 C [i4, A4.next]) []) (backL (backL A5 (backL A5 C [i4, A4.next]) []) ((guardL (hideL (backL A5 (backL A5 C [i4, A4.next]) []) []) l).set q6 (some (.arr 79 [W] .own))) l) []).get q6 = some (.arr 79 [W] .own) ∧
        KP P A (backL (backL A5 (backL A5 C [i4, A4.next]) []) (backL (backL A5 (backL A5 C [i4, A4.next]) []) ((guardL (hideL (backL A5 (backL A5 C [i4, A4.next]) []) []) l).set q6 (some (.arr 79 [W] .own))) l) []) ∧
        OW P (dropF t.toNat fs) n W (backL (backL A5 (backL A5 C [i4, A4.next]) []) (backL (backL A5 (backL A5 C [i4, A4.next]) []) ((guardL (hideL (backL A5 (backL A5 C [i4, A4.next]) []) []) l).set q6 (some (.arr 79 [W] .own))) l) []) := fun l hl => by
      obtain ⟨f1, f2, f3, f4, f5⟩ := guarded_store (o' := .arr 79 [W] .own) e2.wf g7 l (hlst l hl)
      have k7 := (k05.toP P).trans e2
      refine ⟨f1, f4, ⟨f2, by rw [f3]; exact k7.nx, fun j hj hjP => by rw [f5 j (by omega), k7.old j hj hjP]⟩, howr _ ((hrf5.kp k45.wf e2 hP5).keep2 fun j T cs hg hT => f5 j (by rintro rfl; rw [g7] at hg; cases hg; rcases hT with h | h <;> cases h)) ((f5 P (by omega)).trans e3)⟩
    by_cases hun : fs.flatten.take t.toNat = []
    · obtain ⟨f1, f4, f6, f7⟩ := fin [i4] (fun j hj => .inl (by simpa using hj))
      refine ⟨W, _, ?run, f6, f7⟩
      case run =>
        conv => lhs; whnf
        refine bind_of (cellsAt_of b4 _ _) ?_
        conv => lhs; whnf
        refine bind_of (cellsAt_of b3 _ _) ?_
        conv => lhs; whnf
        refine bind_of (cellsAt_of b4 _ _) ?_
        conv => lhs; whnf
        refine bind_of p1 ?_
        conv => lhs; whnf
        refine bind_of (dstore_of (Hp.get_push_same _ _) (t := 79) (o := 0) (cs' := [W]) rfl) ?_
        conv => lhs; whnf
        refine bind_of (cellsAt_of g8 _ _) ?_
        conv => lhs; whnf
        refine bind_of (cellsAt_of g5 _ _) ?_
        conv => lhs; whnf
        refine bind_of hd1 ?_
        refine bif_of (all_blk hb1 fun i => rfl) ?_
        conv => lhs; whnf
        refine bind_of e1 ?_
        conv => lhs; whnf
        refine bind_of hd2 ?_
        refine bif_of (all_blk e4 fun i => rfl) ?_
        conv => lhs; whnf
        rw [beq_self_eq_true]
        conv => lhs; whnf
        rw [e5 hun]
        conv => lhs; whnf
        refine bind_of (dstore_of f1 (t := 79) (o := 0) (cs' := [W]) rfl) ?_
        conv => lhs; whnf
        refine bind_of (cellsAt_of f4 0 1) ?_
        conv => lhs; whnf
        rw [beq_self_eq_true]
        rfl
    · obtain ⟨b7, hb7, hb7', hb7''⟩ := e6 hun
      obtain ⟨f1, f4, f6, f7⟩ := fin [b7, i4] (fun j hj => by
        simp only [List.mem_cons, List.not_mem_nil, or_false] at hj
        rcases hj with rfl | rfl
        · exact .inr ⟨hb7', hb7''⟩
        · exact .inl rfl)
      refine ⟨W, _, ?run2, f6, f7⟩
      case run2 =>
        conv => lhs; whnf
        refine bind_of (cellsAt_of b4 _ _) ?_
        conv => lhs; whnf
        refine bind_of (cellsAt_of b3 _ _) ?_
        conv => lhs; whnf
        refine bind_of (cellsAt_of b4 _ _) ?_
        conv => lhs; whnf
        refine bind_of p1 ?_
        conv => lhs; whnf
        refine bind_of (dstore_of (Hp.get_push_same _ _) (t := 79) (o := 0) (cs' := [W]) rfl) ?_
        conv => lhs; whnf
        refine bind_of (cellsAt_of g8 _ _) ?_
        conv => lhs; whnf
        refine bind_of (cellsAt_of g5 _ _) ?_
        conv => lhs; whnf
        refine bind_of hd1 ?_
        refine bif_of (all_blk hb1 fun i => rfl) ?_
        conv => lhs; whnf
        refine bind_of e1 ?_
        conv => lhs; whnf
        refine bind_of hd2 ?_
        refine bif_of (all_blk e4 fun i => rfl) ?_
        conv => lhs; whnf
        rw [beq_self_eq_true]
        conv => lhs; whnf
        rw [hb7]
        conv => lhs; whnf
        refine bind_of (dstore_of f1 (t := 79) (o := 0) (cs' := [W]) rfl) ?_
        conv => lhs; whnf
        refine bind_of (cellsAt_of f4 0 1) ?_
        conv => lhs; whnf
        rw [beq_self_eq_true]
        rfl

theorem ostep_len (lf : Nat) (ver typ fl st ln : Int) {a : Option Addr} {m c : Nat} (t : Int) (hn : n ≤ 100000000) (hfl : fs.length ≤ 1048576) (hN : fs.length < N) :
    ∃ A', kfn Tryd.bk.E call (Tryd.bk.inf 40) lf Tryd.f40 [ptr P, .agg #[V], .agg (opv 3 ver typ fl st ln (.slice a m c) t).toArray] A = some (.tuple #[.agg #[V], .bool true], A') ∧ KP P A A' ∧ OW P fs n V A' := by
  obtain ⟨va, vc, rfl⟩ := hI.rf.sl
  let o : List Value := opv 3 ver typ fl st ln (.slice a m c) t
  obtain ⟨b1, b2, b3, b4, b5⟩ := obox_ok hw (.slice va fs.length vc) o
  have hPl := hw.lt hI.buf
  have hfew := hI.few
  let A3 : Hp := obox A (.slice va fs.length vc) o
  let W : Value := .slice va fs.length vc
  have hP3 : A3.get P = some (.abs 2 (OX.dat ⟨fs, n⟩)) := by rw [b1.old P hPl]; exact hI.buf
  let q6 := ((A.push (.arr 79 [.slice va fs.length vc] .own)).push (.arr 88 o .own)).next
  have hq6 : q6 = A.next + 2 := by simp [q6]
  have hlen : ∀ B : Hp, B.get P = some (.abs 2 (OX.dat ⟨fs, n⟩)) → call 45 [ptr P] B = some (.int .i64 (fs.flatten.length : Nat), B.set P (some (.abs 2 (OX.dat ⟨fs, n⟩)))) := fun B hB => h.len (LenOR.mk B P _ hB (show n ≤ _ by omega))
  have hfrm : ∀ B : Hp, B.get P = some (.abs 2 (OX.dat ⟨fs, n⟩)) → call 46 [ptr P] B = some (.int .i64 (fs.length : Nat), B.set P (some (.abs 2 (OX.dat ⟨fs, n⟩)))) := fun B hB => h.frames (FramesOR.mk B P _ hB)
  have hA3n : A3.next = A.next + 3 := b2
  obtain ⟨s1, s2, s3, s4⟩ := guarded_same b1.wf hP3 [A.next, A.next] (fun j hj => by
    simp only [List.mem_cons, List.not_mem_nil, or_false, or_self] at hj
    subst hj
    exact ⟨by omega, by omega⟩)
  let D1 : Hp := backL A3 (backL A3 ((guardL (hideL A3 []) [A.next, A.next]).set P (some (.abs 2 (OX.dat ⟨fs, n⟩)))) [A.next, A.next]) []
  have hD1n : D1.next = A3.next := s3
  have hrf1 : RF D1 W fs := ((hI.rf.old hw b1)).keep fun j _ _ _ _ => s4 j
  have hl1 : ∀ j ∈ [A.next], j < D1.next := fun j hj => by simp only [List.mem_singleton] at hj; omega
  have hrfG : RF (guardL (hideL D1 []) [A.next]) W fs := hrf1.keep2 fun j T cs hg hT => guard_get (by
    simp only [List.mem_singleton]
    rintro rfl
    rw [show D1.get A.next = A3.get A.next from s4 _, show A3.get A.next = _ from b3] at hg
    cases hg
    rcases hT with h | h <;> cases h)
  obtain ⟨C, r1, r2⟩ := h.rlen (guard_wf s2 [A.next]) hrfG hfl (by omega) hN
  let D2 : Hp := backL D1 (backL D1 C [A.next]) []
  obtain ⟨k12, n2, _⟩ := guarded_kp (D := D1) (l := [A.next]) hl1 r2
  have o2 : ∀ j, j < A.next + 3 → D2.get j = A3.get j := fun j hj => by rw [k12.old j (by omega), s4]
  have c2 : D2.get A.next = some (.arr 79 [.slice va fs.length vc] .own) := (o2 _ (by omega)).trans b3
  have hn2 : A.next + 3 ≤ D2.next := by have h1 : D1.next ≤ D2.next := k12.nx; omega
  have hP2 : D2.get P = some (.abs 2 (OX.dat ⟨fs, n⟩)) := (o2 P (by omega)).trans hP3
  obtain ⟨v1, v2, v3, v4⟩ := guarded_same (D := D2) k12.wf hP2 [A.next, A.next] (fun j hj => by
    simp only [List.mem_cons, List.not_mem_nil, or_false, or_self] at hj
    subst hj
    exact ⟨by omega, by omega⟩)
  let D3 : Hp := backL D2 (backL D2 ((guardL (hideL D2 []) [A.next, A.next]).set P (some (.abs 2 (OX.dat ⟨fs, n⟩)))) [A.next, A.next]) []
  have o3 : ∀ j, j < A.next + 3 → D3.get j = A3.get j := fun j hj => (v4 j).trans (o2 j hj)
  have n3 : D3.next = D2.next := v3
  have c4' : D3.get q6 = some (.arr 79 [.slice none 0 0] .own) := (o3 _ (by omega)).trans b5
  have k4 : KP P A D3 := ⟨v2, by rw [n3]; omega, fun j hj hjP => (o3 j (by omega)).trans (b1.old j hj)⟩
  obtain ⟨y1, y2, y3, y4, y5⟩ := guarded_store (D := D3) (o' := .arr 79 [W] .own) v2 c4' [A.next] (fun j hj => by
    simp only [List.mem_singleton] at hj
    subst hj
    exact ⟨by omega, by omega⟩)
  let D5 : Hp := backL D3 (backL D3 ((guardL (hideL D3 []) [A.next]).set q6 (some (.arr 79 [W] .own))) [A.next]) []
  have k8 : KP P A D5 := ⟨y2, by rw [show D5.next = D3.next from y3]; exact k4.nx, fun j hj hjP => (y5 j (by omega)).trans (k4.old j hj hjP)⟩
  refine ⟨D5, ?run, k8, hI.rf.kp hw k8 hI.buf, hI.ne, hI.bytes, hI.few, (y5 P (by omega)).trans ((o3 P (by omega)).trans hP3)⟩
  case run =>
    conv => lhs; whnf
    refine bind_of (cellsAt_of b4 _ _) ?_
    conv => lhs; whnf
    refine bind_of (cellsAt_of b3 _ _) ?_
    conv => lhs; whnf
    refine bind_of (cellsAt_of b3 _ _) ?_
    conv => lhs; whnf
    refine bind_of (hlen _ s1) ?_
    conv => lhs; whnf
    refine bind_of r1 ?_
    conv => lhs; whnf
    rw [beq_self_eq_true]
    conv => lhs; whnf
    refine bind_of (cellsAt_of c2 _ _) ?_
    conv => lhs; whnf
    refine bind_of (hfrm _ v1) ?_
    conv => lhs; whnf
    refine bind_of (dstore_of y1 (t := 79) (o := 0) (cs' := [W]) rfl) ?_
    conv => lhs; whnf
    refine bind_of (cellsAt_of y4 0 1) ?_
    conv => lhs; whnf
    rw [beq_self_eq_true]
    rfl

theorem ostep_clear (lf : Nat) (ver typ fl st ln : Int) {a : Option Addr} {m c : Nat} (t : Int) (hn : n ≤ 100000000) (hfl : fs.length ≤ 1048576) (hN : fs.length < N) :
    ∃ V' A', kfn Tryd.bk.E call (Tryd.bk.inf 40) lf Tryd.f40 [ptr P, .agg #[V], .agg (opv 4 ver typ fl st ln (.slice a m c) t).toArray] A = some (.tuple #[.agg #[V'], .bool true], A') ∧ KP P A A' ∧ OW P [] n V' A' := by
  obtain ⟨va, vc, rfl⟩ := hI.rf.sl
  let o : List Value := opv 4 ver typ fl st ln (.slice a m c) t
  obtain ⟨b1, b2, b3, b4, b5⟩ := obox_ok hw (.slice va fs.length vc) o
  have hPl := hw.lt hI.buf
  have hfew := hI.few
  let A3 : Hp := obox A (.slice va fs.length vc) o
  let W : Value := .slice none 0 0
  have hP3 : A3.get P = some (.abs 2 (OX.dat ⟨fs, n⟩)) := by rw [b1.old P hPl]; exact hI.buf
  let q6 := ((A.push (.arr 79 [.slice va fs.length vc] .own)).push (.arr 88 o .own)).next
  have hq6 : q6 = A.next + 2 := by simp [q6]
  have hA3n : A3.next = A.next + 3 := b2
  obtain ⟨f1, f2, f3, f4, f5⟩ := guarded_store (D := A3) (o' := .abs 2 (OX.dat ⟨[], n⟩)) b1.wf hP3 [A.next] (fun j hj => by
    simp only [List.mem_singleton] at hj
    subst hj
    exact ⟨by omega, by omega⟩)
  let A4 : Hp := backL A3 (backL A3 ((guardL (hideL A3 []) [A.next]).set P (some (.abs 2 (OX.dat ⟨[], n⟩)))) [A.next]) []
  have hA4n : A4.next = A.next + 3 := (show A4.next = A3.next from f3).trans hA3n
  have kP : KP P A A4 := ⟨f2, by omega, fun j hj hjP => (f5 j hjP).trans (b1.old j hj)⟩
  have hrf4 : RF A4 (.slice va fs.length vc) fs := hI.rf.kp hw kP hI.buf
  obtain ⟨C, r1, r2⟩ := h.rlen kP.wf hrf4 hfl (by omega) hN
  have hcl := h.clear (ClearOR.mk _ P ⟨fs, n⟩ f1 (show n ≤ _ by omega))
  have g6 : C.get q6 = some (.arr 79 [.slice none 0 0] .own) := by
    rw [r2.old _ (by omega), show A4.get q6 = A3.get q6 from f5 _ (by omega)]; exact b5
  have k8 : KP P A (C.set q6 (some (.arr 79 [W] .own))) := (kP.trans (r2.toP P)).set g6 (by omega) _
  refine ⟨W, C.set q6 (some (.arr 79 [W] .own)), ?run, k8, ⟨[], none, .nil, rfl, by simp⟩, by simp, fun j x hx => by simp at hx, Nat.zero_le _, ?o⟩
  case o =>
    rw [Hp.get_set_ne _ _ (by omega), r2.old P (by omega)]
    exact f4
  case run =>
    conv => lhs; whnf
    refine bind_of (cellsAt_of b4 _ _) ?_
    conv => lhs; whnf
    refine bind_of (cellsAt_of b3 _ _) ?_
    conv => lhs; whnf
    refine bind_of hcl ?_
    conv => lhs; whnf
    refine bind_of r1 ?_
    conv => lhs; whnf
    refine bind_of (dstore_of g6 (t := 79) (o := 0) (cs' := [W]) rfl) ?_
    conv => lhs; whnf
    refine bind_of (cellsAt_of (A := C.set q6 (some (.arr 79 [W] .own))) (i := q6) (Hp.get_set_same _ _ _) 0 1) ?_
    conv => lhs; whnf
    rw [beq_self_eq_true]
    rfl
end
end Go.Dn.Pipe
end

section
/-
  'step' of culvertlaw06, whatever the op; the functions known
-/
namespace Go.Dn.Pipe
open Go.Proofs
set_option maxHeartbeats 4000000
set_option maxRecDepth 100000
attribute [local irreducible] Hp.get Hp.set Hp.push dappend dcopy dstore cellsAt callD loopD dstring

/-- one op of a script -/
structure OpO where
  k : Int
  ver : Int
  typ : Int
  fl : Int
  st : Int
  ln : Int
  us : List Value
  a : Option Addr
  c : Nat
  n : Int
def OpO.cells (o : OpO) : List Value := opv o.k o.ver o.typ o.fl o.st o.ln (.slice o.a o.us.length o.c) o.n
structure OpO.ok (A : Hp) (o : OpO) : Prop where
  bs : BsAt A (.slice o.a o.us.length o.c) o.us
  bytes : IsB o.us
  nb : o.n ≤ 9223372036854775807
  f0 : 0 ≤ o.fl
  f1 : o.fl ≤ 4294967295
  s0 : 0 ≤ o.st
  s1 : o.st ≤ 4294967295
  l0 : 0 ≤ o.ln
  l1 : o.ln ≤ 4294967295
def sumO (ops : List OpO) : Nat := (ops.map fun o => o.us.length + 12).sum

theorem flat_ge {fs : List (List Value)} (hne : ∀ us ∈ fs, us ≠ []) : fs.length ≤ fs.flatten.length := by
  induction fs with
  | nil => simp
  | cons y l ih =>
    have := List.length_pos_iff.2 (hne y (by simp))
    have := ih fun z hz => hne z (List.mem_cons_of_mem _ hz)
    simp only [List.length_cons, List.flatten_cons, List.length_append]
    omega
theorem dropF_len (m : Nat) (l : List (List Value)) : (dropF m l).length ≤ l.length := by
  induction l generalizing m with
  | nil => simp [dropF]
  | cons y l ih =>
    simp only [dropF]
    split
    · simp
    · have := ih (m - y.length); simp; omega

def OStepOK (call : CallT) (N : Nat) : Prop := ∀ {P : Nat} {A : Hp} {fs : List (List Value)} {n : Nat} {V : Value}, A.wf → OW P fs n V A → ∀ o : OpO, o.ok A → n + 12 + o.us.length ≤ 100000000 → n + 12 + o.us.length < N → fs.length < 1048576 →
  ∃ fs' n' V' A', call 40 [ptr P, .agg #[V], .agg o.cells.toArray] A = some (.tuple #[.agg #[V'], .bool true], A') ∧ KP P A A' ∧ OW P fs' n' V' A' ∧ n' ≤ n + 12 + o.us.length ∧ fs'.length ≤ fs.length + 1

def OLenOK (call : CallT) (N : Nat) : Prop := ∀ {P : Nat} {A : Hp} {fs : List (List Value)} {n : Nat} {V : Value}, A.wf → OW P fs n V A → n ≤ 100000000 → n < N → fs.length ≤ 1048576 →
  ∃ A', call 40 [ptr P, .agg #[V], .agg (opv 3 0 0 0 0 0 (.slice none 0 0) 0).toArray] A = some (.tuple #[.agg #[V], .bool true], A') ∧ KP P A A' ∧ OW P fs n V A'

theorem olen_ok {call call2 : CallT} {N : Nat} (h : OStep call N) (lf : Nat) (h40 : ∀ args A r, kfn Tryd.bk.E call (Tryd.bk.inf 40) lf Tryd.f40 args A = some r → call2 40 args A = some r) : OLenOK call2 N := by
  intro P A fs n V hw hI hn hN hfl
  have := flat_ge hI.ne
  have := hI.few
  obtain ⟨A', r1, r2, r3⟩ := ostep_len h hw hI lf 0 0 0 0 0 (a := none) (m := 0) (c := 0) 0 hn hfl (by omega)
  exact ⟨A', h40 _ _ _ r1, r2, r3⟩

theorem ostep_ok {call call2 : CallT} {N : Nat} (h : OStep call N) (lf : Nat) (h40 : ∀ args A r, kfn Tryd.bk.E call (Tryd.bk.inf 40) lf Tryd.f40 args A = some r → call2 40 args A = some r) : OStepOK call2 N := by
  intro P A fs n V hw hI o ho hl hN hfl
  have h1 := flat_ge hI.ne
  have h2 := hI.few
  obtain ⟨k, ver, typ, fl, st, ln, us, a, c, t⟩ := o
  obtain ⟨q1, q2, q3, q4, q5, q6, q7, q8, q9⟩ := ho
  simp only at q1 q2 q3 q4 q5 q6 q7 q8 q9 hl hN
  by_cases k1 : k = 1
  · subst k1
    by_cases hsz : (us.length : Int) = szOf typ ln
    · obtain ⟨V', A', r1, r2, r3⟩ := ostep_put h hw hI lf ver typ q4 q5 q6 q7 q8 q9 q2 q1 hsz t hl (by omega) (by omega)
      exact ⟨_, _, V', A', h40 _ _ _ r1, r2, r3, Nat.le_refl _, by simp⟩
    · obtain ⟨A', r1, r2, r3⟩ := ostep_bad h hw hI lf ver typ fl st ln q2 q1 hsz t (by omega)
      exact ⟨fs, n, V, A', h40 _ _ _ r1, r2, r3, by simp only; omega, by omega⟩
  · by_cases k2 : k = 2
    · subst k2
      obtain ⟨V', A', r1, r2, r3⟩ := ostep_take h hw hI lf ver typ fl st ln (a := a) (m := us.length) (c := c) t q3 (by omega) (by omega) (by omega)
      exact ⟨_, n, V', A', h40 _ _ _ r1, r2, r3, by simp only; omega, by have := dropF_len t.toNat fs; omega⟩
    · by_cases k3 : k = 3
      · subst k3
        obtain ⟨A', r1, r2, r3⟩ := ostep_len h hw hI lf ver typ fl st ln (a := a) (m := us.length) (c := c) t (by omega) (by omega) (by omega)
        exact ⟨fs, n, V, A', h40 _ _ _ r1, r2, r3, by simp only; omega, by omega⟩
      · by_cases k4 : k = 4
        · subst k4
          obtain ⟨V', A', r1, r2, r3⟩ := ostep_clear h hw hI lf ver typ fl st ln (a := a) (m := us.length) (c := c) t (by omega) (by omega) (by omega)
          exact ⟨[], n, V', A', h40 _ _ _ r1, r2, r3, by simp only; omega, by simp⟩
        · obtain ⟨A', r1, r2, r3⟩ := ostep_none hw hI lf k ver typ fl st ln (a := a) (m := us.length) (c := c) t k1 k2 k3 k4
          exact ⟨fs, n, V, A', h40 _ _ _ r1, r2, r3, by simp only; omega, by omega⟩

theorem T5_step {base : CallT} (hw : ∀ A, base 38 [] A = some (.bool true, A)) (h0 : ∀ A, base 27 [.nilIface] A = some (.int .i64 0, A)) (h48 : ∀ A, base 27 [lenErr] A = some (.int .i64 15, A))
    (hn : ∀ f args A, f ∈ [41, 42, 66, 67, 74, 75, 63, 64, 65, 73, 76, 77, 78] → base f args A = none) (n : Nat) : OStep (callD Tryd.bk (T5 base) (n + 9)) (n + 8) := by
  have hn1 : ∀ f args A, f ∈ [41, 42, 66, 67, 74, 75] → base f args A = none := fun f args A hf => hn f args A (by
    simp only [List.mem_cons, List.not_mem_nil, or_false] at hf
    rcases hf with rfl | rfl | rfl | rfl | rfl | rfl <;> simp)
  have hT : ∀ f args A, f ∈ [63, 64, 65, 73, 76, 77, 78] → T5 base f args A = none := fun f args A hf => by
    simp only [List.mem_cons, List.not_mem_nil, or_false] at hf
    rcases hf with rfl | rfl | rfl | rfl | rfl | rfl | rfl <;> exact hn _ args A (by simp)
  have r2 : ∀ k, RB2 (callD Tryd.bk (T5 base) (k + 4)) := fun k A v hw => by
    obtain ⟨A', r1, r2⟩ := rb2_walk (call := callD Tryd.bk (T5 base) (k + 3)) k hw v
    exact ⟨A', callD_of (hT 78 _ _ (by simp)) (fn := Tryd.f78) rfl r1, r2⟩
  have r4 : ∀ k, RB4 (callD Tryd.bk (T5 base) (k + 6)) := fun k A v hw => by
    obtain ⟨A', r1, r2⟩ := rb4_walk (call := callD Tryd.bk (T5 base) (k + 5)) k hw v
    exact ⟨A', callD_of (hT 78 _ _ (by simp)) (fn := Tryd.f78) rfl r1, r2⟩
  have re : ∀ k, REnc (callD Tryd.bk (T5 base) (k + 7)) := fun k A hw ver typ fl st ln a0 a1 a2 a3 a4 a5 => by
    obtain ⟨V, A', i, q1, q2⟩ := rencode_walk (r2 (k + 2)) (r4 k) (k + 6) hw ver typ a0 a1 a2 a3 a4 a5
    exact ⟨V, A', i, callD_of (hT 77 _ _ (by simp)) (fn := Tryd.f77) rfl q1, q2⟩
  have rs : ∀ k, RSize (callD Tryd.bk (T5 base) (k + 1)) := fun k A ver typ fl st ln => callD_of (hT 76 _ _ (by simp)) (fn := Tryd.f76) rfl (rsize_walk k A ver typ fl st ln)
  have rb : ∀ k, RBytes (callD Tryd.bk (T5 base) (k + 8)) := fun k A hw ver typ fl st ln a0 a1 a2 a3 a4 a5 a c us hB hl hsz => by
    obtain ⟨V, A', i, q1, q2⟩ := rbytes_walk (rs (k + 6)) (re k) (k + 7) hw ver typ a0 a1 a2 a3 a4 a5 hB hl hsz
    exact ⟨V, A', i, callD_of (hT 73 _ _ (by simp)) (fn := Tryd.f73) rfl q1, q2⟩
  have rx : ∀ k, RBad (callD Tryd.bk (T5 base) (k + 8)) := fun k A hw ver typ fl st ln a c m hsz => by
    obtain ⟨A', q1, q2⟩ := rbytes_bad (rs (k + 6)) (k + 7) hw ver typ fl st ln (a := a) (c := c) hsz
    exact ⟨A', callD_of (hT 73 _ _ (by simp)) (fn := Tryd.f73) rfl q1, q2⟩
  refine ⟨T5_fns hw h0 h48 hn1 (n + 6), fun hw hR hfl hlf ver typ fl st ln a0 a1 a2 a3 a4 a5 a c us hB hl hsz => ?_, fun hw va vn vc ver typ fl st ln a c m hsz => ?_, fun hw hR hfl hne hus hsum hlf t => ?_, fun hw hR hfl hs hlf => ?_⟩
  · obtain ⟨V', A', q1, q2⟩ := rput_walk (rb n) (n + 8) hw hR hfl hlf ver typ a0 a1 a2 a3 a4 a5 hB hl hsz
    exact ⟨V', A', callD_of (hT 63 _ _ (by simp)) (fn := Tryd.f63) rfl q1, q2⟩
  · obtain ⟨A', q1, q2⟩ := rput_bad (rx n) (n + 8) hw (va := va) (vn := vn) (vc := vc) ver typ fl st ln (a := a) (c := c) hsz
    exact ⟨A', callD_of (hT 63 _ _ (by simp)) (fn := Tryd.f63) rfl q1, q2⟩
  · obtain ⟨V', Vo, A', q1, q2⟩ := rtake_walk (call := callD Tryd.bk (T5 base) (n + 8)) (n + 8) hw hR hfl hne hus hsum hlf t
    exact ⟨V', Vo, A', callD_of (hT 64 _ _ (by simp)) (fn := Tryd.f64) rfl q1, q2⟩
  · obtain ⟨A', q1, q2⟩ := rlen_walk (call := callD Tryd.bk (T5 base) (n + 8)) (n + 8) hw hR hfl hs hlf
    exact ⟨A', callD_of (hT 65 _ _ (by simp)) (fn := Tryd.f65) rfl q1, q2⟩
end Go.Dn.Pipe
end

section
/-
  'OutPlays', run
-/
namespace Go.Dn.Pipe
open Go.Proofs
set_option maxHeartbeats 4000000
set_option maxRecDepth 100000
attribute [local irreducible] Hp.get Hp.set Hp.push dappend dcopy dstore cellsAt callD loopD dstring guardL hideL backL

theorem hidden_get {P : Nat} {A B' : Hp} (hw : A.wf) (hP : P < A.next) (ob : Ob) (hk : KP P (guardL (hideL (A.push ob) [A.next]) []) B') :
    B'.get A.next = none ∧ ∀ j, j ≠ A.next → (backL (A.push ob) (backL (A.push ob) B' []) [A.next]).get j = B'.get j := by
  obtain ⟨x1, x2, _⟩ := hidden_call hw hP ob
  refine ⟨?_, fun j hj => ?_⟩
  · rw [hk.old A.next (by omega) (by omega), guardL_get, if_neg List.not_mem_nil, hideL_get, if_pos (by simp)]
  · rw [backL_get, backL_get, if_neg List.not_mem_nil, if_neg (by simpa using hj)]

section
variable {call : CallT} {N : Nat} (hS : OStepOK call N) (hL : OLenOK call N) {A0 : Hp} {P : Nat} (hPl : P < A0.next) (hw0 : A0.wf) {ops : List OpO} (hops : ∀ o ∈ ops, o.ok A0) {ib : Nat} (hib : A0.get ib = some (.arr 88 (ops.map OpO.cells).flatten .sh)) (hibP : ib ≠ P) {X : Dat} (hP0 : A0.get P = some (.abs 2 X))
include hS hL hPl hw0 hops hib hibP hP0

theorem oplays_round (lf : Nat) {A : Hp} {fs : List (List Value)} {n : Nat} {V : Value} {c : Nat} {i : Nat} (hk : KP P A0 A) (hI : OW P fs n V A) (hq : A.get A0.next = some (.arr 79 [V] .own)) (hi : i < ops.length) (hm : ops.length ≤ 1048576) (hb : n + sumO (ops.drop i) ≤ 100000000) (hN : n + sumO (ops.drop i) < N) (hfl : fs.length ≤ i) :
    ∃ σ1 A1 fs' n' V', exec Tryd.bk.E call Tryd.f10.ntmps (Tryd.bk.inf 10) lf (loopOf Tryd.f10 0) [(0, .slice (some ⟨ib, 0, some 8⟩) ops.length c), (2, .bool false), (3, ptr P), (4, ptr A0.next), (5, .int .i64 (i : Nat))] A = some (.normal, σ1, A1) ∧
      keepSl (some [0, 2, 3, 4, 5]) σ1 = [(0, .slice (some ⟨ib, 0, some 8⟩) ops.length c), (2, .bool false), (3, ptr P), (4, ptr A0.next), (5, .int .i64 (i + 1 : Nat))] ∧ KP P A0 A1 ∧ OW P fs' n' V' A1 ∧ A1.get A0.next = some (.arr 79 [V'] .own) ∧
      n' + sumO (ops.drop (i + 1)) ≤ n + sumO (ops.drop i) ∧ fs'.length ≤ i + 1 := by
  obtain ⟨o, ho⟩ : ∃ o, ops[i]? = some o := ⟨_, List.getElem?_eq_getElem hi⟩
  have hok := hops o (List.mem_of_getElem? ho)
  have hgi : A.get ib = some (.arr 88 (ops.map OpO.cells).flatten .sh) := by rw [hk.old ib (hw0.lt hib) hibP]; exact hib
  obtain ⟨f1, f2⟩ := flat_row (css := ops.map OpO.cells) (sz := 8) (fun k c hc => by
    rw [List.getElem?_map] at hc
    cases hh : ops[k]? with
    | none => rw [hh] at hc; cases hc
    | some x => rw [hh] at hc; cases hc; rfl) i o.cells (by rw [List.getElem?_map, ho]; rfl)
  have hcell : cellsIn (ops.map OpO.cells).flatten (0 + i * 8) 8 = some o.cells := cellsIn_of (by omega) (by rw [Nat.zero_add]; exact f2)
  have e1 : ((i : Nat) : Int) < ((ops.length : Nat) : Int) := by omega
  have hsum : sumO (ops.drop i) = o.us.length + 12 + sumO (ops.drop (i + 1)) := by
    rw [List.drop_eq_getElem_cons hi]
    have : ops[i] = o := by
      rw [List.getElem?_eq_getElem hi] at ho
      exact Option.some.inj ho
    rw [this]
    rfl
  have hPA : P < A.next := by have := hk.nx; omega
  have hqA : A0.next < A.next := hk.wf.lt hq
  let Z : Ob := .arr 79 [.slice none 0 0] .own
  let B : Hp := guardL (hideL (A.push Z) [A.next]) []
  obtain ⟨x1, x2, x3, x4, x5⟩ := hidden_call hk.wf hPA Z
  have kB : KP P A0 B := hk.trans x3
  have hoB : o.ok B := ⟨kB.bs hw0 hP0 hok.bs, hok.bytes, hok.nb, hok.f0, hok.f1, hok.s0, hok.s1, hok.l0, hok.l1⟩
  obtain ⟨fs1, n1, V1, B1, s1, s2, s3, s4, s5⟩ := hS x1 ⟨hI.rf.kp hk.wf x3 hI.buf, hI.ne, hI.bytes, hI.few, x4.trans hI.buf⟩ o hoB (by omega) (by omega) (by omega)
  obtain ⟨y1, y2, y3, _, _⟩ := x5 B1 s2
  obtain ⟨z1, z2⟩ := hidden_get hk.wf hPA Z s2
  obtain ⟨av, cv, rfl⟩ := s3.rf.sl
  let D : Hp := backL (A.push Z) (backL (A.push Z) B1 []) [A.next]
  let W : List Value := [.slice av fs1.length cv]
  let E1 : Hp := D.set A.next (some (.arr 79 W .own))
  let E2 : Hp := E1.set A0.next (some (.arr 79 W .own))
  have hqD : D.get A0.next = some (.arr 79 [V] .own) := by rw [y1.old _ hqA (by omega)]; exact hq
  have hqE1 : E1.get A0.next = some (.arr 79 [V] .own) := by rw [Hp.get_set_ne _ _ (by omega)]; exact hqD
  have hE1w : E1.wf := y1.wf.put y3 _
  have hE2w : E2.wf := hE1w.put hqE1 _
  have hRD : RF D (.slice av fs1.length cv) fs1 := s3.rf.keep fun j T cs md hg => z2 j (by rintro rfl; rw [z1] at hg; cases hg)
  have hRE1 : RF E1 (.slice av fs1.length cv) fs1 := hRD.set (q := A.next) (fun T cs e => by
    rw [show D.get A.next = some (.arr 79 [.slice none 0 0] .own) from y3] at e
    cases e
    decide) _
  have hRE2 : RF E2 (.slice av fs1.length cv) fs1 := hRE1.set (q := A0.next) (fun T cs e => by rw [hqE1] at e; cases e; decide) _
  have hPE2 : E2.get P = some (.abs 2 (OX.dat ⟨fs1, n1⟩)) := by
    rw [Hp.get_set_ne _ _ (by omega), Hp.get_set_ne _ _ (by omega), y2]; exact s3.buf
  have kE2 : KP P A0 E2 := ((hk.trans y1).set y3 (by omega) _).set hqE1 (Nat.le_refl _) _
  obtain ⟨F1, u1, u2, u3⟩ := hL hE2w ⟨hRE2, s3.ne, s3.bytes, s3.few, hPE2⟩ (by omega) (by omega) (by omega)
  have kF : KP P A0 F1 := kE2.trans u2
  have hDn : A.next ≤ D.next := y1.nx
  have n2 : E2.next = D.next := by simp [E2, E1]
  have hqF : F1.get A0.next = some (.arr 79 W .own) := by rw [u2.old _ (by rw [n2]; omega) (by omega)]; exact Hp.get_set_same _ _ _
  let G : Hp := (F1.push Z).set F1.next (some (.arr 79 W .own))
  have kG : KP P A0 G := (kF.trans ((Kp.push u2.wf Z).toP P)).set (Hp.get_push_same _ _) kF.nx _
  have oG : ∀ j, j < F1.next → G.get j = F1.get j := fun j hj => by
    rw [Hp.get_set_ne _ _ (by omega), Hp.get_push_ne _ _ (by omega)]
  have hw2 : IntKind.i64.wrap ((i : Int) + 1) = ((i + 1 : Nat) : Int) := by rw [wrap64 (by omega) (by omega)]; omega
  have hqFl := u2.wf.lt hqF
  refine ⟨?s, G, fs1, n1, .slice av fs1.length cv, kexec_run ?run, ?kp, kG, ⟨u3.rf.keep fun j T cs md hg => oG j (u2.wf.lt hg), s3.ne, s3.bytes, s3.few, (oG P (by omega)).trans u3.buf⟩, (oG _ hqFl).trans hqF, by omega, by omega⟩
  case run =>
    conv => lhs; whnf
    rw [kdec e1]
    conv => lhs; whnf
    refine bind_of (cellsAt_of hq _ _) ?_
    conv => lhs; whnf
    rw [kdec e1]
    conv => lhs; whnf
    refine bind_of ((cellsAt_of hgi _ _).trans hcell) ?_
    conv => lhs; whnf
    refine bind_of s1 ?_
    conv => lhs; whnf
    refine bind_of (dstore_of y3 (t := 79) (o := 0) (cs' := W) rfl) ?_
    conv => lhs; whnf
    refine bind_of (cellsAt_of (A := E1) (i := A.next) (Hp.get_set_same _ _ _) 0 1) ?_
    conv => lhs; whnf
    refine bind_of (dstore_of hqE1 (t := 79) (o := 0) (cs' := W) rfl) ?_
    conv => lhs; whnf
    refine bind_of (cellsAt_of (A := E2) (i := A0.next) (Hp.get_set_same _ _ _) 0 1) ?_
    conv => lhs; whnf
    refine bind_of u1 ?_
    conv => lhs; whnf
    refine bind_of (dstore_of (Hp.get_push_same _ _) (t := 79) (o := 0) (cs' := W) rfl) ?_
    conv => lhs; whnf
    rfl
  case kp =>
    show [_, _, _, _, (5, Value.int .i64 (IntKind.i64.wrap ((i : Int) + 1)))] = _
    rw [hw2]

structure PO where
  i : Nat
  fs : List (List Value)
  n : Nat
  v : Value

omit hS hL hPl hw0 hops hib hibP hP0 in
theorem oplays_end (lf : Nat) {A : Hp} (a : Option Addr) (m c i : Nat) (V3 V4 : Value) (hi : ¬ i < m) :
    ∃ σ1, exec Tryd.bk.E call Tryd.f10.ntmps (Tryd.bk.inf 10) lf (loopOf Tryd.f10 0) [(0, .slice a m c), (2, .bool false), (3, V3), (4, V4), (5, .int .i64 (i : Nat))] A = some (.exit 0, σ1, A) ∧
      keepSl (some [0, 2, 3, 4, 5]) σ1 = [(0, .slice a m c), (2, .bool false), (3, V3), (4, V4), (5, .int .i64 (i : Nat))] := by
  have e1 : ¬ ((i : Nat) : Int) < ((m : Nat) : Int) := by omega
  refine ⟨?s, kexec_run ?run, ?kp⟩
  case run =>
    conv => lhs; whnf
    rw [kdecn e1]
  case kp => rfl

theorem oplays_loop (lf : Nat) {A : Hp} {c : Nat} {V : Value} (hk : KP P A0 A) (hI : OW P [] 0 V A) (hq : A.get A0.next = some (.arr 79 [V] .own)) (hm : ops.length ≤ 1048576) (hb : sumO ops ≤ 100000000) (hN : sumO ops < N) (hlf : ops.length < lf) :
    ∃ A1 V5, loopD (some [0, 2, 3, 4, 5]) (exec Tryd.bk.E call Tryd.f10.ntmps (Tryd.bk.inf 10) lf (loopOf Tryd.f10 0)) lf [(0, .slice (some ⟨ib, 0, some 8⟩) ops.length c), (2, .bool false), (3, ptr P), (4, ptr A0.next), (5, .int .i64 ((0 : Nat) : Int))] A =
      some (.exit 0, [(0, .slice (some ⟨ib, 0, some 8⟩) ops.length c), (2, .bool false), (3, ptr P), (4, ptr A0.next), (5, V5)], A1) := by
  have key := loop_rule (ks := some [0, 2, 3, 4, 5]) (f := exec Tryd.bk.E call Tryd.f10.ntmps (Tryd.bk.inf 10) lf (loopOf Tryd.f10 0)) (S := PO)
    (fun s => [(0, .slice (some ⟨ib, 0, some 8⟩) ops.length c), (2, .bool false), (3, ptr P), (4, ptr A0.next), (5, .int .i64 (s.i : Nat))])
    (fun s A => s.i ≤ ops.length ∧ KP P A0 A ∧ OW P s.fs s.n s.v A ∧ A.get A0.next = some (.arr 79 [s.v] .own) ∧ s.n + sumO (ops.drop s.i) ≤ sumO ops ∧ s.fs.length ≤ s.i) (fun s => ops.length - s.i)
    (fun e σ A1 => e = .exit 0 ∧ ∃ V5, σ = [(0, .slice (some ⟨ib, 0, some 8⟩) ops.length c), (2, .bool false), (3, ptr P), (4, ptr A0.next), (5, V5)]) (fun s A hs => ?_)
    lf ⟨0, [], 0, V⟩ A ⟨Nat.zero_le _, hk, hI, hq, by simp, by simp⟩ (by simp only; omega)
  · obtain ⟨e, σ1, A1, k1, rfl, V5, rfl⟩ := key
    exact ⟨A1, V5, k1⟩
  · obtain ⟨i, fs, n, v⟩ := s
    obtain ⟨z1, z2, z3, z4, z5, z6⟩ := hs
    simp only at z1 z2 z3 z4 z5 z6 ⊢
    by_cases him : i < ops.length
    · obtain ⟨σ1, A1, fs', n', V', r1, r2, r3, r4, r5, r6, r7⟩ := oplays_round hS hL hPl hw0 hops hib hibP hP0 lf (c := c) z2 z3 z4 him hm (by omega) (by omega) z6
      exact ⟨.normal, σ1, A1, r1, .inl ⟨rfl, ⟨i + 1, fs', n', V'⟩, r2, ⟨him, r3, r4, r5, by simp only; omega, r7⟩, by simp only; omega⟩⟩
    · obtain ⟨σ1, r1, r2⟩ := oplays_end (call := call) lf (A := A) (some ⟨ib, 0, some 8⟩) ops.length c i (ptr P) (ptr A0.next) him
      exact ⟨.exit 0, σ1, A, r1, .inr ⟨by simp, rfl, _, r2⟩⟩
end

theorem oplays_walk {call : CallT} {N : Nat} (hp : OutFns call) (hS : OStepOK call N) (hL : OLenOK call N) {A : Hp} (hw : A.wf) {ops : List OpO} (hops : ∀ o ∈ ops, o.ok A) {a : Option Addr} {c : Nat} (hv : ArgSl 88 8 A (.slice a ops.length c) (ops.map OpO.cells).flatten ops.length)
    (hm : ops.length ≤ 1048576) (hb : sumO ops ≤ 100000000) (hN : sumO ops < N) (lf : Nat) (hlf : ops.length < lf) :
    ∃ A', kfn Tryd.bk.E call (Tryd.bk.inf 10) lf Tryd.f10 [.slice a ops.length c] A = some (.bool true, A') := by
  have hnew := hp.new (NewOR.mk A)
  let A1 : Hp := A.push (.abs 2 OX.new.dat)
  let Z : List Value := [.slice none 0 0]
  let A2 : Hp := (A1.push (.arr 79 Z .own)).set A1.next (some (.arr 79 Z .own))
  have hw1 : A1.wf := hw.push _
  have hn1 : A1.next = A.next + 1 := by simp [A1]
  have hP1 : A1.get A.next = some (.abs 2 OX.new.dat) := Hp.get_push_same _ _
  have k1 : KP A.next A1 A2 := ((Kp.push hw1 (.arr 79 Z .own)).toP A.next).set (Hp.get_push_same _ _) (Nat.le_refl _) _
  have old : ∀ j, j < A.next → A1.get j = A.get j := fun j hj => Hp.get_push_ne _ _ (by omega)
  have hI : OW A.next [] 0 (.slice none 0 0) A2 := ⟨⟨[], none, .nil, rfl, by simp⟩, by simp, fun j x hx => by simp at hx, Nat.le_refl _, by
    rw [Hp.get_set_ne _ _ (by omega), Hp.get_push_ne _ _ (by omega)]; exact hP1⟩
  have hq : A2.get A1.next = some (.arr 79 Z .own) := Hp.get_set_same _ _ _
  have key : ∃ A3 V5, loopD (some [0, 2, 3, 4, 5]) (exec Tryd.bk.E call Tryd.f10.ntmps (Tryd.bk.inf 10) lf (loopOf Tryd.f10 0)) lf [(0, .slice a ops.length c), (2, .bool false), (3, ptr A.next), (4, ptr A1.next), (5, .int .i64 ((0 : Nat) : Int))] A2 =
      some (.exit 0, [(0, .slice a ops.length c), (2, .bool false), (3, ptr A.next), (4, ptr A1.next), (5, V5)], A3) := by
    generalize hv0 : (Value.slice a ops.length c) = v0 at hv
    generalize hfl : (ops.map OpO.cells).flatten = fl at hv
    generalize hol : ops.length = ol at hv hv0
    cases hv with
    | nil cc hc =>
      cases hv0
      obtain ⟨σ1, r1, r2⟩ := oplays_end (call := call) lf (A := A2) none 0 c 0 (ptr A.next) (ptr A1.next) (by omega)
      have := loop_out (ks := some [0, 2, 3, 4, 5]) r1 (by simp) (n := lf) (by omega)
      rw [r2] at this
      exact ⟨A2, _, this⟩
    | «at» id _ _ hg hl =>
      cases hv0
      subst hol hfl
      have hidl := hw.lt hg
      exact oplays_loop hS hL (A0 := A1) (P := A.next) (by omega) hw1 (fun o ho => let q := hops o ho; ⟨q.bs.old hw old, q.bytes, q.nb, q.f0, q.f1, q.s0, q.s1, q.l0, q.l1⟩) (ib := id) (by rw [old id hidl]; exact hg) (by omega) hP1 lf k1 hI hq hm hb hN hlf
  obtain ⟨A3, V5, l1⟩ := key
  refine ⟨A3, ?run⟩
  case run =>
    conv => lhs; whnf
    refine bind_of (hp.wakes _) ?_
    conv => lhs; whnf
    refine bind_of hnew ?_
    conv => lhs; whnf
    refine bind_of (dstore_of (Hp.get_push_same _ _) (t := 79) (o := 0) (cs' := Z) rfl) ?_
    conv => lhs; whnf
    refine bind_of l1 ?_
    conv => lhs; whnf
    rfl
end Go.Dn.Pipe
end

section
/-
  'OutPieces': a round of the second loop
-/
namespace Go.Dn.Pipe
open Go.Proofs
set_option maxHeartbeats 4000000
set_option maxRecDepth 100000
attribute [local irreducible] Hp.get Hp.set Hp.push dappend dcopy dstore cellsAt callD loopD guardL hideL backL dstring kslice

theorem stO : StrT Tryd.bk.E 22 9 := ⟨⟨_, _, 5, _, rfl, rfl, rfl, rfl, rfl, rfl⟩⟩

structure OJ (A0 : Hp) (P : Nat) (fs : List (List Value)) (n a : Nat) (A : Hp) : Prop where
  kp : KP P A0 A
  obj : A.get P = some (.abs 2 (OX.dat ⟨dropF a fs, n⟩))
  le : a ≤ fs.flatten.length

section
variable {call : CallT} (h : OutFns call) {A0 : Hp} {P : Nat} (hPl : P < A0.next) (hw0 : A0.wf) {fs : List (List Value)} {n : Nat} (hn : n ≤ 100000000) (hfew : fs.flatten.length ≤ n) (hby : IsB fs.flatten)
include h hPl hw0 hn hfew hby

omit hw0 hfew in
theorem oj_take {A : Hp} {a : Nat} (hJ : OJ A0 P fs n a A) {k : Int} (hk : k ≤ 9223372036854775807) :
    ∃ av cv A1, call 44 [ptr P, .int .i64 k] A = some (.slice av ((fs.flatten.drop a).take k.toNat).length cv, A1) ∧ BsAt A1 (.slice av ((fs.flatten.drop a).take k.toNat).length cv) ((fs.flatten.drop a).take k.toNat) ∧ OJ A0 P fs n (a + ((fs.flatten.drop a).take k.toNat).length) A1 := by
  have h1 := h.take (TakeOR.mk A P ⟨dropF a fs, n⟩ hJ.obj k hk (by simp only; omega) (by
    simp only [dropF_flat]
    exact fun u hu => hby.plain u (List.mem_of_mem_drop hu)))
  simp only [dropF_flat, dropF_add] at h1
  have hle := hJ.le
  have hlen : ((fs.flatten.drop a).take k.toNat).length = min k.toNat (fs.flatten.length - a) := by simp
  have hdr : dropF (a + k.toNat) fs = dropF (a + ((fs.flatten.drop a).take k.toNat).length) fs := by
    rw [← dropF_min (a + k.toNat), ← dropF_min (a + ((fs.flatten.drop a).take k.toNat).length), hlen]
    congr 1
    omega
  rw [hdr] at h1
  have hal : a + ((fs.flatten.drop a).take k.toNat).length ≤ fs.flatten.length := by omega
  generalize (fs.flatten.drop a).take k.toNat = out at *
  let B : Hp := A.set P (some (.abs 2 (OX.dat ⟨dropF (a + out.length) fs, n⟩)))
  have hPA : P < A.next := by have := hJ.kp.nx; omega
  have hBn : B.next = A.next := by simp [B, Hp.next_set]
  have hBw : B.wf := hJ.kp.wf.put hJ.obj _
  obtain ⟨av, cv, iv, o1, o2, _⟩ := outV_at B out
  rw [hBn] at o1
  rw [o1] at h1
  refine ⟨av, cv, _, h1, o2.slAt.bs, ⟨⟨pushL_outE_wf hBw out, ?_, fun j hj hjP => ?_⟩, ?_, hal⟩⟩
  · have h9 : B.next ≤ (pushL .own B (outE out)).next := pushL_outE_next B out
    have := hJ.kp.nx
    exact Nat.le_trans (by omega) h9
  · rw [pushL_outE_get B out j (by rw [hBn]; have := hJ.kp.nx; omega), show B.get j = A.get j from Hp.get_set_ne _ _ hjP, hJ.kp.old j hj hjP]
  · rw [pushL_outE_get B out P (by rw [hBn]; exact hPA)]
    exact Hp.get_set_same _ _ _

omit h hPl hw0 hn hfew hby in
theorem oj_same {A : Hp} {a : Nat} (hJ : OJ A0 P fs n a A) : OJ A0 P fs n a (A.set P (some (.abs 2 (OX.dat ⟨dropF a fs, n⟩)))) :=
  ⟨hJ.kp.trans (KP.setO ⟨hJ.kp.wf, Nat.le_refl _, fun _ _ _ => rfl⟩ hJ.obj _), Hp.get_set_same _ _ _, hJ.le⟩

omit hPl hw0 hfew hby in
theorem oj_len {A : Hp} {a : Nat} (hJ : OJ A0 P fs n a A) : ∃ A1, call 45 [ptr P] A = some (.int .i64 ((fs.flatten.length - a : Nat) : Int), A1) ∧ OJ A0 P fs n a A1 := by
  have h1 := h.len (LenOR.mk A P ⟨dropF a fs, n⟩ hJ.obj (by simp only; omega))
  simp only [dropF_flat, List.length_drop] at h1
  exact ⟨_, h1, oj_same hJ⟩

omit hPl hw0 hn hfew hby in
theorem oj_frames {A : Hp} {a : Nat} (hJ : OJ A0 P fs n a A) : ∃ A1, call 46 [ptr P] A = some (.int .i64 ((dropF a fs).length : Nat), A1) ∧ OJ A0 P fs n a A1 :=
  ⟨_, h.frames (FramesOR.mk A P ⟨dropF a fs, n⟩ hJ.obj), oj_same hJ⟩

theorem op_round2 (lf : Nat) {V6 V7 : Value} {io6 io7 : Option Nat} (h6 : CanAt 5 1 A0 V6 io6 fs.flatten fs.flatten.length) (h6P : io6 ≠ some P) (h7 : CanAt 3 1 A0 V7 io7 (endsV fs) fs.length) (h7P : io7 ≠ some P)
    (hfl : fs.length ≤ 1048576) (hlf : fs.length < lf) {ia : Nat} {ks : List Value} {n1 c1 : Nat} (hia : A0.get ia = some (.arr 3 ks .sh)) (hiaP : ia ≠ P) (hn1 : n1 ≤ 1048576) {A : Hp} {a j : Nat} (hJ : OJ A0 P fs n a A) (hj : j < n1) {k : Int} (hkj : ks[j]? = some (.int .i64 k)) (hk : k ≤ 9223372036854775807) :
    ∃ σ1 A1 a', exec Tryd.bk.E call Tryd.f11.ntmps (Tryd.bk.inf 11) lf (loopOf Tryd.f11 1) [(1, .slice (some ⟨ia, 0, some 1⟩) n1 c1), (4, .bool false), (5, ptr P), (6, V6), (7, V7), (12, .int .i64 (a : Nat)), (13, .int .i64 (j : Nat))] A = some (.normal, σ1, A1) ∧
      keepSl (some [1, 4, 5, 6, 7, 12, 13]) σ1 = [(1, .slice (some ⟨ia, 0, some 1⟩) n1 c1), (4, .bool false), (5, ptr P), (6, V6), (7, V7), (12, .int .i64 (a' : Nat)), (13, .int .i64 (j + 1 : Nat))] ∧ OJ A0 P fs n a' A1 := by
  have e1 : ((j : Nat) : Int) < ((n1 : Nat) : Int) := by omega
  have hcell : cellsIn ks (0 + j * 1) 1 = some [.int .i64 k] := by
    have hlt : j < ks.length := (List.getElem?_eq_some_iff.1 hkj).1
    refine cellsIn_of (by omega) ?_
    rw [Nat.zero_add, Nat.mul_one, List.drop_eq_getElem_cons hlt, List.take_succ_cons, List.take_zero]
    rw [List.getElem?_eq_getElem hlt] at hkj
    rw [Option.some.inj hkj]
  have hw2 : IntKind.i64.wrap ((j : Int) + 1) = ((j + 1 : Nat) : Int) := by rw [wrap64 (by omega) (by omega)]; omega
  have hgi : A.get ia = some (.arr 3 ks .sh) := by rw [hJ.kp.old ia (hw0.lt hia) hiaP]; exact hia
  obtain ⟨av, cv, A1, t1, t2, t3⟩ := oj_take h hPl hn hby hJ hk
  have hle := hJ.le
  have hle1 := t3.le
  generalize hout : (fs.flatten.drop a).take k.toNat = out at t1 t2 t3 hle1
  have hlo : out.length = min k.toNat (fs.flatten.length - a) := by rw [← hout]; simp
  have hgi1 : A1.get ia = some (.arr 3 ks .sh) := by rw [t3.kp.old ia (hw0.lt hia) hiaP]; exact hia
  have h61 := can_keep h6 hw0 t3.kp h6P
  obtain ⟨a6, c6, hV6⟩ := h6.slAt.bs.form
  obtain ⟨w, hds, hbw⟩ := part_of h61 (i := a) (j := a + out.length) (by omega) hle1
  rw [show a + out.length - a = out.length by omega] at hbw
  have hpart : (fs.flatten.drop a).take out.length = out := by
    rw [hlo, ← hout]
    by_cases hc : k.toNat ≤ fs.flatten.length - a
    · rw [Nat.min_eq_left hc]
    · rw [Nat.min_eq_right (by omega), List.take_of_length_le (by rw [List.length_drop]; omega), List.take_of_length_le (by rw [List.length_drop]; omega)]
  rw [hpart] at hbw
  obtain ⟨ns, hns⟩ := bytesOf_some (us := out) fun i x hx => by
    rw [← hout, List.getElem?_take] at hx
    split at hx
    · rw [List.getElem?_drop] at hx; exact hby _ _ hx
    · cases hx
  have hd1 := dstring_bs stO t2 hns
  have hd2 := dstring_bs stO hbw hns
  have hsub : IntKind.i64.wrap (((fs.flatten.length : Nat) : Int) - ((a : Nat) : Int)) = ((fs.flatten.length - a : Nat) : Int) := by rw [wrap64 (by omega) (by omega)]; omega
  have hadd : IntKind.i64.wrap (((a : Nat) : Int) + ((out.length : Nat) : Int)) = ((a + out.length : Nat) : Int) := by rw [wrap64 (by omega) (by omega)]; omega
  have hsub2 : IntKind.i64.wrap (((fs.flatten.length : Nat) : Int) - ((a + out.length : Nat) : Int)) = ((fs.flatten.length - (a + out.length) : Nat) : Int) := by rw [wrap64 (by omega) (by omega)]; omega
  obtain ⟨L, hloop⟩ := count_loop (call := call) lf (can_keep h7 hw0 t3.kp h7P) hfl hlf (a + out.length) (.slice (some ⟨ia, 0, some 1⟩) n1 c1) (ptr P) V6 (.int .i64 (j : Nat))
  obtain ⟨A2, q1, q2⟩ := oj_len h hn t3
  obtain ⟨A3, q3, q4⟩ := oj_frames h q2
  have c1' : ¬ ((out.length : Nat) : Int) > ((fs.flatten.length - a : Nat) : Int) := by omega
  have de1 : decide (((j : Nat) : Int) < ((n1 : Nat) : Int)) = true := decide_eq_true e1
  have dc : decide (((out.length : Nat) : Int) > ((fs.flatten.length - a : Nat) : Int)) = false := decide_eq_false c1'
  have d2 : k ≤ 0 → decide (((out.length : Nat) : Int) > 0) = false := fun h0 => decide_eq_false (by omega)
  have d4 : ¬ k ≤ 0 → decide (((out.length : Nat) : Int) > k) = false := fun h0 => decide_eq_false (by omega)
  have d6 : ((out.length : Nat) : Int) < ((fs.flatten.length - a : Nat) : Int) → decide (k > ((out.length : Nat) : Int)) = false := fun h0 => decide_eq_false (by omega)
  have d36 : k ≤ 0 → decide (k > 0) = false := fun h0 => decide_eq_false (by omega)
  have d37 : ¬ k ≤ 0 → decide (k > 0) = true := fun h0 => decide_eq_true (by omega)
  subst hV6
  by_cases hk0 : k ≤ 0 <;> by_cases hmore : ((out.length : Nat) : Int) < ((fs.flatten.length - a : Nat) : Int) <;> (
    apply Exists.intro
    refine ⟨A3, a + out.length, kexec_run ?_, ?_, q4⟩
    · conv => lhs; whnf
      rw [de1]
      conv => lhs; whnf
      rw [de1]
      conv => lhs; whnf
      refine bind_of ((cellsAt_of hgi _ _).trans hcell) ?_
      conv => lhs; whnf
      refine bind_of t1 ?_
      conv => lhs; whnf
      rw [hsub, dc]
      conv => lhs; whnf
      refine bind_of hd1 ?_
      refine bif_of (all_blk t2 fun i => rfl) ?_
      conv => lhs; whnf
      rw [hadd]
      refine (hds _).trans ?_
      refine bind_of hd2 ?_
      refine bif_of (all_blk hbw fun i => rfl) ?_
      conv => lhs; whnf
      rw [beq_self_eq_true]
      repeat (
        conv => lhs; whnf
        first
          | rw [de1]
          | refine bind_of ((cellsAt_of hgi1 _ _).trans hcell) ?_
          | rw [decide_eq_true hk0]
          | rw [decide_eq_false hk0]
          | rw [d2 hk0]
          | rw [d36 hk0]
          | rw [d37 hk0]
          | rw [d4 hk0]
          | rw [hsub, decide_eq_true hmore]
          | rw [hsub, decide_eq_false hmore]
          | rw [d6 hmore])
      conv => lhs; whnf
      rw [hadd]
      refine bind_of hloop ?_
      conv => lhs; whnf
      refine bind_of q1 ?_
      conv => lhs; whnf
      rw [hsub2, bne_self_eq_false]
      conv => lhs; whnf
      refine bind_of q3 ?_
      conv => lhs; whnf
      rw [bne_self_eq_false]
      conv => lhs; whnf
    · show [_, _, _, _, _, _, (13, Value.int .i64 (IntKind.i64.wrap ((j : Int) + 1)))] = _
      rw [hw2])
end
end Go.Dn.Pipe
end

section
/-
  'OutPieces', run
-/
namespace Go.Dn.Pipe
open Go.Proofs
set_option maxHeartbeats 4000000
set_option maxRecDepth 100000
attribute [local irreducible] Hp.get Hp.set Hp.push dappend dcopy dstore cellsAt callD loopD guardL hideL backL dstring kslice

structure O1 where
  i : Nat
  fs : List (List Value)
  n : Nat
  v6 : Value
  v7 : Value

theorem op_end {call : CallT} (lf : Nat) {A : Hp} (a : Option Addr) (m c i : Nat) (V1 V5 V6 V7 : Value) (hi : ¬ i < m) :
    ∃ σ1, exec Tryd.bk.E call Tryd.f11.ntmps (Tryd.bk.inf 11) lf (loopOf Tryd.f11 0) [(0, .slice a m c), (1, V1), (4, .bool false), (5, V5), (6, V6), (7, V7), (8, .int .i64 (i : Nat))] A = some (.exit 0, σ1, A) ∧
      keepSl (some [0, 1, 4, 5, 6, 7, 8]) σ1 = [(0, .slice a m c), (1, V1), (4, .bool false), (5, V5), (6, V6), (7, V7), (8, .int .i64 (i : Nat))] := by
  have e1 : ¬ ((i : Nat) : Int) < ((m : Nat) : Int) := by omega
  refine ⟨?sg, kexec_run ?run, ?kp⟩
  case run =>
    conv => lhs; whnf
    rw [kdecn e1]
  case kp => rfl

theorem op_end2 {call : CallT} (lf : Nat) {A : Hp} (a : Option Addr) (m c i : Nat) (V5 V6 V7 V12 : Value) (hi : ¬ i < m) :
    ∃ σ1, exec Tryd.bk.E call Tryd.f11.ntmps (Tryd.bk.inf 11) lf (loopOf Tryd.f11 1) [(1, .slice a m c), (4, .bool false), (5, V5), (6, V6), (7, V7), (12, V12), (13, .int .i64 (i : Nat))] A = some (.exit 2, σ1, A) ∧
      keepSl (some [1, 4, 5, 6, 7, 12, 13]) σ1 = [(1, .slice a m c), (4, .bool false), (5, V5), (6, V6), (7, V7), (12, V12), (13, .int .i64 (i : Nat))] := by
  have e1 : ¬ ((i : Nat) : Int) < ((m : Nat) : Int) := by omega
  refine ⟨?sg, kexec_run ?run, ?kp⟩
  case run =>
    conv => lhs; whnf
    rw [kdecn e1]
  case kp => rfl

/-- the frames' loop -/
theorem op_loop1 {call : CallT} (h : OutFns call) {A0 : Hp} {P : Nat} (hPl : P < A0.next) (hw0 : A0.wf) {frs : List FrX} (hfrs : ∀ o ∈ frs, o.ok A0) {a0 : Option Addr} {c0 : Nat} (hv : ArgSl 86 6 A0 (.slice a0 frs.length c0) (frs.map FrX.cells).flatten frs.length)
    (hP0 : A0.get P = some (.abs 2 OX.new.dat)) (h5 : A0.get 5 = some (er 5)) (hm : frs.length ≤ 1048576) (hb : sumF frs ≤ 100000000) (lf : Nat) (hlf : frs.length < lf) (V1 : Value) :
    ∃ A1 fs n V6 V7 L, loopD (some [0, 1, 4, 5, 6, 7, 8]) (exec Tryd.bk.E call Tryd.f11.ntmps (Tryd.bk.inf 11) lf (loopOf Tryd.f11 0)) lf [(0, .slice a0 frs.length c0), (1, V1), (4, .bool false), (5, ptr P), (6, .slice none 0 0), (7, .slice none 0 0), (8, .int .i64 ((0 : Nat) : Int))] A0 =
      some (.exit 0, [(0, .slice a0 frs.length c0), (1, V1), (4, .bool false), (5, ptr P), (6, V6), (7, V7), (8, L)], A1) ∧ OI A0 P fs n V6 V7 A1 ∧ n ≤ 100000000 ∧ fs.length ≤ 1048576 := by
  have hI0 : OI A0 P [] 0 (.slice none 0 0) (.slice none 0 0) A0 :=
    ⟨KP.refl hw0, hP0, ⟨none, .nil, by simp⟩, ⟨none, .nil, by simp⟩, by simp, fun j x hx => by simp at hx, Nat.le_refl _⟩
  have key := loop_rule (ks := some [0, 1, 4, 5, 6, 7, 8]) (f := exec Tryd.bk.E call Tryd.f11.ntmps (Tryd.bk.inf 11) lf (loopOf Tryd.f11 0)) (S := O1)
    (fun s => [(0, .slice a0 frs.length c0), (1, V1), (4, .bool false), (5, ptr P), (6, s.v6), (7, s.v7), (8, .int .i64 (s.i : Nat))])
    (fun s A => s.i ≤ frs.length ∧ OI A0 P s.fs s.n s.v6 s.v7 A ∧ s.n + sumF (frs.drop s.i) ≤ 100000000 ∧ s.fs.length ≤ s.i) (fun s => frs.length - s.i)
    (fun e σ A1 => e = .exit 0 ∧ ∃ fs n V6 V7 L, σ = [(0, .slice a0 frs.length c0), (1, V1), (4, .bool false), (5, ptr P), (6, V6), (7, V7), (8, L)] ∧ OI A0 P fs n V6 V7 A1 ∧ n ≤ 100000000 ∧ fs.length ≤ 1048576) (fun s A hs => ?_)
    lf ⟨0, [], 0, .slice none 0 0, .slice none 0 0⟩ A0 ⟨Nat.zero_le _, hI0, by simpa using hb, Nat.le_refl _⟩ (by simp only; omega)
  · obtain ⟨e, σ1, A1, k1, rfl, fs, n, V6, V7, L, rfl, k2⟩ := key
    exact ⟨A1, fs, n, V6, V7, L, k1, k2⟩
  · obtain ⟨i, fs, n, v6, v7⟩ := s
    obtain ⟨z1, z2, z3, z4⟩ := hs
    simp only at z1 z2 z3 z4 ⊢
    by_cases him : i < frs.length
    · generalize hv0 : (Value.slice a0 frs.length c0) = v0 at hv
      generalize hfl : (frs.map FrX.cells).flatten = fl at hv
      generalize hol : frs.length = ol at hv hv0 him
      cases hv with
      | nil cc hc => omega
      | «at» ib _ _ hg hl =>
        cases hv0
        subst hol hfl
        have hibP : ib ≠ P := by rintro rfl; rw [hP0] at hg; cases hg
        obtain ⟨σ1, A1, fs', n', V6', V7', r1, r2, r3, r4, r5⟩ := op_round h hPl hw0 hfrs hg hibP hP0 h5 lf (V1 := V1) (c := 2 * frs.length) z2 him hm (by omega) z3
        exact ⟨.normal, σ1, A1, r1, .inl ⟨rfl, ⟨i + 1, fs', n', V6', V7'⟩, r2, ⟨him, r3, by simp only; omega, by simp only; omega⟩, by simp only; omega⟩⟩
    · obtain ⟨σ1, r1, r2⟩ := op_end (call := call) lf (A := A) a0 frs.length c0 i V1 (ptr P) v6 v7 him
      exact ⟨.exit 0, σ1, A, r1, .inr ⟨by simp, rfl, fs, n, v6, v7, _, r2, z2, by omega, by omega⟩⟩

/-- the takes' loop -/
theorem op_loop2 {call : CallT} (h : OutFns call) {A0 : Hp} {P : Nat} (hPl : P < A0.next) (hw0 : A0.wf) {fs : List (List Value)} {n : Nat} (hn : n ≤ 100000000) (hfew : fs.flatten.length ≤ n) (hby : IsB fs.flatten)
    {V6 V7 : Value} {io6 io7 : Option Nat} (h6 : CanAt 5 1 A0 V6 io6 fs.flatten fs.flatten.length) (h6P : io6 ≠ some P) (h7 : CanAt 3 1 A0 V7 io7 (endsV fs) fs.length) (h7P : io7 ≠ some P) (hfl : fs.length ≤ 1048576)
    {a1 : Option Addr} {n1 c1 : Nat} {ks : List Value} (hv : ArgSl 3 1 A0 (.slice a1 n1 c1) ks n1) (hks : ∀ (j : Nat) x, ks[j]? = some x → ∃ k, x = .int .i64 k ∧ k ≤ 9223372036854775807) (hn1 : n1 ≤ 1048576) {X : Dat} (hP0 : A0.get P = some (.abs 2 X)) {A : Hp} (hJ : OJ A0 P fs n 0 A) (lf : Nat) (hlf : fs.length < lf) (hlf2 : n1 < lf) :
    ∃ A1 a L, loopD (some [1, 4, 5, 6, 7, 12, 13]) (exec Tryd.bk.E call Tryd.f11.ntmps (Tryd.bk.inf 11) lf (loopOf Tryd.f11 1)) lf [(1, .slice a1 n1 c1), (4, .bool false), (5, ptr P), (6, V6), (7, V7), (12, .int .i64 ((0 : Nat) : Int)), (13, .int .i64 ((0 : Nat) : Int))] A =
      some (.exit 2, [(1, .slice a1 n1 c1), (4, .bool false), (5, ptr P), (6, V6), (7, V7), (12, .int .i64 (a : Nat)), (13, L)], A1) ∧ OJ A0 P fs n a A1 := by
  have key := loop_rule (ks := some [1, 4, 5, 6, 7, 12, 13]) (f := exec Tryd.bk.E call Tryd.f11.ntmps (Tryd.bk.inf 11) lf (loopOf Tryd.f11 1)) (S := Nat × Nat)
    (fun s => [(1, .slice a1 n1 c1), (4, .bool false), (5, ptr P), (6, V6), (7, V7), (12, .int .i64 (s.1 : Nat)), (13, .int .i64 (s.2 : Nat))])
    (fun s A => s.2 ≤ n1 ∧ OJ A0 P fs n s.1 A) (fun s => n1 - s.2)
    (fun e σ A1 => e = .exit 2 ∧ ∃ a L, σ = [(1, .slice a1 n1 c1), (4, .bool false), (5, ptr P), (6, V6), (7, V7), (12, .int .i64 ((a : Nat) : Int)), (13, L)] ∧ OJ A0 P fs n a A1) (fun s A hs => ?_)
    lf (0, 0) A ⟨Nat.zero_le _, hJ⟩ (by simp only; omega)
  · obtain ⟨e, σ1, A1, k1, rfl, a, L, rfl, k2⟩ := key
    exact ⟨A1, a, L, k1, k2⟩
  · obtain ⟨a, j⟩ := s
    obtain ⟨z1, z2⟩ := hs
    simp only at z1 z2 ⊢
    by_cases him : j < n1
    · generalize hv0 : (Value.slice a1 n1 c1) = v0 at hv
      cases hv with
      | nil cc hc => omega
      | «at» ib _ _ hg hl =>
        cases hv0
        have hibP : ib ≠ P := by rintro rfl; rw [hP0] at hg; cases hg
        obtain ⟨k, hk, hkb⟩ := hks j _ (List.getElem?_eq_getElem (show j < ks.length by omega))
        have hkj : ks[j]? = some (.int .i64 k) := by rw [List.getElem?_eq_getElem (show j < ks.length by omega), hk]
        obtain ⟨σ1, A1, a', r1, r2, r3⟩ := op_round2 h hPl hw0 hn hfew hby lf h6 h6P h7 h7P hfl hlf (c1 := 2 * n1) hg hibP hn1 z2 him hkj hkb
        exact ⟨.normal, σ1, A1, r1, .inl ⟨rfl, ⟨a', j + 1⟩, r2, ⟨him, r3⟩, by simp only; omega⟩⟩
    · obtain ⟨σ1, r1, r2⟩ := op_end2 (call := call) lf (A := A) a1 n1 c1 j (ptr P) V6 V7 (.int .i64 (a : Nat)) him
      exact ⟨.exit 2, σ1, A, r1, .inr ⟨by simp, rfl, a, _, r2, z2⟩⟩
end Go.Dn.Pipe
end
