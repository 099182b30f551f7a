/-
  Part of the abstract machine for this program.
-/
import Derived.Test.YtombnpednnngoaaDoorPE

section
/-
  layer 3 (fifo): Remove
-/
namespace Go.Dn.Bl
open Go.Proofs Go.Dn.Ln
set_option maxHeartbeats 4000000
set_option maxRecDepth 100000
attribute [local irreducible] Hp.get Hp.set Hp.push dappend dcopy dstore cellsAt callD loopD rangeD itB

def stayL (pb : Int → Bool) (ids : List Int) : List Int := ids.filter fun x => !pb x
theorem take_succ' {ids : List Int} {i : Nat} {x : Int} (h : ids[i]? = some x) : ids.take (i + 1) = ids.take i ++ [x] := by
  rw [List.take_add_one, h]; rfl

structure RI (A0 : Hp) (pb : Int → Bool) (ids : List Int) (i : Nat) (V : Value) (A : Hp) : Prop where
  kp : Kp A0 A
  acc : ∃ io, CanAt 178 2 A V io ((stayL pb (ids.take i)).map rowz).flatten (stayL pb (ids.take i)).length ∧ ∀ j, io = some j → A0.next ≤ j

theorem app_rowc {A : Hp} (hw : A.wf) {V : Value} {io : Option Nat} {ids : List Int} (hc : CanAt 178 2 A V io (ids.map rowz).flatten ids.length) (x : Int) (hn : ids.length ≤ 1000000) :
    ∃ V' A' i', dappend bkB.E 169 169 (A.push (.arr 178 (rowz x) .own)) V (.slice (some ⟨A.next, 0, some 2⟩) 1 3) = some (V', A') ∧ CanAt 178 2 A' V' (some i') ((ids ++ [x]).map rowz).flatten (ids ++ [x]).length ∧ A.next ≤ i' ∧ A.next ≤ A'.next ∧ A'.wf ∧ ∀ j, j < A.next → io ≠ some j → A'.get j = A.get j :=
  app_row hw hc.slAt x hn

theorem rem_loop {call : CallT} (lf : Nat) {A0 : Hp} (hw : A0.wf) {io : Option Nat} {lv : Value} {ids : List Int} (hl : SlAt 178 2 A0 lv io (ids.map rowz).flatten ids.length) (hlen : ids.length ≤ 1000000) (hlf : ids.length < lf) (f : Nat)
    {g : FuncId} {cap : Array Value} {pb : Int → Bool} (hq : ∀ A', Kp A0 A' → ∀ x, call g (.int .u32 x :: cap.toList) A' = some (.bool (pb x), A')) (T4 : Value) :
    ∃ A1 V L, loopD (some [0, 1, 4, 5, 6, 20, 21, 22]) (exec bkB.E call Tryd.f74.ntmps (bkB.inf 74) lf (loopOf Tryd.f74 0)) lf
      [(0, ptr f), (1, .func (.func g) #[] cap), (4, T4), (5, .slice none 0 0), (6, .int .i64 0), (20, lv), (21, .int .i64 (ids.length : Nat)), (22, .int .i64 ((0 : Nat) : Int))] A0 =
      some (.exit 0, [(0, ptr f), (1, .func (.func g) #[] cap), (4, T4), (5, V), (6, .int .i64 0), (20, lv), (21, .int .i64 (ids.length : Nat)), (22, L)], A1) ∧ RI A0 pb ids ids.length V A1 := by
  obtain ⟨a, c, rfl⟩ := hl.sl3
  have key := loop_rule (ks := some [0, 1, 4, 5, 6, 20, 21, 22]) (f := exec bkB.E call Tryd.f74.ntmps (bkB.inf 74) lf (loopOf Tryd.f74 0)) (S := Nat × Value)
    (fun s => [(0, ptr f), (1, .func (.func g) #[] cap), (4, T4), (5, s.2), (6, .int .i64 0), (20, .slice a ids.length c), (21, .int .i64 (ids.length : Nat)), (22, .int .i64 (s.1 : Nat))])
    (fun s A => s.1 ≤ ids.length ∧ RI A0 pb ids s.1 s.2 A) (fun s => ids.length - s.1)
    (fun e σ A1 => e = .exit 0 ∧ ∃ V L, σ = [(0, ptr f), (1, .func (.func g) #[] cap), (4, T4), (5, V), (6, .int .i64 0), (20, .slice a ids.length c), (21, .int .i64 (ids.length : Nat)), (22, L)] ∧ RI A0 pb ids ids.length V A1) (fun s A hs => ?_)
    lf (0, .slice none 0 0) A0 ⟨Nat.zero_le _, Kp.refl hw, none, .nil, by simp⟩ (by simp only; omega)
  · obtain ⟨e, σ1, A1, r1, rfl, V, L, rfl, r2⟩ := key
    exact ⟨A1, V, L, r1, r2⟩
  · obtain ⟨i, V⟩ := s
    obtain ⟨z1, z2, io5, z3, z4⟩ := hs
    simp only at z1 z2 z3 z4 ⊢
    by_cases him : i < ids.length
    · have hx : ids[i]? = some ids[i] := List.getElem?_eq_getElem him
      generalize ids[i] = x at hx
      have e1 : ((i : Nat) : Int) < ((ids.length : Nat) : Int) := by omega
      have hw2 : IntKind.i64.wrap ((i : Int) + 1) = ((i + 1 : Nat) : Int) := by rw [w64 (by omega) (by omega)]; omega
      obtain ⟨il, ol, cs, cc, hlv, rfl, hg, hc, _⟩ := row_cell hl hx
      cases hlv
      obtain ⟨csl, hcsl⟩ := hl.lt
      have hgA : A.get il = some (.arr 178 cs .own) := by rw [z2.old _ (hw.lt hg)]; exact hg
      have htk := take_succ' hx
      let A1 : Hp := (A.push (.arr 178 [.int .u32 0, .int .i64 0] .own)).set A.next (some (.arr 178 (rowz x) .own))
      have c0 : (A.push (.arr 178 [.int .u32 0, .int .i64 0] .own)).get A.next = some (.arr 178 [.int .u32 0, .int .i64 0] .own) := Hp.get_push_same _ _
      have kA : Kp A A1 := (Kp.push z2.wf _).set c0 (Nat.le_refl _) _
      have hw1 : A1.wf := kA.wf
      have k1 : Kp A0 A1 := z2.trans kA
      have c1 : A1.get A.next = some (.arr 178 (rowz x) .own) := Hp.get_set_same _ _ _
      have hn1 : A1.next = A.next + 1 := by show (Hp.set _ _ _).next = _; rw [Hp.next_set, Hp.next_push]
      have hst : (stayL pb (ids.take i)).length ≤ 1000000 := by
        have h1 : (stayL pb (ids.take i)).length ≤ (ids.take i).length := List.length_filter_le _ _
        rw [List.length_take] at h1
        omega
      have hacc1 : CanAt 178 2 A1 V io5 ((stayL pb (ids.take i)).map rowz).flatten (stayL pb (ids.take i)).length := z3.keep fun j hj => by
        subst hj
        exact kA.old _ (z3.lt z2.wf)
      have hqx := hq A1 k1 x
      cases hpb : pb x with
      | true =>
        have hl2 : stayL pb (ids.take (i + 1)) = stayL pb (ids.take i) := by
          unfold stayL
          rw [htk, List.filter_append]; simp [hpb]
        refine ⟨.normal, ?s1, A1, kexec_run ?run1, .inl ⟨rfl, (i + 1, V), ?kp1, ⟨him, k1, io5, by rw [hl2]; exact hacc1, z4⟩, by simp only; omega⟩⟩
        case run1 =>
          conv => lhs; whnf
          rw [kdec e1]
          conv => lhs; whnf
          rw [kdec e1]
          conv => lhs; whnf
          refine bind_of ((cellsAt_of hgA _ _).trans hc) ?_
          conv => lhs; whnf
          refine bind_of (dstore_of c0 (t := 178) (o := 0) (cs' := rowz x) rfl) ?_
          conv => lhs; whnf
          refine bind_of (cellsAt_of c1 _ _) ?_
          conv => lhs; whnf
          refine (kList_eq _ _).trans ?_
          refine bind_of (hqx.trans (by rw [hpb])) ?_
          conv => lhs; whnf
        case kp1 =>
          show [_, _, _, _, _, _, _, (22, Value.int .i64 (IntKind.i64.wrap ((i : Int) + 1)))] = _
          rw [hw2]
      | false =>
        have hl2 : stayL pb (ids.take (i + 1)) = stayL pb (ids.take i) ++ [x] := by
          unfold stayL
          rw [htk, List.filter_append]; simp [hpb]
        obtain ⟨V', A2, i5, a1, a2, a3, a4, a5, a6⟩ := app_rowc hw1 hacc1 x hst
        obtain ⟨b5, c5, rfl⟩ := a2.sl3
        have c2 : A2.get A.next = some (.arr 178 (rowz x) .own) := by
          rw [a6 _ (by omega) (fun e => by subst e; have := z3.lt z2.wf; omega)]; exact c1
        have hC1 : RI A0 pb ids (i + 1) (.slice b5 (stayL pb (ids.take i) ++ [x]).length c5) A2 := by
          have hnx := z2.nx
          refine ⟨⟨a5, by omega, fun j hj => by rw [a6 j (by omega) (fun e => by have := z4 j e; omega), k1.old j hj]⟩, some i5, ?_, fun j hj => by cases hj; omega⟩
          rw [hl2]
          exact a2
        refine ⟨.normal, ?s2, A2, kexec_run ?run2, .inl ⟨rfl, (i + 1, _), ?kp2, ⟨him, hC1⟩, by simp only; omega⟩⟩
        case run2 =>
          conv => lhs; whnf
          rw [kdec e1]
          conv => lhs; whnf
          rw [kdec e1]
          conv => lhs; whnf
          refine bind_of ((cellsAt_of hgA _ _).trans hc) ?_
          conv => lhs; whnf
          refine bind_of (dstore_of c0 (t := 178) (o := 0) (cs' := rowz x) rfl) ?_
          conv => lhs; whnf
          refine bind_of (cellsAt_of c1 _ _) ?_
          conv => lhs; whnf
          refine (kList_eq _ _).trans ?_
          refine bind_of (hqx.trans (by rw [hpb])) ?_
          conv => lhs; whnf
          refine bind_of (cellsAt_of c1 _ _) ?_
          conv => lhs; whnf
          refine bind_of a1 ?_
          conv => lhs; whnf
          refine bind_of (cellsAt_of c2 _ _) ?_
          conv => lhs; whnf
        case kp2 =>
          show [_, _, _, _, _, _, _, (22, Value.int .i64 (IntKind.i64.wrap ((i : Int) + 1)))] = _
          rw [hw2]
          rfl
    · obtain rfl : i = ids.length := by omega
      have e1 : ¬ ((ids.length : Nat) : Int) < ((ids.length : Nat) : Int) := by omega
      refine ⟨.exit 0, ?s3, A, kexec_run ?run3, .inr ⟨by simp, rfl, V, ?L3, ?kp3, z2, io5, z3, z4⟩⟩
      case run3 =>
        conv => lhs; whnf
        rw [kdecn e1]
      case kp3 => rfl

end Go.Dn.Bl
end

section
/-
  layer 3 (fifo): Remove
-/
namespace Go.Dn.Bl
open Go.Proofs Go.Dn.Ln
set_option maxHeartbeats 4000000
set_option maxRecDepth 100000
attribute [local irreducible] Hp.get Hp.set Hp.push dappend dcopy dstore cellsAt callD loopD rangeD itB


theorem stay_le (pb : Int → Bool) (ids : List Int) : (stayL pb ids).length ≤ ids.length := List.length_filter_le _ _

theorem f_remove {call : CallT} (hl : LenOK call) (lf : Nat) {A : Hp} (hw : A.wf) {f : Nat} {io : Option Nat} {v : Value} {most : Int} {ids : List Int} (h : IsF A f io v most ids) (hlen : ids.length ≤ 1000000) (hlf : ids.length < lf)
    {g : FuncId} {cap : Array Value} {pb : Int → Bool} (hq : ∀ A', Kp A A' → ∀ x, call g (.int .u32 x :: cap.toList) A' = some (.bool (pb x), A')) :
    ∃ A' io' v', kfn bkB.E call (bkB.inf 74) lf Tryd.f74 [ptr f, .func (.func g) #[] cap] A = some (.int .i64 ((ids.length - (stayL pb ids).length : Nat) : Int), A') ∧ IsF A' f io' v' most (stayL pb ids) ∧ Fk A A' f io io' := by
  have hf := h.hf
  obtain ⟨a, c, hv⟩ := h.hs.sl3
  subst hv
  cases ids with
  | nil =>
    refine ⟨A, io, _, ?run, h, .refl hw⟩
    case run =>
      conv => lhs; whnf
      refine bind_of (hl h) ?_
      conv => lhs; whnf
      try rfl
  | cons x ids =>
    obtain ⟨A1, V, L, r1, r2, io5, r3, r4⟩ := rem_loop (call := call) lf hw h.hs hlen hlf f hq (.int .i64 0)
    rw [List.take_of_length_le (Nat.le_refl _)] at r3
    obtain ⟨b5, c5, rfl⟩ := r3.sl3
    have hsl := stay_le pb (x :: ids)
    have hwr : IntKind.i64.wrap (((x :: ids).length : Int) - ((stayL pb (x :: ids)).length : Int)) = (((x :: ids).length - (stayL pb (x :: ids)).length : Nat) : Int) := by rw [w64 (by omega) (by omega)]; omega
    have f1 : A1.get f = some (.arr 171 [.int .i64 most, .int .i64 0, .slice a (x :: ids).length c, .int .i64 0] .own) := by rw [r2.old f (h.lt hw).1]; exact hf
    let V5 : Value := .slice b5 (stayL pb (x :: ids)).length c5
    let A2 : Hp := A1.set f (some (.arr 171 [.int .i64 most, .int .i64 0, V5, .int .i64 0] .own))
    have f2 : A2.get f = some (.arr 171 [.int .i64 most, .int .i64 0, V5, .int .i64 0] .own) := Hp.get_set_same _ _ _
    let A3 : Hp := A2.set f (some (.arr 171 [.int .i64 most, .int .i64 0, V5, .int .i64 0] .own))
    have hfn := (h.lt hw).1
    refine ⟨A3, io5, V5, ?run, ⟨Hp.get_set_same _ _ _, r3.slAt.keep fun i hi => ?_⟩, ⟨(r2.wf.put f1 _).put f2 _, by simp [A3, A2]; exact r2.nx, fun j hj h1 h2 => ?_, fun j hj => .inr (r4 j hj)⟩⟩
    case run =>
      rw [← hwr]
      conv => lhs; whnf
      refine bind_of (hl h) ?_
      conv => lhs; whnf
      refine bind_of (cellsAt_of hf _ _) ?_
      conv => lhs; whnf
      refine bind_of r1 ?_
      conv => lhs; whnf
      refine bind_of (cellsAt_of f1 _ _) ?_
      conv => lhs; whnf
      refine bind_of (dstore_of f1 (t := 169) (o := 2) (cs' := [.int .i64 most, .int .i64 0, V5, .int .i64 0]) rfl) ?_
      conv => lhs; whnf
      refine bind_of (dstore_of f2 (t := 3) (o := 3) (cs' := [.int .i64 most, .int .i64 0, V5, .int .i64 0]) rfl) ?_
      conv => lhs; whnf
      try rfl
    · have : i ≠ f := by have := r4 i hi; omega
      rw [Hp.get_set_ne _ _ this, Hp.get_set_ne _ _ this]
    · rw [Hp.get_set_ne _ _ h1, Hp.get_set_ne _ _ h1, r2.old j hj]
end Go.Dn.Bl
end

section
/-
  layer 16 (backlog): Has
-/
namespace Go.Dn.Bl
open Go.Proofs Go.Dn.Ln
set_option maxHeartbeats 4000000
set_option maxRecDepth 100000
attribute [local irreducible] Hp.get Hp.set Hp.push dappend dcopy dstore cellsAt callD loopD rangeD itB hideL

structure IsB (A : Hp) (r f : Nat) (io : Option Nat) (v : Value) (most : Int) (ids : List Int) : Prop where
  hr : A.get r = some (.arr 125 [ptr f] .own)
  q : IsF A f io v most ids
theorem IsB.ne {A : Hp} {r f : Nat} {io : Option Nat} {v : Value} {most : Int} {ids : List Int} (h : IsB A r f io v most ids) : r ≠ f ∧ io ≠ some r := by
  refine ⟨fun e => ?_, ?_⟩
  · have := h.hr; rw [e, h.q.hf] at this; cases this
  · rintro rfl
    obtain ⟨cs, hcs⟩ := h.q.hs.lt
    rw [h.hr] at hcs; cases hcs
theorem IsB.keep {A A' : Hp} {r f : Nat} {io : Option Nat} {v : Value} {most : Int} {ids : List Int} (h : IsB A r f io v most ids) (hk : ∀ j, j = r ∨ j = f ∨ io = some j → A'.get j = A.get j) : IsB A' r f io v most ids :=
  ⟨by rw [hk r (.inl rfl)]; exact h.hr, h.q.keep fun j hj => hk j (.inr hj)⟩
theorem IsB.lt {A : Hp} {r f : Nat} {io : Option Nat} {v : Value} {most : Int} {ids : List Int} (h : IsB A r f io v most ids) (hw : A.wf) : ∀ j, j = r ∨ j = f ∨ io = some j → j < A.next := by
  rintro j (rfl | rfl | hj)
  · exact hw.lt h.hr
  · exact (h.q.lt hw).1
  · exact (h.q.lt hw).2 j hj
theorem IsB.kp {A A' : Hp} {r f : Nat} {io : Option Nat} {v : Value} {most : Int} {ids : List Int} (h : IsB A r f io v most ids) (hw : A.wf) (hk : Kp A A') : IsB A' r f io v most ids :=
  h.keep fun j hj => hk.old j (h.lt hw j hj)

theorem kp_hide {A B : Hp} (h : Kp A B) {l : List Nat} (hl : ∀ i ∈ l, A.next ≤ i) : Kp A (hideL B l) := by
  refine ⟨fun i hi => ?_, by rw [hideL_next]; exact h.nx, fun j hj => ?_⟩
  · rw [hideL_next] at hi
    rw [hideL_get, h.wf i hi]
    split <;> rfl
  · rw [hideL_get, if_neg (fun hm => by have := hl j hm; omega), h.old j hj]

def AllOK (call : CallT) : Prop := ∀ {A : Hp}, A.wf → ∀ {f : Nat} {io : Option Nat} {v : Value} {most : Int} {ids : List Int}, IsF A f io v most ids → ids.length ≤ 1000000 →
  ∃ A' io2 v2, call 72 [ptr f] A = some (.func (.func 110) #[] #[ptr A.next], A') ∧ Kp A A' ∧ A'.get A.next = some (.arr 169 [v2] .own) ∧ SlAt 178 2 A' v2 io2 (ids.map rowz).flatten ids.length ∧ ∀ i, io2 = some i → A.next < i

theorem b_has {call : CallT} (hall : AllOK call) (lf : Nat) {A : Hp} (hw : A.wf) {r f : Nat} {io : Option Nat} {v : Value} {most : Int} {ids : List Int} (h : IsB A r f io v most ids) (hn : ids.length ≤ 1000000) (x : Int) :
    ∃ A', kfn bkB.E call (bkB.inf 30) lf Tryd.f30 [ptr r, .int .u32 x] A = some (.bool (ids.any (· == x)), A') ∧ Kp A A' := by
  let A1 : Hp := A.push (.arr 27 [.int .u32 x] .own)
  let A2 : Hp := A1.push (.arr 4 [.bool false] .own)
  have hn1 : A1.next = A.next + 1 := Hp.next_push _ _
  have hn2 : A2.next = A.next + 2 := by rw [Hp.next_push, hn1]
  have k1 : Kp A A1 := Kp.push hw _
  have k2 : Kp A A2 := k1.trans (Kp.push k1.wf _)
  have h2 := h.kp hw k2
  have x2 : A2.get A.next = some (.arr 27 [.int .u32 x] .own) := by rw [Hp.get_push_ne _ _ (by omega)]; exact Hp.get_push_same _ _
  have b2 : A2.get A1.next = some (.arr 4 [.bool false] .own) := Hp.get_push_same _ _
  obtain ⟨A3, io2, v2, r1, k3, c3, s3, n3⟩ := hall k2.wf h2.q hn
  obtain ⟨l, hit, hl⟩ := it_all c3 s3 hn
  have hl2 : ∀ i ∈ l, A2.next ≤ i := fun i hi => by
    rcases hl i hi with rfl | e
    · exact Nat.le_refl _
    · have := n3 i e; omega
  have kB : Kp A2 (hideL A3 l) := kp_hide k3 hl2
  obtain ⟨B, hB⟩ : ∃ B, B = hideL A3 l := ⟨_, rfl⟩
  rw [← hB] at kB
  have xB : B.get A.next = some (.arr 27 [.int .u32 x] .own) := by rw [kB.old _ (by omega)]; exact x2
  have bB : B.get A1.next = some (.arr 4 [.bool false] .own) := by rw [kB.old _ (by omega)]; exact b2
  let σ : Sl := [(0, ptr r), (1, .int .u32 x), (3, ptr A.next), (4, ptr A1.next), (6, ptr r), (7, .bool false), (8, ptr r), (9, ptr r), (10, .pointer (some ⟨r, 0, none⟩)), (11, .pointer (some ⟨r, 0, none⟩)), (12, ptr f), (13, .func (.func 110) #[] #[ptr A2.next])]
  let B1 : Hp := B.set A1.next (some (.arr 4 [.bool true] .own))
  have key := range_rule (f := fun vs A => (putsD Tryd.f30.ntmps [14, 15] vs σ).bind fun σ1 => (exec bkB.E call Tryd.f30.ntmps (bkB.inf 30) lf (rangeOf Tryd.f30 0).1 σ1 A).bind fun r1 => match r1.1 with
          | .normal => (exec bkB.E call Tryd.f30.ntmps (bkB.inf 30) lf (rangeOf Tryd.f30 0).2 r1.2.1 r1.2.2).bind fun r2 => some (r2.1, r2.2.2)
          | _ => none)
    (fun ys C => C = B ∧ ∃ pre suf, ids = pre ++ suf ∧ ys = suf.map rowz ∧ pre.any (· == x) = false)
    (fun e C => (e = .normal ∧ C = B ∧ ids.any (· == x) = false) ∨ (e = .ret ∧ C = B1 ∧ ids.any (· == x) = true)) (fun y ys C hI => ?step) (fun C hI => ?last) (ids.map rowz) B ⟨rfl, [], ids, rfl, rfl, rfl⟩
  case last =>
    obtain ⟨rfl, pre, suf, g1, g2, g3⟩ := hI
    have : suf = [] := by simpa using g2.symm
    subst this
    rw [List.append_nil] at g1
    subst g1
    exact .inl ⟨rfl, rfl, g3⟩
  case step =>
    obtain ⟨hC, pre, suf, g1, g2, g3⟩ := hI
    subst hC
    cases suf with
    | nil => cases g2
    | cons z suf =>
      simp only [List.map_cons, List.cons.injEq] at g2
      obtain ⟨rfl, rfl⟩ := g2
      have hput : putsD Tryd.f30.ntmps [14, 15] (rowz z) σ = some (σ ++ [(14, .int .u32 z), (15, .int .i64 0)]) := rfl
      have ha : ∃ σ2, exec bkB.E call Tryd.f30.ntmps (bkB.inf 30) lf (rangeOf Tryd.f30 0).1 (σ ++ [(14, .int .u32 z), (15, .int .i64 0)]) C = some (.normal, σ2, C) ∧ σ2 = σ ++ [(14, .int .u32 z), (15, .int .i64 0), (5, .int .u32 z)] := by
        refine ⟨?s1, kexec_run ?r1, ?e1⟩
        case r1 =>
          conv => lhs; whnf
        case e1 => rfl
      obtain ⟨σ2, ha, rfl⟩ := ha
      by_cases hz : z = x
      · have e1 : (z == x) = true := by simp [hz]
        have hb : ∃ σ3, exec bkB.E call Tryd.f30.ntmps (bkB.inf 30) lf (rangeOf Tryd.f30 0).2 (σ ++ [(14, .int .u32 z), (15, .int .i64 0), (5, .int .u32 z)]) C = some (.ret, σ3, B1) := by
          refine ⟨?s2, kexec_run ?r2⟩
          case r2 =>
            conv => lhs; whnf
            refine bind_of (cellsAt_of xB _ _) ?_
            conv => lhs; whnf
            rw [e1]
            conv => lhs; whnf
            refine bind_of (dstore_of bB (t := 4) (o := 0) (cs' := [.bool true]) rfl) ?_
            try (conv => lhs; whnf)
        obtain ⟨σ3, hb⟩ := hb
        refine ⟨.ret, B1, by simp only [hput, Option.bind_some, ha, hb], .inr ⟨by simp, .inr ⟨rfl, rfl, ?_⟩⟩⟩
        rw [g1]; simp [hz]
      · have e1 : (z == x) = false := by simp [hz]
        have hb : ∃ σ3, exec bkB.E call Tryd.f30.ntmps (bkB.inf 30) lf (rangeOf Tryd.f30 0).2 (σ ++ [(14, .int .u32 z), (15, .int .i64 0), (5, .int .u32 z)]) C = some (.normal, σ3, C) := by
          refine ⟨?s3, kexec_run ?r3⟩
          case r3 =>
            conv => lhs; whnf
            refine bind_of (cellsAt_of xB _ _) ?_
            conv => lhs; whnf
            rw [e1]
        obtain ⟨σ3, hb⟩ := hb
        exact ⟨.normal, C, by simp only [hput, Option.bind_some, ha, hb], .inl ⟨rfl, rfl, pre ++ [z], suf, by simp [g1], rfl, by simp [List.any_append, g3, hz]⟩⟩
  obtain ⟨e, A4, q1, q2⟩ := key
  rw [hB] at q1
  have hx := exec_range (E := bkB.E) (call := call) (N := Tryd.f30.ntmps) (inf := bkB.inf 30) (lf := lf) (fo := .tmp 13) (ps := #[14, 15]) (σ := σ) rfl hit q1
  rw [← hB] at q1
  have h3 := h2.kp k2.wf k3
  rcases q2 with ⟨rfl, rfl, q3⟩ | ⟨rfl, rfl, q3⟩
  · refine ⟨A4.set A1.next (some (.arr 4 [.bool false] .own)), ?run, (k2.trans kB).set bB (by omega) _⟩
    case run =>
      rw [q3]
      conv => lhs; whnf
      refine bind_of (cellsAt_of h2.hr _ _) ?_
      conv => lhs; whnf
      refine bind_of r1 ?_
      conv => lhs; whnf
      refine bind_of hx ?_
      conv => lhs; whnf
      refine bind_of (dstore_of bB (t := 4) (o := 0) (cs' := [.bool false]) rfl) ?_
      conv => lhs; whnf
      refine bind_of (cellsAt_of (Hp.get_set_same _ _ _) _ _) ?_
      conv => lhs; whnf
      try rfl
  · refine ⟨B1, ?run2, (k2.trans kB).set bB (by omega) _⟩
    case run2 =>
      rw [q3]
      conv => lhs; whnf
      refine bind_of (cellsAt_of h2.hr _ _) ?_
      conv => lhs; whnf
      refine bind_of r1 ?_
      conv => lhs; whnf
      refine bind_of hx ?_
      conv => lhs; whnf
      refine bind_of (cellsAt_of (Hp.get_set_same _ _ _) _ _) ?_
      conv => lhs; whnf
      try rfl
end Go.Dn.Bl
end

section
/-
  layer 16 (backlog): List
-/
namespace Go.Dn.Bl
open Go.Proofs Go.Dn.Ln
set_option maxHeartbeats 4000000
set_option maxRecDepth 100000
attribute [local irreducible] Hp.get Hp.set Hp.push dappend dcopy dstore cellsAt callD loopD rangeD itB hideL

def nums (ids : List Int) : List Value := ids.map fun x => .int .u32 x
theorem elN : ElT bkB.E 49 27 1 4 := ⟨⟨_, rfl, rfl⟩, ⟨_, _, rfl, rfl, rfl, rfl, rfl⟩, by decide⟩
theorem elN2 : ∃ i e2, bkB.E.T 49 = some i ∧ i.d = .slice e2 := ⟨_, _, rfl, rfl⟩

theorem app_num {A : Hp} (hw : A.wf) {V : Value} {io : Option Nat} {ids : List Int} (hc : SlAt 27 1 A V io (nums ids) ids.length) (x : Int) (hn : ids.length ≤ 100000000) :
    ∃ V' A' i', dappend bkB.E 49 49 (A.push (.arr 27 [.int .u32 x] .own)) V (.slice (some ⟨A.next, 0, some 1⟩) 1 3) = some (V', A') ∧ CanAt 27 1 A' V' (some i') (nums (ids ++ [x])) (ids ++ [x]).length ∧ A.next ≤ i' ∧ A.next ≤ A'.next ∧ A'.wf ∧ ∀ j, j < A.next → io ≠ some j → A'.get j = A.get j := by
  have hw1 : (A.push (.arr 27 [.int .u32 x] .own)).wf := hw.push _
  have hx : elemsOf (A.push (.arr 27 [.int .u32 x] .own)) 1 (.slice (some ⟨A.next, 0, some 1⟩) 1 3) = some (1, [.int .u32 x]) :=
    (SlAt.at A.next 0 1 3 [.int .u32 x] [.int .u32 x] (.inr rfl) (Hp.get_push_same _ _) (by simp) rfl).elems
  have hc1 : SlAt 27 1 (A.push (.arr 27 [.int .u32 x] .own)) V io (nums ids) ids.length := hc.keep fun i hi => by
    subst hi
    obtain ⟨cs, hcs⟩ := hc.lt
    exact Hp.get_push_ne _ _ (by have := hw.lt hcs; omega)
  obtain ⟨V', A', i', r1, r2, r3, r4, r5, r6⟩ := append_sl (t := 49) (t2 := 49) elN elN2 hc1 hx rfl (by omega) (by omega) (by unfold maxLen; omega)
  rw [Hp.next_push] at r3 r4
  refine ⟨V', A', i', r1, ?_, by omega, by omega, r5 hw1, fun j hj hne => ?_⟩
  · have e : nums (ids ++ [x]) = nums ids ++ [.int .u32 x] := by simp [nums]
    rw [e, List.length_append, List.length_singleton]
    exact r2
  · rw [r6 j (by rw [Hp.next_push]; omega) hne, Hp.get_push_ne _ _ (by omega)]

theorem b_list {call : CallT} (hall : AllOK call) (lf : Nat) {A : Hp} (hw : A.wf) {r f : Nat} {io : Option Nat} {v : Value} {most : Int} {ids : List Int} (h : IsB A r f io v most ids) (hn : ids.length ≤ 1000000) :
    ∃ V io' A', kfn bkB.E call (bkB.inf 33) lf Tryd.f33 [ptr r] A = some (V, A') ∧ Kp A A' ∧ CanAt 27 1 A' V io' (nums ids) ids.length ∧ ∀ j, io' = some j → A.next ≤ j := by
  let A2 : Hp := A.push (.arr 49 [.slice none 0 0] .own)
  have hn2 : A2.next = A.next + 1 := Hp.next_push _ _
  have k2 : Kp A A2 := Kp.push hw _
  have h2 := h.kp hw k2
  have b2 : A2.get A.next = some (.arr 49 [.slice none 0 0] .own) := Hp.get_push_same _ _
  obtain ⟨A3, io2, v2, r1, k3, c3, s3, n3⟩ := hall k2.wf h2.q hn
  obtain ⟨l, hit, hl⟩ := it_all c3 s3 hn
  have hl2 : ∀ i ∈ l, A2.next ≤ i := fun i hi => by
    rcases hl i hi with rfl | e
    · exact Nat.le_refl _
    · have := n3 i e; omega
  have kB : Kp A2 (hideL A3 l) := kp_hide k3 hl2
  obtain ⟨B, hB⟩ : ∃ B, B = hideL A3 l := ⟨_, rfl⟩
  rw [← hB] at kB
  have bB : B.get A.next = some (.arr 49 [.slice none 0 0] .own) := by rw [kB.old _ (by omega)]; exact b2
  let σ : Sl := [(0, ptr r), (2, .slice none 0 0), (3, ptr A.next), (5, ptr r), (6, .bool true), (7, ptr r), (8, ptr r), (9, .pointer (some ⟨r, 0, none⟩)), (10, .pointer (some ⟨r, 0, none⟩)), (11, ptr f), (12, .func (.func 110) #[] #[ptr A2.next])]
  have key := range_rule (f := fun vs A => (putsD Tryd.f33.ntmps [13, 14] vs σ).bind fun σ1 => (exec bkB.E call Tryd.f33.ntmps (bkB.inf 33) lf (rangeOf Tryd.f33 0).1 σ1 A).bind fun r1 => match r1.1 with
          | .normal => (exec bkB.E call Tryd.f33.ntmps (bkB.inf 33) lf (rangeOf Tryd.f33 0).2 r1.2.1 r1.2.2).bind fun r2 => some (r2.1, r2.2.2)
          | _ => none)
    (fun ys C => ∃ pre suf V io, ids = pre ++ suf ∧ ys = suf.map rowz ∧ C.wf ∧ A2.next ≤ C.next ∧ (∀ j, j < A2.next → j ≠ A.next → C.get j = A2.get j) ∧ C.get A.next = some (.arr 49 [V] .own) ∧ CanAt 27 1 C V io (nums pre) pre.length ∧ ∀ j, io = some j → A2.next ≤ j)
    (fun e C => e = .normal ∧ ∃ V io, C.wf ∧ A2.next ≤ C.next ∧ (∀ j, j < A2.next → j ≠ A.next → C.get j = A2.get j) ∧ C.get A.next = some (.arr 49 [V] .own) ∧ CanAt 27 1 C V io (nums ids) ids.length ∧ ∀ j, io = some j → A2.next ≤ j)
    (fun y ys C hI => ?step) (fun C hI => ?last) (ids.map rowz) B ⟨[], ids, .slice none 0 0, none, rfl, rfl, kB.wf, kB.nx, fun j hj _ => kB.old j hj, bB, .nil, by simp⟩
  case last =>
    obtain ⟨pre, suf, V, io, g1, g2, g3⟩ := hI
    have : suf = [] := by simpa using g2.symm
    subst this
    rw [List.append_nil] at g1
    subst g1
    exact ⟨rfl, V, io, g3⟩
  case step =>
    obtain ⟨pre, suf, V, io5, g1, g2, g3, g4, g5, g6, g7, g8⟩ := hI
    cases suf with
    | nil => cases g2
    | cons z suf =>
      simp only [List.map_cons, List.cons.injEq] at g2
      obtain ⟨rfl, rfl⟩ := g2
      have hpl : pre.length ≤ 1000000 := by
        have : ids.length = pre.length + (z :: suf).length := by rw [g1, List.length_append]
        omega
      have hput : putsD Tryd.f33.ntmps [13, 14] (rowz z) σ = some (σ ++ [(13, .int .u32 z), (14, .int .i64 0)]) := rfl
      have ha : ∃ σ2, exec bkB.E call Tryd.f33.ntmps (bkB.inf 33) lf (rangeOf Tryd.f33 0).1 (σ ++ [(13, .int .u32 z), (14, .int .i64 0)]) C = some (.normal, σ2, C) ∧ σ2 = σ ++ [(13, .int .u32 z), (14, .int .i64 0), (4, .int .u32 z)] := by
        refine ⟨?s1, kexec_run ?r1, ?e1⟩
        case r1 =>
          conv => lhs; whnf
        case e1 => rfl
      obtain ⟨σ2, ha, rfl⟩ := ha
      obtain ⟨V', C2, i', a1, a2, a3, a4, a5, a6⟩ := app_num g3 g7.slAt z (by omega)
      obtain ⟨b5, c5, rfl⟩ := a2.sl3
      have hC : A.next < C.next := by omega
      have o2 : C2.get A.next = some (.arr 49 [V] .own) := by rw [a6 _ hC (fun e => by have := g8 _ e; omega)]; exact g6
      have hb : ∃ σ3, exec bkB.E call Tryd.f33.ntmps (bkB.inf 33) lf (rangeOf Tryd.f33 0).2 (σ ++ [(13, .int .u32 z), (14, .int .i64 0), (4, .int .u32 z)]) C = some (.normal, σ3, C2.set A.next (some (.arr 49 [.slice b5 (pre ++ [z]).length c5] .own))) := by
        refine ⟨?s2, kexec_run ?r2⟩
        case r2 =>
          conv => lhs; whnf
          refine bind_of (cellsAt_of g6 _ _) ?_
          conv => lhs; whnf
          refine bind_of a1 ?_
          conv => lhs; whnf
          refine bind_of (dstore_of o2 (t := 49) (o := 0) (cs' := [.slice b5 (pre ++ [z]).length c5]) rfl) ?_
          try (conv => lhs; whnf)
      obtain ⟨σ3, hb⟩ := hb
      refine ⟨.normal, _, by simp only [hput, Option.bind_some, ha, hb], .inl ⟨rfl, pre ++ [z], suf, _, some i', by simp [g1], rfl, a5.put o2 _, by rw [Hp.next_set]; omega, fun j hj hne => ?_, Hp.get_set_same _ _ _, a2.keep fun i hi => ?_, fun j hj => by cases hj; omega⟩⟩
      · rw [Hp.get_set_ne _ _ hne, a6 j (by omega) (fun e => by have := g8 _ e; omega), g5 j hj hne]
      · cases hi
        exact Hp.get_set_ne _ _ (by omega)
  obtain ⟨e, A4, q1, rfl, V, io5, g3, g4, g5, g6, g7, g8⟩ := key
  rw [hB] at q1
  have hx := exec_range (E := bkB.E) (call := call) (N := Tryd.f33.ntmps) (inf := bkB.inf 33) (lf := lf) (fo := .tmp 12) (ps := #[13, 14]) (σ := σ) rfl hit q1
  refine ⟨V, io5, A4, ?run, ⟨g3, by omega, fun j hj => ?_⟩, g7, fun j hj => by have := g8 j hj; omega⟩
  case run =>
    conv => lhs; whnf
    refine bind_of (cellsAt_of h2.hr _ _) ?_
    conv => lhs; whnf
    refine bind_of r1 ?_
    conv => lhs; whnf
    refine bind_of hx ?_
    conv => lhs; whnf
    refine bind_of (cellsAt_of g6 _ _) ?_
    conv => lhs; whnf
    try rfl
  · rw [g5 j (by omega) (by omega)]
    exact k2.old j hj
end Go.Dn.Bl
end

section
/-
  layer 16 (backlog): the other functions
-/
namespace Go.Dn.Bl
open Go.Proofs Go.Dn.Ln
set_option maxHeartbeats 4000000
set_option maxRecDepth 100000
attribute [local irreducible] Hp.get Hp.set Hp.push dappend dcopy dstore cellsAt callD loopD rangeD itB hideL

theorem f_new {call : CallT} (lf : Nat) {A : Hp} {most : Int} (h : 0 ≤ most) : kfn bkB.E call (bkB.inf 65) lf Tryd.f65 [.int .i64 most, .int .i64 0] A =
    some (.tuple #[ptr A.next, .nilIface], A.push (.arr 171 [.int .i64 most, .int .i64 0, .slice none 0 0, .int .i64 0] .own)) := by
  have e1 : ¬ most < 0 := by omega
  conv => lhs; whnf
  rw [kdecn e1]
  conv => lhs; whnf
  try rfl

def newV (most : Int) (n : Nat) : Value := if most < 1 ∨ 1024 < most then .tuple #[.pointer none, errV 4] else .tuple #[ptr (n + 1), .nilIface]

theorem b_new_bad {call : CallT} (lf : Nat) {A : Hp} (h4 : A.get 4 = some (er 4)) {most : Int} (h : most < 1 ∨ 1024 < most) : kfn bkB.E call (bkB.inf 26) lf Tryd.f26 [.int .i64 most] A = some (.tuple #[.pointer none, errV 4], A) := by
  by_cases h1 : most < 1
  · conv => lhs; whnf
    rw [kdec h1]
    conv => lhs; whnf
    refine bind_of (cellsAt_of h4 _ _) ?_
    conv => lhs; whnf
    try rfl
  · have h2 : most > 1024 := by omega
    conv => lhs; whnf
    rw [kdecn h1]
    conv => lhs; whnf
    rw [kdec h2]
    conv => lhs; whnf
    refine bind_of (cellsAt_of h4 _ _) ?_
    conv => lhs; whnf
    try rfl

theorem b_new {call : CallT} (hc : ∀ A most, 0 ≤ most → call 65 [.int .i64 most, .int .i64 0] A = some (.tuple #[ptr A.next, .nilIface], A.push (.arr 171 [.int .i64 most, .int .i64 0, .slice none 0 0, .int .i64 0] .own)))
    (lf : Nat) {A : Hp} (hw : A.wf) {most : Int} (h1 : 1 ≤ most) (h2 : most ≤ 1024) :
    ∃ A', kfn bkB.E call (bkB.inf 26) lf Tryd.f26 [.int .i64 most] A = some (.tuple #[ptr (A.next + 1), .nilIface], A') ∧ IsB A' (A.next + 1) A.next none (.slice none 0 0) most [] ∧ Kp A A' := by
  have e1 : ¬ most < 1 := by omega
  have e2 : ¬ most > 1024 := by omega
  let A1 : Hp := A.push (.arr 171 [.int .i64 most, .int .i64 0, .slice none 0 0, .int .i64 0] .own)
  have hn1 : A1.next = A.next + 1 := Hp.next_push _ _
  have k1 : Kp A A1 := Kp.push hw _
  refine ⟨A1.push (.arr 125 [ptr A.next] .own), ?run, ⟨by rw [← hn1]; exact Hp.get_push_same _ _, ⟨by rw [Hp.get_push_ne _ _ (by omega)]; exact Hp.get_push_same _ _, .nil⟩⟩, k1.trans (Kp.push k1.wf _)⟩
  case run =>
    conv => lhs; whnf
    rw [kdecn e1]
    conv => lhs; whnf
    rw [kdecn e2]
    conv => lhs; whnf
    refine bind_of (hc A most (by omega)) ?_
    conv => lhs; whnf
    show some (Value.tuple #[ptr (Hp.next A1), .nilIface], _) = _
    rw [hn1]
    rfl

theorem stay_any (pb : Int → Bool) : ∀ ids : List Int, (stayL pb ids).length < ids.length ↔ ids.any pb = true
  | [] => by simp [stayL]
  | y :: ids => by
    have ih := stay_any pb ids
    have hle := stay_le pb ids
    cases hy : pb y with
    | true =>
      have e : stayL pb (y :: ids) = stayL pb ids := by simp [stayL, hy]
      rw [e, List.any_cons, hy, List.length_cons]
      simp
      omega
    | false =>
      have e : stayL pb (y :: ids) = y :: stayL pb ids := by simp [stayL, hy]
      rw [e, List.any_cons, hy, List.length_cons, List.length_cons, Bool.false_or, ← ih]
      omega

section
variable {A : Hp} (hw : A.wf) {r f : Nat} {io : Option Nat} {v : Value} {most : Int} {ids : List Int} (h : IsB A r f io v most ids)
include hw h

def putB (most : Int) (ids : List Int) (x : Int) : Option Nat × List Int := if ids.any (· == x) then (some 2, ids) else putF most ids x
theorem b_put {call : CallT} (hh : ∀ x, ∃ A', call 30 [ptr r, .int .u32 x] A = some (.bool (ids.any (· == x)), A') ∧ Kp A A')
    (hp : ∀ {A1}, A1.wf → A1.get 13 = some (er 13) → IsF A1 f io v most ids → ∀ x, ∃ A' io' v', call 73 [ptr f, .int .u32 x, .int .i64 0] A1 = some (errO' (putF most ids x).1, A') ∧ IsF A' f io' v' most (putF most ids x).2 ∧ Fk A1 A' f io io')
    (lf : Nat) (h2 : A.get 2 = some (er 2)) (h13 : A.get 13 = some (er 13)) (x : Int) :
    ∃ A' io' v', kfn bkB.E call (bkB.inf 31) lf Tryd.f31 [ptr r, .int .u32 x] A = some (errO' (putB most ids x).1, A') ∧ IsB A' r f io' v' most (putB most ids x).2 ∧ Fk A A' f io io' := by
  obtain ⟨A1, r1, k1⟩ := hh x
  have hB := h.kp hw k1
  unfold putB
  cases hb : ids.any (· == x) with
  | true =>
    rw [hb] at r1
    have e2 : A1.get 2 = some (er 2) := by rw [k1.old _ (hw.lt h2)]; exact h2
    refine ⟨A1, io, v, ?run, hB, kp_fk k1⟩
    case run =>
      conv => lhs; whnf
      refine bind_of r1 ?_
      conv => lhs; whnf
      refine bind_of (cellsAt_of e2 _ _) ?_
      conv => lhs; whnf
      try rfl
  | false =>
    rw [hb] at r1
    have e13 : A1.get 13 = some (er 13) := by rw [k1.old _ (hw.lt h13)]; exact h13
    obtain ⟨A2, io2, v2, r2, q2, k2⟩ := hp k1.wf e13 hB.q x
    refine ⟨A2, io2, v2, ?run2, ⟨?_, q2⟩, (kp_fk k1).trans k2⟩
    case run2 =>
      simp only [Bool.false_eq_true, if_false]
      conv => lhs; whnf
      refine bind_of r1 ?_
      conv => lhs; whnf
      refine bind_of (cellsAt_of hB.hr _ _) ?_
      conv => lhs; whnf
      refine bind_of r2 ?_
      conv => lhs; whnf
      try rfl
    · rw [k2.old r (Nat.lt_of_lt_of_le (h.lt hw r (.inl rfl)) k1.nx) h.ne.1 h.ne.2]; exact hB.hr

def topV (ids : List Int) : Value := match ids with
  | [] => .tuple #[.int .u32 0, .bool false]
  | x :: _ => .tuple #[.int .u32 x, .bool true]
omit hw in
theorem b_head {call : CallT} (hc : HeadOK call) (lf : Nat) : kfn bkB.E call (bkB.inf 35) lf Tryd.f35 [ptr r] A = some (topV ids, A) := by
  conv => lhs; whnf
  refine bind_of (cellsAt_of h.hr _ _) ?_
  conv => lhs; whnf
  refine bind_of (hc h.q) ?_
  cases ids with
  | nil =>
    conv => lhs; whnf
    try rfl
  | cons x ids =>
    conv => lhs; whnf
    try rfl

theorem b_take {call : CallT} (hc : ∃ A' v', call 78 [ptr f] A = some (headV ids, A') ∧ IsF A' f io v' most ids.tail ∧ Fk A A' f io io) (lf : Nat) :
    ∃ A' v', kfn bkB.E call (bkB.inf 36) lf Tryd.f36 [ptr r] A = some (topV ids, A') ∧ IsB A' r f io v' most ids.tail ∧ Fk A A' f io io := by
  obtain ⟨A1, v1, r1, q1, k1⟩ := hc
  refine ⟨A1, v1, ?run, ⟨by rw [k1.old r (h.lt hw r (.inl rfl)) h.ne.1 h.ne.2]; exact h.hr, q1⟩, k1⟩
  case run =>
    conv => lhs; whnf
    refine bind_of (cellsAt_of h.hr _ _) ?_
    conv => lhs; whnf
    refine bind_of r1 ?_
    cases ids with
    | nil =>
      conv => lhs; whnf
      try rfl
    | cons x ids =>
      conv => lhs; whnf
      try rfl

omit hw in
theorem b_len {call : CallT} (hc : LenOK call) (lf : Nat) : kfn bkB.E call (bkB.inf 34) lf Tryd.f34 [ptr r] A = some (.int .i64 (ids.length : Nat), A) := by
  conv => lhs; whnf
  refine bind_of (cellsAt_of h.hr _ _) ?_
  conv => lhs; whnf
  refine bind_of (hc h.q) ?_
  conv => lhs; whnf
  try rfl

/-- what a removal by a closure says -/
def RemAt (call : CallT) (B : Hp) (f : Nat) (io : Option Nat) (most : Int) (ids : List Int) (g : FuncId) (cap : Array Value) (pb : Int → Bool) : Prop :=
  ∃ A' io' v', call 74 [ptr f, .func (.func g) #[] cap] B = some (.int .i64 ((ids.length - (stayL pb ids).length : Nat) : Int), A') ∧ IsF A' f io' v' most (stayL pb ids) ∧ Fk B A' f io io'

theorem b_clear {call : CallT} (hc : RemAt call A f io most ids 79 #[] (fun _ => true)) (lf : Nat) :
    ∃ A' io' v', kfn bkB.E call (bkB.inf 37) lf Tryd.f37 [ptr r] A = some (.int .i64 (ids.length : Nat), A') ∧ IsB A' r f io' v' most [] ∧ Fk A A' f io io' := by
  obtain ⟨A1, io1, v1, r1, q1, k1⟩ := hc
  have e0 : stayL (fun _ => true) ids = [] := by unfold stayL; simp
  rw [e0] at r1 q1
  refine ⟨A1, io1, v1, ?run, ⟨by rw [k1.old r (h.lt hw r (.inl rfl)) h.ne.1 h.ne.2]; exact h.hr, q1⟩, k1⟩
  case run =>
    conv => lhs; whnf
    refine bind_of (cellsAt_of h.hr _ _) ?_
    conv => lhs; whnf
    refine bind_of r1 ?_
    conv => lhs; whnf
    try rfl

theorem b_remove {call : CallT} (x : Int) (hc : RemAt call (A.push (.arr 27 [.int .u32 x] .own)) f io most ids 75 #[ptr A.next] (· == x)) (lf : Nat) :
    ∃ A' io' v', kfn bkB.E call (bkB.inf 32) lf Tryd.f32 [ptr r, .int .u32 x] A = some (.bool (ids.any (· == x)), A') ∧ IsB A' r f io' v' most (stayL (· == x) ids) ∧ Fk A A' f io io' := by
  obtain ⟨A1, io1, v1, r1, q1, k1⟩ := hc
  have k0 : Kp A (A.push (.arr 27 [.int .u32 x] .own)) := Kp.push hw _
  have hB := h.kp hw k0
  have hrl := h.lt hw r (.inl rfl)
  refine ⟨A1, io1, v1, ?run, ⟨by rw [k1.old r (Nat.lt_of_lt_of_le hrl k0.nx) h.ne.1 h.ne.2]; exact hB.hr, q1⟩, (kp_fk k0).trans k1⟩
  case run =>
    have hle := stay_le (· == x) ids
    have hd : decide ((((ids.length - (stayL (· == x) ids).length : Nat) : Int)) > 0) = ids.any (· == x) := by
      have h1 := stay_any (· == x) ids
      cases hb : ids.any (· == x) with
      | true => exact kdec (by have := h1.2 hb; omega)
      | false => exact kdecn (fun hgt => by have := h1.1 (by omega); rw [hb] at this; cases this)
    conv => lhs; whnf
    refine bind_of (cellsAt_of hB.hr _ _) ?_
    conv => lhs; whnf
    refine bind_of r1 ?_
    conv => lhs; whnf
    show some (Value.bool (decide _), A1) = _
    rw [hd]
end
end Go.Dn.Bl
end

section
/-
  layer 11 (lane): Next, Len, New, Clear
-/
namespace Go.Dn.Ln
open Go.Proofs
set_option maxHeartbeats 4000000
set_option maxRecDepth 100000
attribute [local irreducible] Hp.get Hp.set Hp.push dappend dcopy dstore cellsAt callD loopD dlookup dmapUpdate ddelete

theorem loopD_go {ks : Option (List Nat)} {f : Sl → Hp → Option (Ex × Sl × Hp)} {n : Nat} {σ σ1 σ2 : Sl} {A A1 : Hp} {r : Option (Ex × Sl × Hp)} (h : f σ A = some (.normal, σ1, A1)) (hk : keepSl ks σ1 = σ2) (h2 : loopD ks f n σ2 A1 = r) : loopD ks f (n + 1) σ A = r := by
  unfold loopD
  rw [h]
  simp only [Option.bind_some]
  rw [hk]
  exact h2

def tkC (e : En) : List Value := [.int .i64 (e.k : Nat), .int .u32 e.s, .int .u32 e.v]

section
variable {call call0 : CallT} {lf0 : Nat} (hd : ∀ args A r, kfn Tryd.bk.E call0 (Tryd.bk.inf 64) lf0 Tryd.f64 args A = some r → call 64 args A = some r)
include hd

/-- what Next's loop leaves -/
structure NL (A A1 : Hp) (p mi c2 : Nat) (io : Option Nat) (es : List En) (io' : Option Nat) (es' : List En) : Prop where
  wf : A1.wf
  nx : A.next ≤ A1.next
  old : ∀ j, j < A.next → j ≠ p → j ≠ mi → j ≠ c2 → (∀ e ∈ es, e.id ≠ j) → A1.get j = A.get j
  io : io' = io ∨ ∀ j, io' = some j → A.next ≤ j
  ids : ∀ x ∈ es', ∃ y ∈ es, y.id = x.id
  len : es'.length ≤ es.length

theorem next_loop (lf : Nat) {p mi c2 : Nat} : ∀ (es : List En) {A : Hp} {io : Option Nat} {lv : Value} {M : List (Nat × Int × Nat)} (fuel : Nat), A.wf → IsLane A p mi io lv es M → A.get c2 = some (.arr 29 [.int .i64 0, .int .u32 0, .int .u32 0] .own) → es.length < fuel → es.length ≤ 100000000 → es.length < lf0 →
    (live es = [] ∧ ∃ A1 lv', loopD (some [0, 2, 3]) (exec Tryd.bk.E call Tryd.f19.ntmps (Tryd.bk.inf 19) lf (loopOf Tryd.f19 0)) fuel [(0, ptr p), (2, ptr c2), (3, .bool false)] A = some (.exit 0, [(0, ptr p), (2, ptr c2), (3, .bool false)], A1) ∧
      IsLane A1 p mi io lv' [] M ∧ NL A A1 p mi c2 io es io [] ∧ A1.get c2 = A.get c2) ∨
    (∃ e L2, live es = e :: L2 ∧ ∃ A1 io' lv' es' M', loopD (some [0, 2, 3]) (exec Tryd.bk.E call Tryd.f19.ntmps (Tryd.bk.inf 19) lf (loopOf Tryd.f19 0)) fuel [(0, ptr p), (2, ptr c2), (3, .bool false)] A = some (.ret, [(0, ptr p), (2, ptr c2), (3, .bool true)], A1) ∧
      IsLane A1 p mi io' lv' es' M' ∧ NL A A1 p mi c2 io es io' es' ∧ live es' = L2 ∧ A1.get c2 = some (.arr 29 (tkC e) .own))
  | [], A, io, lv, M, 0, hw, h, hc, hf, _, _ => by omega
  | e :: es, A, io, lv, M, 0, hw, h, hc, hf, _, _ => by omega
  | [], A, io, lv, M, fuel + 1, hw, h, hc, hf, _, _ => by
    left
    obtain ⟨sa, sc, rfl⟩ := h.hl.sl3
    have hs : ∃ σ1, exec Tryd.bk.E call Tryd.f19.ntmps (Tryd.bk.inf 19) lf (loopOf Tryd.f19 0) [(0, ptr p), (2, ptr c2), (3, .bool false)] A = some (.exit 0, σ1, A) ∧ keepSl (some [0, 2, 3]) σ1 = [(0, ptr p), (2, ptr c2), (3, .bool false)] := by
      refine ⟨?sg, kexec_run ?run, ?kp⟩
      case run =>
        conv => lhs; whnf
        refine bind_of (cellsAt_of h.hp _ _) ?_
        conv => lhs; whnf
      case kp => rfl
    obtain ⟨σ1, r1, r2⟩ := hs
    have := loopD_end (ks := some [0, 2, 3]) (n := fuel) r1 (by simp)
    rw [r2] at this
    exact ⟨rfl, A, _, this, h, ⟨hw, Nat.le_refl _, fun _ _ _ _ _ _ => rfl, .inl rfl, by simp, Nat.le_refl _⟩, rfl⟩
  | e :: es, A, io, lv, M, fuel + 1, hw, h, hc, hf, hl8, hlf => by
    have hlen : (e :: es).length = es.length + 1 := rfl
    obtain ⟨pl1, pl2, pl3, pl4, pl5⟩ := h.pl hw
    have hcl := hw.lt hc
    have hcp : c2 ≠ p := by rintro rfl; rw [h.hp] at hc; cases hc
    have hcm : c2 ≠ mi := by rintro rfl; rw [h.hm] at hc; cases hc
    have hci : io ≠ some c2 := by
      rintro rfl
      obtain ⟨cs, hcs⟩ := h.hl.lt
      rw [hcs] at hc; cases hc
    have hce : ∀ x ∈ e :: es, x.id ≠ c2 := fun x hx => by
      rintro rfl
      have := h.he x hx
      rw [hc] at this; cases this
    have hsl := h.hl
    rw [List.map_cons, hlen] at hsl
    generalize hlv : lv = lv0 at hsl
    cases hsl with
    | «at» i o _ c cs _ hcc hg hl hu =>
    subst hlv
    have hcell : cellsIn cs (o + 0 * 1) 1 = some [ptr e.id] := cells_sl hl hu (j := 0) (by simp)
    let lv1 : Value := .slice (some ⟨i, o + 1, some 1⟩) es.length (2 * (c / 2 - 1) + c % 2)
    let f0 : Nat → Int := fun j => (cnt (e :: es) j : Nat)
    let n0 : Int := ((live (e :: es)).length : Nat)
    have hp0 : A.get p = some (.arr 109 (laneC (.slice (some ⟨i, o, some 1⟩) (es.length + 1) c) mi f0 n0) .own) := h.hp
    let A1 : Hp := A.set p (some (.arr 109 (laneC lv1 mi f0 n0) .own))
    have p1 : A1.get p = some (.arr 109 (laneC lv1 mi f0 n0) .own) := Hp.get_set_same _ _ _
    have w1 : A1.wf := hw.put hp0 _
    have n1 : A1.next = A.next := Hp.next_set _ _ _
    have o1 : ∀ j, j ≠ p → A1.get j = A.get j := fun j hj => Hp.get_set_ne _ _ hj
    have hip : i ≠ p := (pl4 i rfl).2.1
    have hsl1 : SlAt 112 1 A1 lv1 (some i) (es.map fun e => ptr e.id) es.length := by
      refine .at i (o + 1) es.length _ cs _ (by omega) (by rw [o1 i hip]; exact hg) (by omega) ?_
      have h2 : (cs.drop (o + 1)).take (es.length * 1) = ((cs.drop o).take ((es.length + 1) * 1)).drop 1 := by
        rw [List.drop_take, List.drop_drop]
        congr 1
      rw [h2, hu]
      rfl
    have c1 : A1.get c2 = some (.arr 29 [.int .i64 0, .int .u32 0, .int .u32 0] .own) := by rw [o1 c2 hcp]; exact hc
    have hge : A1.get e.id = some (.arr 117 e.cells .own) := by rw [o1 _ (pl5 e (by simp)).2.1]; exact h.he e (by simp)
    have hnd := h.nd
    have hnd2 : (es.map (·.id)).Nodup := (List.nodup_cons.1 (by simpa using hnd)).2
    have hne : ∀ x ∈ es, x.id ≠ e.id := fun x hx hid => (List.nodup_cons.1 (show (e.id :: es.map (·.id)).Nodup by simpa using hnd)).1 (List.mem_map.2 ⟨x, hx, hid⟩)
    have d0 : (0 : Int) < ((es.length + 1 : Nat) : Int) := by omega
    have dgt : ((es.length + 1 : Nat) : Int) > 0 := by omega
    have d1 : (1 : Int) ≤ ((es.length + 1 : Nat) : Int) := by omega
    obtain ⟨id, ek, esx, ev, eg⟩ := e
    cases eg with
    | true =>
      have hlv : live (⟨id, ek, esx, ev, true⟩ :: es) = live es := by unfold live; simp
      have hcn : ∀ j, cnt (⟨id, ek, esx, ev, true⟩ :: es) j = cnt es j := fun j => by unfold cnt; rw [hlv]
      have L1 : IsLane A1 p mi (some i) lv1 es M := by
        refine ⟨?_, hsl1, by rw [o1 mi pl3.symm]; exact h.hm, fun x hx => by rw [o1 _ (pl5 x (List.mem_cons_of_mem _ hx)).2.1]; exact h.he x (List.mem_cons_of_mem _ hx), hnd2, ?_, fun x hx => h.ok x (List.mem_cons_of_mem _ hx)⟩
        · rw [p1]
          show some (Ob.arr 109 (laneC lv1 mi (fun j => ((cnt (⟨id, ek, esx, ev, true⟩ :: es) j : Nat) : Int)) (((live (⟨id, ek, esx, ev, true⟩ :: es)).length : Nat) : Int)) .own) = _
          simp only [hcn, hlv]
        · refine ⟨fun x hx => ?_, fun x hx => h.mp.of x (List.mem_cons_of_mem _ hx), h.mp.nd⟩
          obtain ⟨y, hy, y1, y2, y3, y4, y5⟩ := h.mp.isin x hx
          rcases List.mem_cons.1 hy with rfl | hy
          · cases y4
          · exact ⟨y, hy, y1, y2, y3, y4, y5⟩
      have hs : ∃ σ1, exec Tryd.bk.E call Tryd.f19.ntmps (Tryd.bk.inf 19) lf (loopOf Tryd.f19 0) [(0, ptr p), (2, ptr c2), (3, .bool false)] A = some (.normal, σ1, A1) ∧ keepSl (some [0, 2, 3]) σ1 = [(0, ptr p), (2, ptr c2), (3, .bool false)] := by
        refine ⟨?sg1, kexec_run ?run1, ?kp1⟩
        case run1 =>
          conv => lhs; whnf
          refine bind_of (cellsAt_of hp0 _ _) ?_
          conv => lhs; whnf
          rw [kdec dgt]
          conv => lhs; whnf
          refine bind_of (cellsAt_of hp0 _ _) ?_
          conv => lhs; whnf
          rw [kdec d0]
          conv => lhs; whnf
          refine bind_of ((cellsAt_of hg _ _).trans hcell) ?_
          conv => lhs; whnf
          refine bind_of (cellsAt_of hp0 _ _) ?_
          conv => lhs; whnf
          rw [kdec d1]
          conv => lhs; whnf
          refine bind_of (dstore_of hp0 (t := 106) (o := 0) (cs' := laneC lv1 mi f0 n0) rfl) ?_
          conv => lhs; whnf
          refine bind_of (cellsAt_of hge _ _) ?_
          conv => lhs; whnf
        case kp1 => rfl
      obtain ⟨σ1, r1, r2⟩ := hs
      have io1 : ∀ j, (some i : Option Nat) = some j → j ≠ c2 := fun j hj e => hci (by rw [hj, e])
      rcases next_loop lf es fuel w1 L1 c1 (by omega) (by omega) (by omega) with ⟨q1, B, lv2, q2, q3, q4, q5⟩ | ⟨e2, L2, q1, B, io2, lv2, es2, M2, q2, q3, q4, q5, q6⟩
      · left
        refine ⟨by rw [hlv]; exact q1, B, lv2, loopD_go r1 r2 q2, q3, ⟨q4.wf, by rw [← n1]; exact q4.nx, fun j hj h1 h2 h3 h4 => ?_, .inl rfl, by simp, by simp⟩, by rw [q5, o1 c2 hcp]⟩
        rw [q4.old j (by omega) h1 h2 h3 (fun x hx => h4 x (List.mem_cons_of_mem _ hx)), o1 j h1]
      · right
        refine ⟨e2, L2, by rw [hlv]; exact q1, B, io2, lv2, es2, M2, loopD_go r1 r2 q2, q3, ⟨q4.wf, by rw [← n1]; exact q4.nx, fun j hj h1 h2 h3 h4 => ?_, by rw [← n1]; exact q4.io, fun x hx => ?_, by have := q4.len; omega⟩, q5, q6⟩
        · rw [q4.old j (by omega) h1 h2 h3 (fun x hx => h4 x (List.mem_cons_of_mem _ hx)), o1 j h1]
        · obtain ⟨y, hy, hid⟩ := q4.ids x hx
          exact ⟨y, List.mem_cons_of_mem _ hy, hid⟩
    | false =>
      right
      have hlv : live (⟨id, ek, esx, ev, false⟩ :: es) = ⟨id, ek, esx, ev, false⟩ :: live es := by unfold live; simp
      have hdie : die id es = es := by
        unfold die
        conv => rhs; rw [← List.map_id es]
        refine List.map_congr_left fun x hx => ?_
        rw [if_neg (hne x hx)]; rfl
      obtain ⟨A2, io2, lv2, es2, r, a1, a2, a3, a4, a5, a6, a7, a8, a9, a10⟩ := drop_step (call := call0) lf0 w1 (al := ⟨id, ek, esx, ev, false⟩ :: es) (es := es) p1 hsl1 (by rw [o1 mi pl3.symm]; exact h.hm)
        (fun x hx => by rw [o1 _ (pl5 x hx).2.1]; exact h.he x hx) h.nd h.mp h.ok (e := ⟨id, ek, esx, ev, false⟩) (by simp) rfl (L1 := []) (L2 := live es) (by rw [hlv]; rfl) (fun x hx => List.mem_cons_of_mem _ hx) (by rw [hdie]; rfl) hnd2 (by omega) (by omega) (by omega)
      simp only at a1 a4 a10
      have hda := hd _ _ _ a1
      have c2' : A2.get c2 = some (.arr 29 [.int .i64 0, .int .u32 0, .int .u32 0] .own) := by rw [a4 c2 (by omega) hcp hcm (hce ⟨id, ek, esx, ev, false⟩ (by simp)).symm]; exact c1
      let T : List Value := [.int .i64 (ek : Nat), .int .u32 esx, .int .u32 ev]
      let A3 : Hp := A2.set c2 (some (.arr 29 T .own))
      have L3 : IsLane A3 p mi io2 lv2 es2 (M' M ek esx) := a5.keep fun j ob hj hcs => by
        refine Hp.get_set_ne _ _ ?_
        rintro rfl
        obtain ⟨b1, b2, b3, b4, b5⟩ := a5.pl a2
        rcases hcs with e1 | e1 | e1 | ⟨x, hx, e1⟩
        · exact hcp e1
        · exact hcm e1
        · subst e1
          obtain ⟨cs', hcs'⟩ := a5.hl.lt
          rw [hcs'] at c2'; cases c2'
        · have := a5.he x hx
          rw [e1, c2'] at this; cases this
      have hs : ∃ σ1, exec Tryd.bk.E call Tryd.f19.ntmps (Tryd.bk.inf 19) lf (loopOf Tryd.f19 0) [(0, ptr p), (2, ptr c2), (3, .bool false)] A = some (.ret, σ1, A3) ∧ keepSl (some [0, 2, 3]) σ1 = [(0, ptr p), (2, ptr c2), (3, .bool true)] := by
        refine ⟨?sg2, kexec_run ?run2, ?kp2⟩
        case run2 =>
          conv => lhs; whnf
          refine bind_of (cellsAt_of hp0 _ _) ?_
          conv => lhs; whnf
          rw [kdec dgt]
          conv => lhs; whnf
          refine bind_of (cellsAt_of hp0 _ _) ?_
          conv => lhs; whnf
          rw [kdec d0]
          conv => lhs; whnf
          refine bind_of ((cellsAt_of hg _ _).trans hcell) ?_
          conv => lhs; whnf
          refine bind_of (cellsAt_of hp0 _ _) ?_
          conv => lhs; whnf
          rw [kdec d1]
          conv => lhs; whnf
          refine bind_of (dstore_of hp0 (t := 106) (o := 0) (cs' := laneC lv1 mi f0 n0) rfl) ?_
          conv => lhs; whnf
          refine bind_of (cellsAt_of hge _ _) ?_
          conv => lhs; whnf
          refine bind_of hda ?_
          conv => lhs; whnf
          refine bind_of (cellsAt_of a10 _ _) ?_
          conv => lhs; whnf
          refine bind_of (dstore_of c2' (t := 29) (o := 0) (cs' := T) rfl) ?_
          conv => lhs; whnf
        case kp2 => rfl
      obtain ⟨σ1, r1, r2⟩ := hs
      have := loopD_end (ks := some [0, 2, 3]) (n := fuel) r1 (by simp)
      rw [r2] at this
      refine ⟨_, _, hlv, A3, io2, lv2, es2, _, this, L3, ⟨a2.put c2' _, by rw [Hp.next_set]; omega, fun j hj h1 h2 h3 h4 => ?_, by rw [← n1]; exact a7, fun x hx => ?_, by omega⟩, a6, Hp.get_set_same _ _ _⟩
      · rw [Hp.get_set_ne _ _ h3, a4 j (by omega) h1 h2 (h4 ⟨id, ek, esx, ev, false⟩ (by simp)).symm, o1 j h1]
      · obtain ⟨y, hy, hid⟩ := a8 x hx
        exact ⟨y, List.mem_cons_of_mem _ hy, hid⟩

/-- Next -/
theorem lane_next (lf : Nat) {A : Hp} (hw : A.wf) {p : Nat} {S : Nat → Prop} {ts : List Tk} {N : Nat} (h : Lx A p S ts N) (hN : N ≤ 100000000) (hN2 : N < lf0) (hN3 : N < lf) :
    ∃ A' S', kfn Tryd.bk.E call (Tryd.bk.inf 19) lf Tryd.f19 [ptr p] A = some ((match ts with
      | [] => .tuple #[.agg #[.int .i64 0, .int .u32 0, .int .u32 0], .bool false]
      | t :: _ => .tuple #[.agg #[.int .i64 (t.1 : Nat), .int .u32 t.2.1, .int .u32 t.2.2], .bool true]), A') ∧ St A A' p S S' ∧ Lx A' p S' ts.tail N := by
  obtain ⟨mi, io, lv, es, M, h1, rfl, h3, h4, h5, h6⟩ := h
  let Z : List Value := [.int .i64 0, .int .u32 0, .int .u32 0]
  let A1 : Hp := A.push (.arr 29 Z .own)
  have k1 : Kp A A1 := Kp.push hw _
  have n1 : A1.next = A.next + 1 := by simp [A1]
  have c1 : A1.get A.next = some (.arr 29 Z .own) := Hp.get_push_same _ _
  obtain ⟨pl1, pl2, pl3, pl4, pl5⟩ := h1.pl hw
  rcases next_loop hd lf es lf k1.wf (h1.kp hw k1) c1 (by omega) (by omega) (by omega) with ⟨q1, B, lv2, q2, q3, q4, q5⟩ | ⟨e2, L2, q1, B, io2, lv2, es2, M2, q2, q3, q4, q5, q6⟩
  · rw [c1] at q5
    have hnx := q4.nx
    have kB := q4.wf.put q5 (.arr 29 Z .own)
    have hts : tks es = [] := by unfold tks; rw [q1]; rfl
    rw [hts]
    refine ⟨B.set A.next (some (.arr 29 Z .own)), S, ?run, ⟨kB, by rw [Hp.next_set]; omega, ?old, fun _ h => .inl h⟩, ⟨mi, io, lv2, [], M, q3.keep ?kk, rfl, h3, h4, by simp, Nat.zero_le _⟩⟩
    case old =>
      intro j hj hjp hjS
      rw [Hp.get_set_ne _ _ (by omega), q4.old j (by omega) hjp (fun e => hjS (by rw [e]; exact h3)) (by omega) (fun x hx e => hjS (by rw [← e]; exact h5 x hx)), k1.old j hj]
    case kk =>
      intro j o hj hcs
      refine Hp.get_set_ne _ _ ?_
      rcases hcs with e | e | e | ⟨x, hx, e⟩
      · omega
      · omega
      · have := (pl4 j e).1; omega
      · simp at hx
    case run =>
      conv => lhs; whnf
      refine bind_of q2 ?_
      conv => lhs; whnf
      refine bind_of (dstore_of q5 (t := 29) (o := 0) (cs' := Z) rfl) ?_
      conv => lhs; whnf
      refine bind_of (cellsAt_of (A := B.set A.next (some (.arr 29 Z .own))) (i := A.next) (Hp.get_set_same _ _ _) 0 3) ?_
      conv => lhs; whnf
      rfl
  · have hnx := q4.nx
    have hts : tks es = e2.tk :: L2.map En.tk := by unfold tks; rw [q1]; rfl
    rw [hts]
    refine ⟨B, fun j => S j ∨ A.next ≤ j, ?run2, ⟨q4.wf, by omega, ?old2, fun _ h => h⟩, ⟨mi, io2, lv2, es2, M2, q3, by unfold tks; rw [q5]; rfl, .inl h3, ?i2, ?x2, by have := q4.len; omega⟩⟩
    case old2 =>
      intro j hj hjp hjS
      rw [q4.old j (by omega) hjp (fun e => hjS (by rw [e]; exact h3)) (by omega) (fun x hx e => hjS (by rw [← e]; exact h5 x hx)), k1.old j hj]
    case i2 =>
      intro i hi
      rcases q4.io with e | e
      · exact .inl (h4 i (by rw [← e]; exact hi))
      · have := e i hi; exact .inr (by omega)
    case x2 =>
      intro x hx
      obtain ⟨y, hy, hid⟩ := q4.ids x hx
      rw [← hid]
      exact .inl (h5 y hy)
    case run2 =>
      conv => lhs; whnf
      refine bind_of q2 ?_
      conv => lhs; whnf
      refine bind_of (cellsAt_of q6 _ _) ?_
      conv => lhs; whnf
      rfl
end
end Go.Dn.Ln
end
