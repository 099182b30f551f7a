/-
  Part of the abstract machine for this program.
-/
import Derived.Test.YtombnpednnngoaaDoorPJ

section
/-
  BacklogPlays: the document's backlog: Put, Take, Remove
-/
namespace Go.Dn.Bl
open Go.Proofs Go.Dn.Ln
set_option maxHeartbeats 4000000
set_option maxRecDepth 100000
attribute [local irreducible] Hp.get Hp.set Hp.push dappend dcopy dstore cellsAt callD loopD

theorem at_ge (x : Int) (L : List Int) : (0 ≤ atV x L) ↔ L.any (· == x) = true := by
  unfold atV
  cases h : L.findIdx? (· == x) with
  | none =>
    rw [List.findIdx?_eq_none_iff] at h
    constructor
    · intro h2; simp at h2
    · intro h2
      obtain ⟨y, hy, hyx⟩ := List.any_eq_true.1 h2
      rw [h y hy] at hyx
      cases hyx
  | some i =>
    constructor
    · intro _
      obtain ⟨hi, hy, _⟩ := List.findIdx?_eq_some_iff_getElem.1 h
      exact List.any_eq_true.2 ⟨_, List.getElem_mem hi, hy⟩
    · intro _
      simp

def AtOK (call : CallT) : Prop := ∀ {A : Hp}, A.wf → ∀ (m : Int) {a : Option Addr} {c : Nat} {L : List Int}, BsAt A (.slice a L.length c) (nums L) → ∀ x : Int, L.length ≤ 1000000 →
  ∃ A', call 71 [dv m (.slice a L.length c), .int .u32 x] A = some (.int .i64 (atV x L), A') ∧ Kp A A'

/-- a copy of a readable list: the append to an empty one -/
theorem copy_of {A : Hp} (hw : A.wf) {v : Value} {us : List Value} (hv : BsAt A v us) (hn : us.length ≤ 1000000) :
    ∃ V A' io, dappend Tryd.bk.E 49 49 (A.push (.arr 27 [] .own)) (.slice (some ⟨A.next, 0, some 1⟩) 0 1) v = some (V, A') ∧ SlAt 27 1 A' V io us us.length ∧ Kp A A' ∧ ∀ j, io = some j → A.next ≤ j := by
  let E4 : Hp := A.push (.arr 27 [] .own)
  have w5 : E4.wf := hw.push _
  have n5 : E4.next = A.next + 1 := Hp.next_push _ _
  have he : SlAt 27 1 E4 (.slice (some ⟨A.next, 0, some 1⟩) 0 1) (some A.next) [] 0 := .at A.next 0 0 1 [] [] (.inr rfl) (Hp.get_push_same _ _) (by simp) rfl
  have hxe : elemsOf E4 1 v = some (us.length, us) := (hv.old hw fun i hi => Hp.get_push_ne _ _ (by omega)).elems
  obtain ⟨VW, B5, iw, r5, cw, nw, ww, ow, fw⟩ := append_at (t := 49) (t2 := 49) (E := Tryd.bk.E) (e := 27) (sz := 1) (bz := 4) ⟨⟨_, rfl, rfl⟩, ⟨_, _, rfl, rfl, rfl, rfl, rfl⟩, by decide⟩ ⟨_, _, rfl, rfl⟩ he hxe (by omega) (by omega) (by unfold maxLen; omega)
  rw [List.nil_append, Nat.zero_add] at cw
  refine ⟨VW, B5, iw, r5, cw, ⟨ww w5, by omega, fun j hj => ?_⟩, fun j hj => ?_⟩
  · rw [ow j (by omega) (fun e => by cases e; omega)]; exact Hp.get_push_ne _ _ (by omega)
  · rcases fw with ⟨e, _⟩ | ⟨i', e, e2, _⟩
    · rw [e] at hj; cases hj; omega
    · rw [e] at hj; cases hj; omega

theorem rput_walk {call : CallT} (hat : AtOK call) (lf : Nat) {A : Hp} (hw : A.wf) (m : Int) {a : Option Addr} {c : Nat} {L : List Int} (hv : BsAt A (.slice a L.length c) (nums L)) (x : Int) (hn : L.length ≤ 1024) :
    ∃ a' c' A', kfn Tryd.bk.E call (Tryd.bk.inf 68) lf Tryd.f68 [dv m (.slice a L.length c), .int .u32 x] A = some (.tuple #[dv m (.slice a' (putB m L x).2.length c'), .int .i64 (codB (putB m L x).1)], A') ∧ Kp A A' ∧ BsAt A' (.slice a' (putB m L x).2.length c') (nums (putB m L x).2) := by
  let W : List Value := [.int .i64 m, .slice a L.length c]
  let A1 : Hp := A.push (.arr 51 W .own)
  have k1 : Kp A A1 := Kp.push hw _
  have n1 : A1.next = A.next + 1 := Hp.next_push _ _
  let A2 : Hp := A1.push (.arr 51 [.int .i64 0, .slice none 0 0] .own)
  have k2 : Kp A A2 := k1.trans (Kp.push k1.wf _)
  have n2 : A2.next = A.next + 2 := by show (Hp.push _ _).next = _; rw [Hp.next_push, n1]
  have p2 : A2.get A.next = some (.arr 51 W .own) := by rw [Hp.get_push_ne _ _ (by omega)]; exact Hp.get_push_same _ _
  have q2 : A2.get A1.next = some (.arr 51 [.int .i64 0, .slice none 0 0] .own) := Hp.get_push_same _ _
  have hv2 : BsAt A2 (.slice a L.length c) (nums L) := hv.old hw fun i hi => k2.old i hi
  obtain ⟨A3, r3, k3⟩ := hat k2.wf m hv2 x (by omega)
  have kA := k2.trans k3
  have p3 : A3.get A.next = some (.arr 51 W .own) := by rw [k3.old _ (by omega)]; exact p2
  have q3 : A3.get A1.next = some (.arr 51 [.int .i64 0, .slice none 0 0] .own) := by rw [k3.old _ (by omega)]; exact q2
  have hv3 : BsAt A3 (.slice a L.length c) (nums L) := hv.old hw fun i hi => kA.old i hi
  have hge := at_ge x L
  unfold putB
  by_cases hh : L.any (· == x) = true
  · rw [if_pos hh]
    have e1 : atV x L ≥ 0 := hge.2 hh
    refine ⟨a, c, A3.set A1.next (some (.arr 51 W .own)), ?run1, kA.set q3 (by omega) _, hv.old hw fun i hi => by rw [Hp.get_set_ne _ _ (by omega)]; exact kA.old i hi⟩
    case run1 =>
      conv => lhs; whnf
      refine bind_of (cellsAt_of p2 _ _) ?_
      conv => lhs; whnf
      refine bind_of r3 ?_
      conv => lhs; whnf
      rw [kdec e1]
      conv => lhs; whnf
      refine bind_of (cellsAt_of p3 _ _) ?_
      conv => lhs; whnf
      refine bind_of (dstore_of q3 (t := 51) (o := 0) (cs' := W) rfl) ?_
      conv => lhs; whnf
      refine bind_of (cellsAt_of (Hp.get_set_same _ _ _) _ _) ?_
      conv => lhs; whnf
      try rfl
  · rw [if_neg hh]
    have e1 : ¬ atV x L ≥ 0 := fun h => hh (hge.1 h)
    unfold putF
    by_cases hf : m ≤ (L.length : Nat)
    · rw [if_pos hf]
      have e2 : ((L.length : Nat) : Int) ≥ m := hf
      refine ⟨a, c, A3.set A1.next (some (.arr 51 W .own)), ?run2, kA.set q3 (by omega) _, hv.old hw fun i hi => by rw [Hp.get_set_ne _ _ (by omega)]; exact kA.old i hi⟩
      case run2 =>
        conv => lhs; whnf
        refine bind_of (cellsAt_of p2 _ _) ?_
        conv => lhs; whnf
        refine bind_of r3 ?_
        conv => lhs; whnf
        rw [kdecn e1]
        conv => lhs; whnf
        refine bind_of (cellsAt_of p3 _ _) ?_
        conv => lhs; whnf
        refine bind_of (cellsAt_of p3 _ _) ?_
        conv => lhs; whnf
        rw [kdec e2]
        conv => lhs; whnf
        refine bind_of (cellsAt_of p3 _ _) ?_
        conv => lhs; whnf
        refine bind_of (dstore_of q3 (t := 51) (o := 0) (cs' := W) rfl) ?_
        conv => lhs; whnf
        refine bind_of (cellsAt_of (Hp.get_set_same _ _ _) _ _) ?_
        conv => lhs; whnf
        try rfl
    · rw [if_neg hf]
      have e2 : ¬ ((L.length : Nat) : Int) ≥ m := hf
      have p3' : (A3.push (.arr 27 [] .own)).get A.next = some (.arr 51 W .own) := by rw [Hp.get_push_ne _ _ (by have := k3.nx; omega)]; exact p3
      obtain ⟨V1, A4, i4, r4, c4, k4, f4⟩ := copy_of k3.wf hv3 (by rw [nums_len]; omega)
      rw [nums_len] at c4
      obtain ⟨V2, A5, i5, r5, c5, f5, n5, w5, o5⟩ := app_val k4.wf c4 (.int .u32 x) (by omega)
      have hnx := k3.nx
      have hnx4 := k4.nx
      have p5 : A5.get A.next = some (.arr 51 W .own) := by rw [o5 _ (by omega) (fun e => by have := f4 _ e; omega), k4.old _ (by omega)]; exact p3
      have q5 : A5.get A1.next = some (.arr 51 [.int .i64 0, .slice none 0 0] .own) := by rw [o5 _ (by omega) (fun e => by have := f4 _ e; omega), k4.old _ (by omega)]; exact q3
      have el : (L ++ [x]).length = L.length + 1 := by simp
      have en : nums (L ++ [x]) = nums L ++ [.int .u32 x] := by simp [nums]
      simp only [el, en]
      obtain ⟨a5, d5, rfl⟩ := c5.sl3
      let W2 : List Value := [.int .i64 m, .slice a5 (L.length + 1) d5]
      let A6 : Hp := A5.set A.next (some (.arr 51 W2 .own))
      have q6 : A6.get A1.next = some (.arr 51 [.int .i64 0, .slice none 0 0] .own) := by rw [Hp.get_set_ne _ _ (by omega)]; exact q5
      have k5 : Kp A A5 := ⟨w5, by omega, fun j hj => by rw [o5 j (by omega) (fun e => by have := f4 _ e; omega), k4.old j (by omega), kA.old j hj]⟩
      refine ⟨a5, d5, A6.set A1.next (some (.arr 51 W2 .own)), ?run3, (k5.set p5 (Nat.le_refl _) _).set q6 (by omega) _, can_bs (c5.keep fun j hj => ?_)⟩
      case run3 =>
        conv => lhs; whnf
        refine bind_of (cellsAt_of p2 _ _) ?_
        conv => lhs; whnf
        refine bind_of r3 ?_
        conv => lhs; whnf
        rw [kdecn e1]
        conv => lhs; whnf
        refine bind_of (cellsAt_of p3 _ _) ?_
        conv => lhs; whnf
        refine bind_of (cellsAt_of p3 _ _) ?_
        conv => lhs; whnf
        rw [kdecn e2]
        conv => lhs; whnf
        refine bind_of (cellsAt_of p3' _ _) ?_
        conv => lhs; whnf
        refine bind_of r4 ?_
        conv => lhs; whnf
        refine bind_of r5 ?_
        conv => lhs; whnf
        refine bind_of (dstore_of p5 (t := 49) (o := 1) (cs' := W2) rfl) ?_
        conv => lhs; whnf
        refine bind_of (cellsAt_of (Hp.get_set_same _ _ _) _ _) ?_
        conv => lhs; whnf
        refine bind_of (dstore_of q6 (t := 51) (o := 0) (cs' := W2) rfl) ?_
        conv => lhs; whnf
        refine bind_of (cellsAt_of (Hp.get_set_same _ _ _) _ _) ?_
        conv => lhs; whnf
        try rfl
      · cases hj
        have h1 : i5 ≠ A1.next := by omega
        have h2 : i5 ≠ A.next := by omega
        rw [Hp.get_set_ne _ _ h1, Hp.get_set_ne _ _ h2]

theorem bs_some {A : Hp} {a : Option Addr} {c : Nat} {x : Int} {L : List Int} (h : BsAt A (.slice a (x :: L).length c) (nums (x :: L))) :
    ∃ b o T cs md, a = some ⟨b, o, some 1⟩ ∧ A.get b = some (.arr T cs md) ∧ o + (x :: L).length ≤ cs.length ∧ (cs.drop o).take (x :: L).length = nums (x :: L) ∧ (x :: L).length ≤ c / 2 := by
  generalize hv : (Value.slice a (x :: L).length c) = v at h
  cases h with
  | «at» b o n c' T cs _ md hg hl hu hc =>
    cases hv
    exact ⟨b, o, T, cs, md, rfl, hg, hl, hu, hc⟩

def rtakeV (m : Int) (V : Value) (L : List Int) : Value := match L with
  | [] => .tuple #[dv m V, .int .u32 0, .bool false]
  | x :: _ => .tuple #[dv m V, .int .u32 x, .bool true]

theorem rtake_walk {call : CallT} (lf : Nat) {A : Hp} (hw : A.wf) (m : Int) {a : Option Addr} {c : Nat} {L : List Int} (hv : BsAt A (.slice a L.length c) (nums L)) (hn : L.length ≤ 1024) :
    ∃ a' c' A', kfn Tryd.bk.E call (Tryd.bk.inf 69) lf Tryd.f69 [dv m (.slice a L.length c)] A = some (rtakeV m (.slice a' L.tail.length c') L, A') ∧ Kp A A' ∧ BsAt A' (.slice a' L.tail.length c') (nums L.tail) := by
  let W : List Value := [.int .i64 m, .slice a L.length c]
  let A1 : Hp := A.push (.arr 51 W .own)
  have k1 : Kp A A1 := Kp.push hw _
  have n1 : A1.next = A.next + 1 := Hp.next_push _ _
  let A2 : Hp := A1.push (.arr 51 [.int .i64 0, .slice none 0 0] .own)
  have k2 : Kp A A2 := k1.trans (Kp.push k1.wf _)
  have n2 : A2.next = A.next + 2 := by show (Hp.push _ _).next = _; rw [Hp.next_push, n1]
  have p2 : A2.get A.next = some (.arr 51 W .own) := by rw [Hp.get_push_ne _ _ (by omega)]; exact Hp.get_push_same _ _
  have q2 : A2.get A1.next = some (.arr 51 [.int .i64 0, .slice none 0 0] .own) := Hp.get_push_same _ _
  have hv2 : BsAt A2 (.slice a L.length c) (nums L) := hv.old hw fun i hi => k2.old i hi
  cases L with
  | nil =>
    refine ⟨a, c, A2.set A1.next (some (.arr 51 W .own)), ?run1, k2.set q2 (by omega) _, hv.old hw fun i hi => by rw [Hp.get_set_ne _ _ (by omega)]; exact k2.old i hi⟩
    case run1 =>
      conv => lhs; whnf
      refine bind_of (cellsAt_of p2 _ _) ?_
      conv => lhs; whnf
      refine bind_of (cellsAt_of p2 _ _) ?_
      conv => lhs; whnf
      refine bind_of (dstore_of q2 (t := 51) (o := 0) (cs' := W) rfl) ?_
      conv => lhs; whnf
      refine bind_of (cellsAt_of (Hp.get_set_same _ _ _) _ _) ?_
      conv => lhs; whnf
      try rfl
  | cons x L =>
    obtain ⟨b, o, T, cs, md, rfl, hg, hl, hu, hc⟩ := bs_some hv2
    obtain ⟨b', o', T', cs', md', e0, g, q, _⟩ := bs_cell hv2 (i := 0) (x := .int .u32 x) rfl
    cases e0
    rw [hg] at g
    cases g
    have hll : (x :: L).length = L.length + 1 := rfl
    have e1 : (0 : Int) < (((x :: L).length : Nat) : Int) := by omega
    have e2 : (1 : Int) ≤ (((x :: L).length : Nat) : Int) := by omega
    have hs : BsAt A2 (.slice (some ⟨b, o + 1 * 1, some 1⟩) L.length (2 * (c / 2 - 1) + c % 2)) (nums L) := by
      refine .at b (o + 1 * 1) L.length _ T cs (nums L) md hg (by omega) ?_ (by omega)
      have h2 : (cs.drop (o + 1 * 1)).take L.length = ((cs.drop o).take (x :: L).length).drop 1 := by
        rw [List.drop_take, List.drop_drop]
        congr 1
      rw [h2, hu]
      rfl
    obtain ⟨V1, A4, i4, r4, c4, k4, f4⟩ := copy_of k2.wf hs (by rw [nums_len]; omega)
    rw [nums_len] at c4
    have p3' : (A2.push (.arr 27 [] .own)).get A.next = some (.arr 51 W .own) := by rw [Hp.get_push_ne _ _ (by omega)]; exact p2
    obtain ⟨a4, d4, rfl⟩ := c4.sl3
    have hnx4 := k4.nx
    have p4 : A4.get A.next = some (.arr 51 W .own) := by rw [k4.old _ (by omega)]; exact p2
    have q4 : A4.get A1.next = some (.arr 51 [.int .i64 0, .slice none 0 0] .own) := by rw [k4.old _ (by omega)]; exact q2
    let W2 : List Value := [.int .i64 m, .slice a4 L.length d4]
    let A6 : Hp := A4.set A.next (some (.arr 51 W2 .own))
    have q6 : A6.get A1.next = some (.arr 51 [.int .i64 0, .slice none 0 0] .own) := by rw [Hp.get_set_ne _ _ (by omega)]; exact q4
    have kA := k2.trans k4
    refine ⟨a4, d4, A6.set A1.next (some (.arr 51 W2 .own)), ?run3, (kA.set p4 (Nat.le_refl _) _).set q6 (by omega) _, (c4.keep fun j hj => ?_).bs⟩
    case run3 =>
      conv => lhs; whnf
      refine bind_of (cellsAt_of p2 _ _) ?_
      conv => lhs; whnf
      refine bind_of (cellsAt_of p2 _ _) ?_
      conv => lhs; whnf
      rw [kdec e1]
      conv => lhs; whnf
      refine bind_of ((cellsAt_of hg _ _).trans q) ?_
      conv => lhs; whnf
      refine bind_of (cellsAt_of p3' _ _) ?_
      conv => lhs; whnf
      rw [kdec e2]
      conv => lhs; whnf
      refine bind_of r4 ?_
      conv => lhs; whnf
      refine bind_of (dstore_of p4 (t := 49) (o := 1) (cs' := W2) rfl) ?_
      conv => lhs; whnf
      refine bind_of (cellsAt_of (Hp.get_set_same _ _ _) _ _) ?_
      conv => lhs; whnf
      refine bind_of (dstore_of q6 (t := 51) (o := 0) (cs' := W2) rfl) ?_
      conv => lhs; whnf
      refine bind_of (cellsAt_of (Hp.get_set_same _ _ _) _ _) ?_
      conv => lhs; whnf
      try rfl
    · have := f4 j hj
      have h1 : j ≠ A1.next := by omega
      have h2 : j ≠ A.next := by omega
      rw [Hp.get_set_ne _ _ h1, Hp.get_set_ne _ _ h2]
end Go.Dn.Bl
end

section
/-
  BacklogPlays: the document's backlog: Remove
-/
namespace Go.Dn.Bl
open Go.Proofs Go.Dn.Ln
set_option maxHeartbeats 4000000
set_option maxRecDepth 100000
attribute [local irreducible] Hp.get Hp.set Hp.push dappend dcopy dstore cellsAt callD loopD

theorem stay_split {x : Int} : ∀ {L : List Int} {i : Nat}, L.Nodup → L.findIdx? (· == x) = some i → stayL (· == x) L = L.take i ++ L.drop (i + 1) ∧ i < L.length
  | [], i, _, h => by simp at h
  | y :: L, i, hn, h => by
    obtain ⟨n1, n2⟩ := List.nodup_cons.1 hn
    rw [List.findIdx?_cons] at h
    by_cases hy : (y == x) = true
    · rw [hy] at h
      simp only [if_true, Option.some.injEq] at h
      subst h
      have hyx : y = x := by simpa using hy
      subst hyx
      have h1 : L.any (· == y) = false := by
        apply List.any_eq_false.2
        intro z hz hzy
        have : z = y := by simpa using hzy
        exact n1 (this ▸ hz)
      have h3 := stay_none h1
      have e : stayL (· == y) (y :: L) = stayL (· == y) L := by unfold stayL; rw [List.filter_cons]; simp
      rw [e, h3]
      exact ⟨rfl, by simp⟩
    · have hyf : (y == x) = false := Bool.eq_false_iff.2 hy
      rw [hyf] at h
      simp only [Bool.false_eq_true, if_false] at h
      cases hf : L.findIdx? (· == x) with
      | none => rw [hf] at h; cases h
      | some j =>
        rw [hf] at h
        simp only [Option.map_some, Option.some.injEq] at h
        subst h
        obtain ⟨h1, h2⟩ := stay_split n2 hf
        have e : stayL (· == x) (y :: L) = y :: stayL (· == x) L := by
          have hne : ¬ y = x := by simpa using hy
          unfold stayL; rw [List.filter_cons]; simp [hne]
        rw [e, h1]
        exact ⟨rfl, by simp; omega⟩

theorem rrem_walk {call : CallT} (hat : AtOK call) (lf : Nat) {A : Hp} (hw : A.wf) (m : Int) {a : Option Addr} {c : Nat} {L : List Int} (hv : BsAt A (.slice a L.length c) (nums L)) (hnd : L.Nodup) (x : Int) (hn : L.length ≤ 1024) :
    ∃ a' c' A', kfn Tryd.bk.E call (Tryd.bk.inf 70) lf Tryd.f70 [dv m (.slice a L.length c), .int .u32 x] A = some (.tuple #[dv m (.slice a' (stayL (· == x) L).length c'), .bool (L.any (· == x))], A') ∧ Kp A A' ∧ BsAt A' (.slice a' (stayL (· == x) L).length c') (nums (stayL (· == x) L)) := by
  let W : List Value := [.int .i64 m, .slice a L.length c]
  let A1 : Hp := A.push (.arr 51 W .own)
  have k1 : Kp A A1 := Kp.push hw _
  have n1 : A1.next = A.next + 1 := Hp.next_push _ _
  let A2 : Hp := A1.push (.arr 51 [.int .i64 0, .slice none 0 0] .own)
  have k2 : Kp A A2 := k1.trans (Kp.push k1.wf _)
  have n2 : A2.next = A.next + 2 := by show (Hp.push _ _).next = _; rw [Hp.next_push, n1]
  have p2 : A2.get A.next = some (.arr 51 W .own) := by rw [Hp.get_push_ne _ _ (by omega)]; exact Hp.get_push_same _ _
  have q2 : A2.get A1.next = some (.arr 51 [.int .i64 0, .slice none 0 0] .own) := Hp.get_push_same _ _
  have hv2 : BsAt A2 (.slice a L.length c) (nums L) := hv.old hw fun i hi => k2.old i hi
  obtain ⟨A3, r3, k3⟩ := hat k2.wf m hv2 x (by omega)
  have kA := k2.trans k3
  have p3 : A3.get A.next = some (.arr 51 W .own) := by rw [k3.old _ (by omega)]; exact p2
  have q3 : A3.get A1.next = some (.arr 51 [.int .i64 0, .slice none 0 0] .own) := by rw [k3.old _ (by omega)]; exact q2
  have hv3 : BsAt A3 (.slice a L.length c) (nums L) := hv.old hw fun i hi => kA.old i hi
  have hge := at_ge x L
  by_cases hh : L.any (· == x) = true
  · obtain ⟨i, hf⟩ : ∃ i, L.findIdx? (· == x) = some i := by
      cases h : L.findIdx? (· == x) with
      | none =>
        rw [List.findIdx?_eq_none_iff] at h
        obtain ⟨y, hy, hyx⟩ := List.any_eq_true.1 hh
        rw [h y hy] at hyx; cases hyx
      | some i => exact ⟨i, rfl⟩
    have hatv : atV x L = ((i : Nat) : Int) := by unfold atV; rw [hf]
    obtain ⟨hsp, hi⟩ := stay_split hnd hf
    rw [hatv] at r3
    rw [hh, hsp]
    obtain ⟨y, L', rfl⟩ : ∃ y L', L = y :: L' := by
      cases L with
      | nil => simp at hi
      | cons y L' => exact ⟨y, L', rfl⟩
    obtain ⟨b, o, T, cs, md, rfl, hg, hl, hu, hc⟩ := bs_some hv3
    have e1 : ¬ ((i : Nat) : Int) < 0 := by omega
    have hw1 : IntKind.i64.wrap ((i : Int) + 1) = ((i + 1 : Nat) : Int) := by rw [w64 (by omega) (by omega)]; omega
    have hs1 : BsAt A3 (.slice (some ⟨b, o + 0 * 1, some 1⟩) i (2 * (c / 2 - 0) + c % 2)) (nums ((y :: L').take i)) := by
      refine .at b (o + 0 * 1) i _ T cs _ md hg (by omega) ?_ (by omega)
      have h2 : (cs.drop (o + 0 * 1)).take i = ((cs.drop o).take (y :: L').length).take i := by
        rw [List.take_take, Nat.min_eq_left (by omega)]
        simp
      rw [h2, hu]
      simp [nums, List.map_take]
    obtain ⟨V1, A4, i4, r4, c4, k4, f4⟩ := copy_of k3.wf hs1 (by rw [nums_len, List.length_take]; omega)
    rw [nums_len, List.length_take, Nat.min_eq_left (by omega)] at c4
    have hgA4 : A4.get b = some (.arr T cs md) := by rw [k4.old b (k3.wf.lt hg)]; exact hg
    have hs2 : BsAt A4 (.slice (some ⟨b, o + (i + 1) * 1, some 1⟩) ((y :: L').length - (i + 1)) (2 * (c / 2 - (i + 1)) + c % 2)) (nums ((y :: L').drop (i + 1))) := by
      refine .at b (o + (i + 1) * 1) _ _ T cs _ md hgA4 (by omega) ?_ (by omega)
      have h2 : (cs.drop (o + (i + 1) * 1)).take ((y :: L').length - (i + 1)) = ((cs.drop o).take (y :: L').length).drop (i + 1) := by
        rw [List.drop_take, List.drop_drop, Nat.mul_one]
      rw [h2, hu]
      simp [nums, List.map_drop]
    have hx2 := hs2.elems
    obtain ⟨V2, A5, i5, r5, c5, n5, w5, o5, f5⟩ := append_at (t := 49) (t2 := 49) (E := Tryd.bk.E) (e := 27) (sz := 1) (bz := 4) ⟨⟨_, rfl, rfl⟩, ⟨_, _, rfl, rfl, rfl, rfl, rfl⟩, by decide⟩ ⟨_, _, rfl, rfl⟩ c4 hx2 (by omega) (by rw [nums_len, List.length_drop]; omega) (by rw [nums_len, List.length_drop]; unfold maxLen; omega)
    have hnx := k3.nx
    have hnx4 := k4.nx
    have p4 : A4.get A.next = some (.arr 51 W .own) := by rw [k4.old _ (by omega)]; exact p3
    have p5 : A5.get A.next = some (.arr 51 W .own) := by rw [o5 _ (by omega) (fun e => by have := f4 _ e; omega)]; exact p4
    have q5 : A5.get A1.next = some (.arr 51 [.int .i64 0, .slice none 0 0] .own) := by rw [o5 _ (by omega) (fun e => by have := f4 _ e; omega), k4.old _ (by omega)]; exact q3
    have el : ((y :: L').take i ++ (y :: L').drop (i + 1)).length = i + (nums ((y :: L').drop (i + 1))).length := by
      rw [List.length_append, List.length_take, nums_len, Nat.min_eq_left (by omega)]
    have en : nums ((y :: L').take i ++ (y :: L').drop (i + 1)) = nums ((y :: L').take i) ++ nums ((y :: L').drop (i + 1)) := by simp [nums]
    rw [el, en]
    generalize hN : i + (nums ((y :: L').drop (i + 1))).length = N at c5
    obtain ⟨a5, d5, rfl⟩ := c5.sl3
    let W2 : List Value := [.int .i64 m, .slice a5 N d5]
    let A6 : Hp := A5.set A.next (some (.arr 51 W2 .own))
    have q6 : A6.get A1.next = some (.arr 51 [.int .i64 0, .slice none 0 0] .own) := by rw [Hp.get_set_ne _ _ (by omega)]; exact q5
    have p3' : (A3.push (.arr 27 [] .own)).get A.next = some (.arr 51 W .own) := by rw [Hp.get_push_ne _ _ (by omega)]; exact p3
    have hwf5 := w5 k4.wf
    have k5 : Kp A A5 := ⟨hwf5, by omega, fun j hj => by rw [o5 j (by omega) (fun e => by have := f4 _ e; omega), k4.old j (by omega), kA.old j hj]⟩
    have hib : ∀ j, i5 = some j → A3.next ≤ j := fun j hj => by
      rcases f5 with ⟨e, _⟩ | ⟨i', e, e2, _⟩
      · rw [e] at hj; exact f4 j hj
      · rw [e] at hj; cases hj; omega
    have e2 : (0 : Int) ≤ ((i : Nat) : Int) := by omega
    have e3 : ((i : Nat) : Int) ≤ ((c / 2 : Nat) : Int) := by omega
    have e4 : ((i + 1 : Nat) : Int) ≤ (((y :: L').length : Nat) : Int) := by omega
    refine ⟨a5, d5, A6.set A1.next (some (.arr 51 W2 .own)), ?run3, (k5.set p5 (Nat.le_refl _) _).set q6 (by omega) _, (c5.keep fun j hj => ?_).bs⟩
    case run3 =>
      conv => lhs; whnf
      refine bind_of (cellsAt_of p2 _ _) ?_
      conv => lhs; whnf
      refine bind_of r3 ?_
      conv => lhs; whnf
      rw [kdecn e1]
      conv => lhs; whnf
      refine bind_of (cellsAt_of p3' _ _) ?_
      conv => lhs; whnf
      rw [kdec e3]
      conv => lhs; whnf
      refine bind_of r4 ?_
      conv => lhs; whnf
      refine bind_of (cellsAt_of p4 _ _) ?_
      conv => lhs; whnf
      rw [hw1]
      rw [kdec e4]
      conv => lhs; whnf
      refine bind_of r5 ?_
      conv => lhs; whnf
      refine bind_of (dstore_of p5 (t := 49) (o := 1) (cs' := W2) rfl) ?_
      conv => lhs; whnf
      refine bind_of (cellsAt_of (Hp.get_set_same _ _ _) _ _) ?_
      conv => lhs; whnf
      refine bind_of (dstore_of q6 (t := 51) (o := 0) (cs' := W2) rfl) ?_
      conv => lhs; whnf
      refine bind_of (cellsAt_of (Hp.get_set_same _ _ _) _ _) ?_
      conv => lhs; whnf
      try rfl
    · have := hib j hj
      have h1 : j ≠ A1.next := by omega
      have h2 : j ≠ A.next := by omega
      rw [Hp.get_set_ne _ _ h1, Hp.get_set_ne _ _ h2]
  · have hno : L.any (· == x) = false := Bool.eq_false_iff.2 hh
    have hatv : atV x L = -1 := by unfold atV; rw [find_none hno]
    rw [hatv] at r3
    rw [hno, stay_none hno]
    refine ⟨a, c, A3.set A1.next (some (.arr 51 W .own)), ?run1, kA.set q3 (by omega) _, hv.old hw fun i hi => by rw [Hp.get_set_ne _ _ (by omega)]; exact kA.old i hi⟩
    case run1 =>
      conv => lhs; whnf
      refine bind_of (cellsAt_of p2 _ _) ?_
      conv => lhs; whnf
      refine bind_of r3 ?_
      conv => lhs; whnf
      refine bind_of (cellsAt_of p3 _ _) ?_
      conv => lhs; whnf
      refine bind_of (dstore_of q3 (t := 51) (o := 0) (cs' := W) rfl) ?_
      conv => lhs; whnf
      refine bind_of (cellsAt_of (Hp.get_set_same _ _ _) _ _) ?_
      conv => lhs; whnf
      try rfl
end Go.Dn.Bl
end

section
/-
  BacklogPlays: a step
-/
namespace Go.Dn.Bl
open Go.Proofs Go.Dn.Ln
set_option maxHeartbeats 4000000
set_option maxRecDepth 100000
attribute [local irreducible] Hp.get Hp.set Hp.push dappend dcopy dstore cellsAt callD loopD guardL hideL backL

abbrev SW (m : Int) (V : Value) : List Value := [.int .i64 m, V]
abbrev SC (k n x : Int) : List Value := [.int .i64 k, .int .i64 n, .int .u32 x]
abbrev S1 (A : Hp) (m : Int) (V : Value) : Hp := A.push (.arr 51 (SW m V) .own)
abbrev S2 (A : Hp) (m : Int) (V : Value) (k n x : Int) : Hp := (S1 A m V).push (.arr 55 (SC k n x) .own)
abbrev S3 (A : Hp) (m : Int) (V : Value) (k n x : Int) : Hp := (S2 A m V k n x).push (.arr 51 (SW 0 (.slice none 0 0)) .own)

structure SF (A : Hp) (P : Nat) (m : Int) (V : Value) (L : List Int) (k n x : Int) (B : Hp) : Prop where
  wf : B.wf
  n1 : (S1 A m V).next = A.next + 1
  n2 : (S2 A m V k n x).next = A.next + 2
  nx : A.next + 3 ≤ B.next
  ga : B.get A.next = some (.arr 51 (SW m V) .own)
  gb : B.get (S1 A m V).next = some (.arr 55 (SC k n x) .own)
  gq : B.get (S2 A m V k n x).next = some (.arr 51 (SW 0 (.slice none 0 0)) .own)
  gP : B.get P = some (bo ⟨m, L⟩)
  pl : P < A.next
  hv : BsAt B V (nums L)
  old : ∀ j, j < A.next → j ≠ P → B.get j = A.get j

theorem SF.start {A : Hp} (hw : A.wf) {P : Nat} {m : Int} {V : Value} {L : List Int} (hP : A.get P = some (bo ⟨m, L⟩)) (hv : BsAt A V (nums L)) (k n x : Int) : SF A P m V L k n x (S3 A m V k n x) := by
  have n1 : (S1 A m V).next = A.next + 1 := Hp.next_push _ _
  have n2 : (S2 A m V k n x).next = A.next + 2 := by show (Hp.push _ _).next = _; rw [Hp.next_push, n1]
  have n3 : (S3 A m V k n x).next = A.next + 3 := by show (Hp.push _ _).next = _; rw [Hp.next_push, n2]
  have pl := hw.lt hP
  have k3 : Kp A (S3 A m V k n x) := ((Kp.push hw _).trans (Kp.push (hw.push _) _)).trans (Kp.push ((hw.push _).push _) _)
  exact ⟨k3.wf, n1, n2, by omega, by rw [Hp.get_push_ne _ _ (by omega), Hp.get_push_ne _ _ (by omega)]; exact Hp.get_push_same _ _,
    by rw [Hp.get_push_ne _ _ (by omega)]; exact Hp.get_push_same _ _, Hp.get_push_same _ _, by rw [k3.old P pl]; exact hP, pl, hv.old hw fun i hi => k3.old i hi, fun j hj _ => k3.old j hj⟩

/-- the backlog is another -/
theorem SF.put {A : Hp} {P : Nat} {m : Int} {V : Value} {L : List Int} {k n x : Int} {B : Hp} (h : SF A P m V L k n x B) (L' : List Int) : B.get P = some (bo ⟨m, L⟩) ∧ (B.set P (some (bo ⟨m, L'⟩))).wf ∧ (B.set P (some (bo ⟨m, L'⟩))).next = B.next ∧
    (B.set P (some (bo ⟨m, L'⟩))).get A.next = some (.arr 51 (SW m V) .own) ∧ (B.set P (some (bo ⟨m, L'⟩))).get (S1 A m V).next = some (.arr 55 (SC k n x) .own) ∧ (B.set P (some (bo ⟨m, L'⟩))).get (S2 A m V k n x).next = some (.arr 51 (SW 0 (.slice none 0 0)) .own) ∧
    (B.set P (some (bo ⟨m, L'⟩))).get P = some (bo ⟨m, L'⟩) ∧ BsAt (B.set P (some (bo ⟨m, L'⟩))) V (nums L) ∧ ∀ j, j < A.next → j ≠ P → (B.set P (some (bo ⟨m, L'⟩))).get j = A.get j := by
  have hp := h.pl
  have h1 := h.n1
  have h2 := h.n2
  refine ⟨h.gP, h.wf.put h.gP _, Hp.next_set _ _ _, by rw [Hp.get_set_ne _ _ (by omega)]; exact h.ga, by rw [Hp.get_set_ne _ _ (by omega)]; exact h.gb, by rw [Hp.get_set_ne _ _ (by omega)]; exact h.gq, Hp.get_set_same _ _ _, bs_set h.hv h.gP _, fun j hj hjP => by rw [Hp.get_set_ne _ _ hjP]; exact h.old j hj hjP⟩

/-- what a step leaves -/
structure SQ (A : Hp) (P : Nat) (m : Int) (L' : List Int) (V' : Value) (A' : Hp) : Prop where
  wf : A'.wf
  nx : A.next ≤ A'.next
  obj : A'.get P = some (bo ⟨m, L'⟩)
  hv : BsAt A' V' (nums L')
  old : ∀ j, j < A.next → j ≠ P → A'.get j = A.get j
  ok : BX.ok ⟨m, L'⟩
  nd : L'.Nodup

/-- a heap behind a guard that nobody wrote -/
theorem guarded_id {D : Hp} (hw : D.wf) (l : List Nat) (hl : ∀ j ∈ l, j < D.next) : (backL D (backL D (guardL (hideL D []) l) l) []).wf ∧ (backL D (backL D (guardL (hideL D []) l) l) []).next = D.next ∧ ∀ j, (backL D (backL D (guardL (hideL D []) l) l) []).get j = D.get j := by
  obtain ⟨d1, d2, d3, d4⟩ := back_facts (C := guardL (hideL D []) l) hl (guard_wf hw l) (by rw [guard_next]; exact Nat.le_refl _)
  refine ⟨d1, by rw [d2, guard_next], fun j => ?_⟩
  by_cases hm : j ∈ l
  · exact d4 j hm
  · rw [d3 j hm, guard_get hm]
theorem bs_same {A B : Hp} {v : Value} {us : List Value} (h : BsAt A v us) (hk : ∀ j, B.get j = A.get j) : BsAt B v us := h.keep fun i _ hi _ => (hk i).trans hi |>.trans hi.symm

theorem bs_cellq {B : Hp} {v : Value} {ids : List Int} (h : BsAt B v (nums ids)) {q : Nat} (hq : B.get q = some (.arr 51 (SW 0 (.slice none 0 0)) .own)) (m : Int) (V : Value) : BsAt (B.set q (some (.arr 51 (SW m V) .own))) v (nums ids) := by
  generalize hus : nums ids = us at h
  cases h with
  | nil c hc => exact .nil c hc
  | «at» i o n c T cs _ md hg hl hu hc =>
    by_cases e : i = q
    · subst e
      rw [hq] at hg
      cases hg
      cases n with
      | zero => exact .at i o 0 c 51 _ us .own (Hp.get_set_same _ _ _) (by simp at hl ⊢; omega) (by rw [← hu]; simp) hc
      | succ n =>
        exfalso
        have hl2 : o + (n + 1) ≤ 2 := hl
        have hx : us[0]? = (SW 0 (.slice none 0 0))[o]? := by
          rw [← hu, List.getElem?_take, if_pos (by omega), List.getElem?_drop]
          rfl
        cases ids with
        | nil =>
          rw [← hus] at hu
          have := congrArg List.length hu
          simp [nums] at this
          omega
        | cons y ids =>
          rw [← hus] at hx
          match o, hl2, hx with
          | 0, _, hx => simp [nums, SW] at hx
          | 1, _, hx => simp [nums, SW] at hx
          | o + 2, hl2, _ => omega
    · exact .at i o n c T cs us md (by rw [Hp.get_set_ne _ _ e]; exact hg) hl hu hc

def RPutOK (call : CallT) : Prop := ∀ {A : Hp}, A.wf → ∀ (m : Int) {a : Option Addr} {c : Nat} {L : List Int}, BsAt A (.slice a L.length c) (nums L) → ∀ x : Int, L.length ≤ 1024 →
  ∃ a' c' A', call 68 [dv m (.slice a L.length c), .int .u32 x] A = some (.tuple #[dv m (.slice a' (putB m L x).2.length c'), .int .i64 (codB (putB m L x).1)], A') ∧ Kp A A' ∧ BsAt A' (.slice a' (putB m L x).2.length c') (nums (putB m L x).2)

theorem putB_nodup {m : Int} {L : List Int} (x : Int) (h : L.Nodup) : (putB m L x).2.Nodup := by
  unfold putB
  split
  · exact h
  · rename_i hn
    unfold putF
    split
    · exact h
    · refine List.nodup_append.2 ⟨h, by simp, fun a ha b hb => ?_⟩
      simp only [List.mem_singleton] at hb
      subst hb
      rintro rfl
      exact hn (List.any_eq_true.2 ⟨a, ha, by simp⟩)

theorem step2 {call : CallT} (h : BFns call) (hc : CodeB call) (hp : RPutOK call) (lf : Nat) {A : Hp} (hw : A.wf) {P : Nat} {m : Int} {L : List Int} (hP : A.get P = some (bo ⟨m, L⟩)) (hok : BX.ok ⟨m, L⟩) (hnd : L.Nodup) {a : Option Addr} {c : Nat} (hv : BsAt A (.slice a L.length c) (nums L)) (n x : Int) :
    ∃ a' c' L' A', kfn Tryd.bk.E call (Tryd.bk.inf 29) lf Tryd.f29 [ptr P, dv m (.slice a L.length c), .agg #[.int .i64 2, .int .i64 n, .int .u32 x]] A = some (.tuple #[dv m (.slice a' L'.length c'), .bool true], A') ∧ SQ A P m L' (.slice a' L'.length c') A' := by
  have s := SF.start hw hP hv 2 n x
  have hn1 := s.n1
  have hn2 := s.n2
  have hpl := s.pl
  have r1 := h.put (BPutR.mk _ P ⟨m, L⟩ s.gP hok x)
  simp only at r1
  obtain ⟨_, w4, n4, ga4, gb4, gq4, gP4, hv4, o4⟩ := s.put (putB m L x).2
  obtain ⟨a', c', A5, r5, k5, hv5⟩ := hp w4 m hv4 x hok.1
  have ga5 := (k5.old _ (w4.lt ga4)).trans ga4
  have gb5 := (k5.old _ (w4.lt gb4)).trans gb4
  have gq5 := (k5.old _ (w4.lt gq4)).trans gq4
  have gP5 := (k5.old _ (w4.lt gP4)).trans gP4
  have lq5 := k5.wf.lt gq5
  have lP5 := k5.wf.lt gP5
  let V' : Value := .slice a' (putB m L x).2.length c'
  let A6 : Hp := A5.push (.arr 51 (SW 0 (.slice none 0 0)) .own)
  have g6 : A6.get A5.next = some (.arr 51 (SW 0 (.slice none 0 0)) .own) := Hp.get_push_same _ _
  let A7 : Hp := A6.set A5.next (some (.arr 51 (SW m V') .own))
  have k7 : Kp A5 A7 := (Kp.push k5.wf _).set g6 (Nat.le_refl _) _
  have g7 : A7.get A5.next = some (.arr 51 (SW m V') .own) := Hp.get_set_same _ _ _
  have gq7 := (k7.old _ lq5).trans gq5
  have gP7 := (k7.old _ lP5).trans gP5
  have hv7 : BsAt A7 V' (nums (putB m L x).2) := hv5.old k5.wf fun i hi => k7.old i hi
  have e1 : (codB (putB m L x).1 == codB (putB m L x).1) = true := by simp
  obtain ⟨d1, d2, d3⟩ := guarded_id k7.wf [A5.next] (fun j hj => by simp only [List.mem_singleton] at hj; subst hj; exact k7.wf.lt g7)
  have r8 := hc (guardL (hideL A7 []) [A5.next]) _ (putB_err m L x)
  let D : Hp := backL A7 (backL A7 (guardL (hideL A7 []) [A5.next]) [A5.next]) []
  have gqD : D.get (S2 A m (.slice a L.length c) 2 n x).next = some (.arr 51 (SW 0 (.slice none 0 0)) .own) := (d3 _).trans gq7
  refine ⟨a', c', (putB m L x).2, D.set (S2 A m (.slice a L.length c) 2 n x).next (some (.arr 51 (SW m V') .own)), ?run, ?sq⟩
  case run =>
    conv => lhs; whnf
    refine bind_of (cellsAt_of s.gb _ _) ?_
    conv => lhs; whnf
    refine bind_of (cellsAt_of s.gb _ _) ?_
    conv => lhs; whnf
    refine bind_of r1 ?_
    conv => lhs; whnf
    refine bind_of (cellsAt_of ga4 _ _) ?_
    conv => lhs; whnf
    refine bind_of (cellsAt_of gb4 _ _) ?_
    conv => lhs; whnf
    refine bind_of r5 ?_
    conv => lhs; whnf
    refine bind_of (dstore_of g6 (t := 51) (o := 0) (cs' := SW m V') rfl) ?_
    conv => lhs; whnf
    refine bind_of (cellsAt_of g7 _ _) ?_
    conv => lhs; whnf
    refine bind_of r8 ?_
    conv => lhs; whnf
    refine bind_of (dstore_of gqD (t := 51) (o := 0) (cs' := SW m V') rfl) ?_
    conv => lhs; whnf
    refine bind_of (cellsAt_of (Hp.get_set_same _ _ _) _ _) ?_
    conv => lhs; whnf
    rw [e1]
    try rfl
  case sq =>
    have hnx7 := k7.nx
    have hnx5 := k5.nx
    have hs4 := s.nx
    have hlP : P < A5.next := lP5
    refine ⟨d1.put gqD _, by rw [Hp.next_set, d2]; omega, by rw [Hp.get_set_ne _ _ (by omega), d3]; exact gP7, ?_, fun j hj hjP => ?_, putB_ok hok x, putB_nodup x hnd⟩
    · exact bs_cellq (bs_same hv7 d3) gqD _ _
    · rw [Hp.get_set_ne _ _ (by omega), d3, k7.old j (by omega), k5.old j (by omega)]
      exact o4 j hj hjP
end Go.Dn.Bl
end

section
/-
  BacklogPlays: a step: Take, Head
-/
namespace Go.Dn.Bl
open Go.Proofs Go.Dn.Ln
set_option maxHeartbeats 4000000
set_option maxRecDepth 100000
attribute [local irreducible] Hp.get Hp.set Hp.push dappend dcopy dstore cellsAt callD loopD guardL hideL backL

def RTakeOK (call : CallT) : Prop := ∀ {A : Hp}, A.wf → ∀ (m : Int) {a : Option Addr} {c : Nat} {L : List Int}, BsAt A (.slice a L.length c) (nums L) → L.length ≤ 1024 →
  ∃ a' c' A', call 69 [dv m (.slice a L.length c)] A = some (rtakeV m (.slice a' L.tail.length c') L, A') ∧ Kp A A' ∧ BsAt A' (.slice a' L.tail.length c') (nums L.tail)

section
variable {call : CallT} (h : BFns call) (ht : RTakeOK call) (lf : Nat) {A : Hp} (hw : A.wf) {P : Nat} {m : Int}
include h ht hw

theorem step3 {L : List Int} (hP : A.get P = some (bo ⟨m, L⟩)) (hok : BX.ok ⟨m, L⟩) (hnd : L.Nodup) {a : Option Addr} {c : Nat} (hv : BsAt A (.slice a L.length c) (nums L)) (n x : Int) :
    ∃ a' c' L' A', kfn Tryd.bk.E call (Tryd.bk.inf 29) lf Tryd.f29 [ptr P, dv m (.slice a L.length c), .agg #[.int .i64 3, .int .i64 n, .int .u32 x]] A = some (.tuple #[dv m (.slice a' L'.length c'), .bool true], A') ∧ SQ A P m L' (.slice a' L'.length c') A' := by
  have s := SF.start hw hP hv 3 n x
  have hn1 := s.n1
  have hn2 := s.n2
  have hpl := s.pl
  have r1 := h.take (BTakeR.mk _ P ⟨m, L⟩ s.gP hok)
  simp only at r1
  obtain ⟨_, w4, n4, ga4, gb4, gq4, gP4, hv4, o4⟩ := s.put L.tail
  obtain ⟨a', c', A5, r5, k5, hv5⟩ := ht w4 m hv4 hok.1
  have gq5 := (k5.old _ (w4.lt gq4)).trans gq4
  have gP5 := (k5.old _ (w4.lt gP4)).trans gP4
  have lq5 := k5.wf.lt gq5
  have lP5 := k5.wf.lt gP5
  let V' : Value := .slice a' L.tail.length c'
  let A6 : Hp := A5.push (.arr 51 (SW 0 (.slice none 0 0)) .own)
  have g6 : A6.get A5.next = some (.arr 51 (SW 0 (.slice none 0 0)) .own) := Hp.get_push_same _ _
  let A7 : Hp := A6.set A5.next (some (.arr 51 (SW m V') .own))
  have k7 : Kp A5 A7 := (Kp.push k5.wf _).set g6 (Nat.le_refl _) _
  have g7 : A7.get A5.next = some (.arr 51 (SW m V') .own) := Hp.get_set_same _ _ _
  have gq7 := (k7.old _ lq5).trans gq5
  have gP7 := (k7.old _ lP5).trans gP5
  have hv7 : BsAt A7 V' (nums L.tail) := hv5.old k5.wf fun i hi => k7.old i hi
  refine ⟨a', c', L.tail, A7.set (S2 A m (.slice a L.length c) 3 n x).next (some (.arr 51 (SW m V') .own)), ?run, ?sq⟩
  case run =>
    cases L with
    | nil =>
      conv => lhs; whnf
      refine bind_of (cellsAt_of s.gb _ _) ?_
      conv => lhs; whnf
      refine bind_of r1 ?_
      conv => lhs; whnf
      refine bind_of (cellsAt_of ga4 _ _) ?_
      conv => lhs; whnf
      refine bind_of r5 ?_
      conv => lhs; whnf
      refine bind_of (dstore_of g6 (t := 51) (o := 0) (cs' := SW m V') rfl) ?_
      conv => lhs; whnf
      refine bind_of (cellsAt_of g7 _ _) ?_
      conv => lhs; whnf
      refine bind_of (dstore_of gq7 (t := 51) (o := 0) (cs' := SW m V') rfl) ?_
      conv => lhs; whnf
      refine bind_of (cellsAt_of (Hp.get_set_same _ _ _) _ _) ?_
      conv => lhs; whnf
      try rfl
    | cons y L =>
      have e1 : (y == y) = true := by simp
      conv => lhs; whnf
      refine bind_of (cellsAt_of s.gb _ _) ?_
      conv => lhs; whnf
      refine bind_of r1 ?_
      conv => lhs; whnf
      refine bind_of (cellsAt_of ga4 _ _) ?_
      conv => lhs; whnf
      refine bind_of r5 ?_
      conv => lhs; whnf
      refine bind_of (dstore_of g6 (t := 51) (o := 0) (cs' := SW m V') rfl) ?_
      conv => lhs; whnf
      refine bind_of (cellsAt_of g7 _ _) ?_
      conv => lhs; whnf
      rw [e1]
      conv => lhs; whnf
      refine bind_of (dstore_of gq7 (t := 51) (o := 0) (cs' := SW m V') rfl) ?_
      conv => lhs; whnf
      refine bind_of (cellsAt_of (Hp.get_set_same _ _ _) _ _) ?_
      conv => lhs; whnf
      try rfl
  case sq =>
    have hnx7 := k7.nx
    have hnx5 := k5.nx
    have hs4 := s.nx
    refine ⟨k7.wf.put gq7 _, by rw [Hp.next_set]; omega, by rw [Hp.get_set_ne _ _ (by omega)]; exact gP7, bs_cellq hv7 gq7 _ _, fun j hj hjP => ?_, ⟨by have := hok.1; simp only at this; simp only [List.length_tail]; omega, hok.2⟩, hnd.sublist (List.tail_sublist L)⟩
    rw [Hp.get_set_ne _ _ (by omega), k7.old j (by omega), k5.old j (by omega)]
    exact o4 j hj hjP

theorem step6 {L : List Int} (hP : A.get P = some (bo ⟨m, L⟩)) (hok : BX.ok ⟨m, L⟩) (hnd : L.Nodup) {a : Option Addr} {c : Nat} (hv : BsAt A (.slice a L.length c) (nums L)) (n x : Int) :
    ∃ a' c' L' A', kfn Tryd.bk.E call (Tryd.bk.inf 29) lf Tryd.f29 [ptr P, dv m (.slice a L.length c), .agg #[.int .i64 6, .int .i64 n, .int .u32 x]] A = some (.tuple #[dv m (.slice a' L'.length c'), .bool true], A') ∧ SQ A P m L' (.slice a' L'.length c') A' := by
  have s := SF.start hw hP hv 6 n x
  have hn1 := s.n1
  have hn2 := s.n2
  have hpl := s.pl
  have r1 := h.head (BHeadR.mk _ P ⟨m, L⟩ s.gP hok)
  simp only at r1
  obtain ⟨_, w4, n4, ga4, gb4, gq4, gP4, hv4, o4⟩ := s.put L
  obtain ⟨a', c', A5, r5, k5, hv5⟩ := ht w4 m hv4 hok.1
  have ga5 := (k5.old _ (w4.lt ga4)).trans ga4
  have gq5 := (k5.old _ (w4.lt gq4)).trans gq4
  have gP5 := (k5.old _ (w4.lt gP4)).trans gP4
  have hv5' : BsAt A5 (.slice a L.length c) (nums L) := hv4.old w4 fun i hi => k5.old i hi
  have lq5 := k5.wf.lt gq5
  have lP5 := k5.wf.lt gP5
  let V' : Value := .slice a' L.tail.length c'
  let V : Value := .slice a L.length c
  let A6 : Hp := A5.push (.arr 51 (SW 0 (.slice none 0 0)) .own)
  have g6 : A6.get A5.next = some (.arr 51 (SW 0 (.slice none 0 0)) .own) := Hp.get_push_same _ _
  let A7 : Hp := A6.set A5.next (some (.arr 51 (SW m V') .own))
  have k7 : Kp A5 A7 := (Kp.push k5.wf _).set g6 (Nat.le_refl _) _
  have ga7 := (k7.old _ (k5.wf.lt ga5)).trans ga5
  have gq7 := (k7.old _ lq5).trans gq5
  have gP7 := (k7.old _ lP5).trans gP5
  have hv7 : BsAt A7 V (nums L) := hv5'.old k5.wf fun i hi => k7.old i hi
  refine ⟨a, c, L, A7.set (S2 A m (.slice a L.length c) 6 n x).next (some (.arr 51 (SW m V) .own)), ?run, ?sq⟩
  case run =>
    cases L with
    | nil =>
      conv => lhs; whnf
      refine bind_of (cellsAt_of s.gb _ _) ?_
      conv => lhs; whnf
      refine bind_of r1 ?_
      conv => lhs; whnf
      refine bind_of (cellsAt_of ga4 _ _) ?_
      conv => lhs; whnf
      refine bind_of r5 ?_
      conv => lhs; whnf
      refine bind_of (dstore_of g6 (t := 51) (o := 0) (cs' := SW m V') rfl) ?_
      conv => lhs; whnf
      refine bind_of (cellsAt_of ga7 _ _) ?_
      conv => lhs; whnf
      refine bind_of (dstore_of gq7 (t := 51) (o := 0) (cs' := SW m V) rfl) ?_
      conv => lhs; whnf
      refine bind_of (cellsAt_of (Hp.get_set_same _ _ _) _ _) ?_
      conv => lhs; whnf
      try rfl
    | cons y L =>
      have e1 : (y == y) = true := by simp
      conv => lhs; whnf
      refine bind_of (cellsAt_of s.gb _ _) ?_
      conv => lhs; whnf
      refine bind_of r1 ?_
      conv => lhs; whnf
      refine bind_of (cellsAt_of ga4 _ _) ?_
      conv => lhs; whnf
      refine bind_of r5 ?_
      conv => lhs; whnf
      refine bind_of (dstore_of g6 (t := 51) (o := 0) (cs' := SW m V') rfl) ?_
      conv => lhs; whnf
      refine bind_of (cellsAt_of ga7 _ _) ?_
      conv => lhs; whnf
      rw [e1]
      conv => lhs; whnf
      refine bind_of (dstore_of gq7 (t := 51) (o := 0) (cs' := SW m V) rfl) ?_
      conv => lhs; whnf
      refine bind_of (cellsAt_of (Hp.get_set_same _ _ _) _ _) ?_
      conv => lhs; whnf
      try rfl
  case sq =>
    have hnx7 := k7.nx
    have hnx5 := k5.nx
    have hs4 := s.nx
    refine ⟨k7.wf.put gq7 _, by rw [Hp.next_set]; omega, by rw [Hp.get_set_ne _ _ (by omega)]; exact gP7, bs_cellq hv7 gq7 _ _, fun j hj hjP => ?_, hok, hnd⟩
    rw [Hp.get_set_ne _ _ (by omega), k7.old j (by omega), k5.old j (by omega)]
    exact o4 j hj hjP
end
end Go.Dn.Bl
end

section
/-
  BacklogPlays: a step: Remove, Clear
-/
namespace Go.Dn.Bl
open Go.Proofs Go.Dn.Ln
set_option maxHeartbeats 4000000
set_option maxRecDepth 100000
attribute [local irreducible] Hp.get Hp.set Hp.push dappend dcopy dstore cellsAt callD loopD guardL hideL backL

def RRemOK (call : CallT) : Prop := ∀ {A : Hp}, A.wf → ∀ (m : Int) {a : Option Addr} {c : Nat} {L : List Int}, BsAt A (.slice a L.length c) (nums L) → L.Nodup → ∀ x : Int, L.length ≤ 1024 →
  ∃ a' c' A', call 70 [dv m (.slice a L.length c), .int .u32 x] A = some (.tuple #[dv m (.slice a' (stayL (· == x) L).length c'), .bool (L.any (· == x))], A') ∧ Kp A A' ∧ BsAt A' (.slice a' (stayL (· == x) L).length c') (nums (stayL (· == x) L))

section
variable {call : CallT} (h : BFns call) (lf : Nat) {A : Hp} (hw : A.wf) {P : Nat} {m : Int}
include h hw

theorem step4 (ht : RRemOK call) {L : List Int} (hP : A.get P = some (bo ⟨m, L⟩)) (hok : BX.ok ⟨m, L⟩) (hnd : L.Nodup) {a : Option Addr} {c : Nat} (hv : BsAt A (.slice a L.length c) (nums L)) (n x : Int) :
    ∃ a' c' L' A', kfn Tryd.bk.E call (Tryd.bk.inf 29) lf Tryd.f29 [ptr P, dv m (.slice a L.length c), .agg #[.int .i64 4, .int .i64 n, .int .u32 x]] A = some (.tuple #[dv m (.slice a' L'.length c'), .bool true], A') ∧ SQ A P m L' (.slice a' L'.length c') A' := by
  have s := SF.start hw hP hv 4 n x
  have hn1 := s.n1
  have hn2 := s.n2
  have hpl := s.pl
  obtain ⟨a', c', A5, r5, k5, hv5⟩ := ht s.wf m s.hv hnd x hok.1
  have gb5 := (k5.old _ (s.wf.lt s.gb)).trans s.gb
  have gq5 := (k5.old _ (s.wf.lt s.gq)).trans s.gq
  have gP5 := (k5.old _ (s.wf.lt s.gP)).trans s.gP
  have lq5 := k5.wf.lt gq5
  have lP5 := k5.wf.lt gP5
  have lb5 := k5.wf.lt gb5
  let V' : Value := .slice a' (stayL (· == x) L).length c'
  let A6 : Hp := A5.push (.arr 51 (SW 0 (.slice none 0 0)) .own)
  have g6 : A6.get A5.next = some (.arr 51 (SW 0 (.slice none 0 0)) .own) := Hp.get_push_same _ _
  let A7 : Hp := A6.set A5.next (some (.arr 51 (SW m V') .own))
  have k7 : Kp A5 A7 := (Kp.push k5.wf _).set g6 (Nat.le_refl _) _
  have g7 : A7.get A5.next = some (.arr 51 (SW m V') .own) := Hp.get_set_same _ _ _
  have gb7 := (k7.old _ lb5).trans gb5
  have gq7 := (k7.old _ lq5).trans gq5
  have gP7 := (k7.old _ lP5).trans gP5
  have hv7 : BsAt A7 V' (nums (stayL (· == x) L)) := hv5.old k5.wf fun i hi => k7.old i hi
  have hlg := k7.wf.lt g7
  have hlb := k7.wf.lt gb7
  have hnx5 := k5.nx
  have hs4 := s.nx
  obtain ⟨d0, d1, d2, d3, d4⟩ := guarded_store (o' := bo ⟨m, stayL (· == x) L⟩) k7.wf gP7 [A5.next] (fun j hj => by
    simp only [List.mem_cons, List.not_mem_nil, or_false] at hj
    subst hj; exact ⟨by omega, by omega⟩)
  have r8 := h.rem (BRemR.mk _ P ⟨m, L⟩ d0 hok x)
  simp only at r8
  refine ⟨a', c', stayL (· == x) L, ?A9, ?run, ?sq⟩
  rotate_left 1
  case run =>
    conv => lhs; whnf
    refine bind_of (cellsAt_of s.gb _ _) ?_
    conv => lhs; whnf
    refine bind_of (cellsAt_of s.ga _ _) ?_
    conv => lhs; whnf
    refine bind_of (cellsAt_of s.gb _ _) ?_
    conv => lhs; whnf
    refine bind_of r5 ?_
    conv => lhs; whnf
    refine bind_of (dstore_of g6 (t := 51) (o := 0) (cs' := SW m V') rfl) ?_
    conv => lhs; whnf
    refine bind_of (cellsAt_of g7 _ _) ?_
    conv => lhs; whnf
    refine bind_of (cellsAt_of gb7 _ _) ?_
    conv => lhs; whnf
    refine bind_of r8 ?_
    conv => lhs; whnf
    refine bind_of (dstore_of ((d4 _ (by omega)).trans gq7) (t := 51) (o := 0) (cs' := SW m V') rfl) ?_
    conv => lhs; whnf
    refine bind_of (cellsAt_of (Hp.get_set_same _ _ _) _ _) ?_
    conv => lhs; whnf
    rw [show (L.any (· == x) == L.any (· == x)) = true by simp]
    try rfl
  case sq =>
    have hnx7 := k7.nx
    have gqD := (d4 (S2 A m (.slice a L.length c) 4 n x).next (by omega)).trans gq7
    refine ⟨d1.put gqD _, by rw [Hp.next_set, d2]; omega, by rw [Hp.get_set_ne _ _ (by omega)]; exact d3, bs_cellq ?_ gqD _ _, fun j hj hjP => ?_, ⟨Nat.le_trans (stay_le _ _) hok.1, hok.2⟩, hnd.sublist List.filter_sublist⟩
    · refine (bs_set hv7 gP7 (some (bo ⟨m, stayL (· == x) L⟩))).keep fun i _ hi _ => ?_
      by_cases e : i = P
      · subst e; rw [d3, Hp.get_set_same]
      · rw [d4 i e, Hp.get_set_ne _ _ e]
    · rw [Hp.get_set_ne _ _ (by omega), d4 j hjP, k7.old j (by omega), k5.old j (by omega)]
      exact s.old j hj hjP

theorem step5 {L : List Int} (hP : A.get P = some (bo ⟨m, L⟩)) (hok : BX.ok ⟨m, L⟩) {a : Option Addr} {c : Nat} (hv : BsAt A (.slice a L.length c) (nums L)) (n x : Int) :
    ∃ a' c' L' A', kfn Tryd.bk.E call (Tryd.bk.inf 29) lf Tryd.f29 [ptr P, dv m (.slice a L.length c), .agg #[.int .i64 5, .int .i64 n, .int .u32 x]] A = some (.tuple #[dv m (.slice a' L'.length c'), .bool true], A') ∧ SQ A P m L' (.slice a' L'.length c') A' := by
  have s := SF.start hw hP hv 5 n x
  have hn1 := s.n1
  have hn2 := s.n2
  have hpl := s.pl
  have hs4 := s.nx
  obtain ⟨d0, d1, d2, d3, d4⟩ := guarded_store (o' := bo ⟨m, []⟩) s.wf s.gP [A.next, A.next] (fun j hj => by
    simp only [List.mem_cons, List.not_mem_nil, or_false] at hj
    have : j = A.next := by omega
    subst this; exact ⟨by omega, by omega⟩)
  have r8 := h.clr (BClrR.mk _ P ⟨m, L⟩ d0 hok)
  simp only at r8
  have gqD := (d4 (S2 A m (.slice a L.length c) 5 n x).next (by omega)).trans s.gq
  obtain ⟨f0, f1, f2, f3, f4⟩ := guarded_store (o' := .arr 51 (SW m (.slice none 0 0)) .own) d1 gqD [A.next] (fun j hj => by
    simp only [List.mem_cons, List.not_mem_nil, or_false] at hj
    subst hj; exact ⟨by omega, by omega⟩)
  let D : Hp := backL (S3 A m (.slice a L.length c) 5 n x) (backL (S3 A m (.slice a L.length c) 5 n x) ((guardL (hideL (S3 A m (.slice a L.length c) 5 n x) []) [A.next, A.next]).set P (some (bo ⟨m, []⟩))) [A.next, A.next]) []
  refine ⟨none, 0, [], backL D (backL D ((guardL (hideL D []) [A.next]).set (S2 A m (.slice a L.length c) 5 n x).next (some (.arr 51 (SW m (.slice none 0 0)) .own))) [A.next]) [], ?run, ?sq⟩
  case run =>
    conv => lhs; whnf
    refine bind_of (cellsAt_of s.gb _ _) ?_
    conv => lhs; whnf
    refine bind_of (cellsAt_of s.ga _ _) ?_
    conv => lhs; whnf
    refine bind_of (cellsAt_of s.ga _ _) ?_
    conv => lhs; whnf
    refine bind_of r8 ?_
    conv => lhs; whnf
    refine bind_of (dstore_of f0 (t := 51) (o := 0) (cs' := SW m (.slice none 0 0)) rfl) ?_
    conv => lhs; whnf
    refine bind_of (cellsAt_of f3 _ _) ?_
    conv => lhs; whnf
    rw [show (((L.length : Nat) : Int) == ((L.length : Nat) : Int)) = true by simp]
    try rfl
  case sq =>
    refine ⟨f1, by rw [f2, d2]; omega, by rw [f4 _ (by omega)]; exact d3, .nil 0 (by omega), fun j hj hjP => ?_, ⟨by simp, hok.2⟩, List.nodup_nil⟩
    rw [f4 _ (by omega), d4 j hjP]
    exact s.old j hj hjP
end
end Go.Dn.Bl
end

section
/-
  BacklogPlays: a step: Has
-/
namespace Go.Dn.Bl
open Go.Proofs Go.Dn.Ln
set_option maxHeartbeats 4000000
set_option maxRecDepth 100000
attribute [local irreducible] Hp.get Hp.set Hp.push dappend dcopy dstore cellsAt callD loopD guardL hideL backL

theorem bs_guard {D : Hp} {v : Value} {us : List Value} (h : BsAt D v us) (l : List Nat) : BsAt (guardL (hideL D []) l) v us := by
  cases h with
  | nil c hc => exact .nil c hc
  | «at» i o n c T cs _ md hg hl hu hc =>
    by_cases hm : i ∈ l
    · cases md with
      | own => exact .at i o n c T cs _ .ro (by rw [guardL_get, if_pos hm, hideL_get, if_neg List.not_mem_nil, hg]; rfl) hl hu hc
      | ro => exact .at i o n c T cs _ .ro (by rw [guardL_get, if_pos hm, hideL_get, if_neg List.not_mem_nil, hg]; rfl) hl hu hc
      | sh => exact .at i o n c T cs _ .sh (by rw [guardL_get, if_pos hm, hideL_get, if_neg List.not_mem_nil, hg]; rfl) hl hu hc
    · exact .at i o n c T cs _ md ((guard_get hm).trans hg) hl hu hc
theorem guarded_kp {D C : Hp} {l : List Nat} (hl : ∀ j ∈ l, j < D.next) (hk : Kp (guardL (hideL D []) l) C) :
    Kp D (backL D (backL D C l) []) ∧ (backL D (backL D C l) []).next = C.next ∧ ∀ j, D.next ≤ j → (backL D (backL D C l) []).get j = C.get j := by
  have hn := hk.nx
  rw [guard_next] at hn
  obtain ⟨d1, d2, d3, d4⟩ := back_facts hl hk.wf hn
  refine ⟨⟨d1, by rw [d2]; exact hn, fun j hj => ?_⟩, d2, fun j hj => d3 j fun hm => by have := hl j hm; omega⟩
  by_cases hm : j ∈ l
  · exact d4 j hm
  · rw [d3 j hm, hk.old j (by rw [guard_next]; exact hj), guard_get hm]

section
variable {call : CallT} (h : BFns call) (lf : Nat) {A : Hp} (hw : A.wf) {P : Nat} {m : Int}
include h hw

theorem step7 (ht : AtOK call) {L : List Int} (hP : A.get P = some (bo ⟨m, L⟩)) (hok : BX.ok ⟨m, L⟩) (hnd : L.Nodup) {a : Option Addr} {c : Nat} (hv : BsAt A (.slice a L.length c) (nums L)) (n x : Int) :
    ∃ a' c' L' A', kfn Tryd.bk.E call (Tryd.bk.inf 29) lf Tryd.f29 [ptr P, dv m (.slice a L.length c), .agg #[.int .i64 7, .int .i64 n, .int .u32 x]] A = some (.tuple #[dv m (.slice a' L'.length c'), .bool true], A') ∧ SQ A P m L' (.slice a' L'.length c') A' := by
  have s := SF.start hw hP hv 7 n x
  have hn1 := s.n1
  have hn2 := s.n2
  have hpl := s.pl
  have hs4 := s.nx
  let B : Hp := S3 A m (.slice a L.length c) 7 n x
  obtain ⟨f1, f2, f3, f4⟩ := guarded_same s.wf s.gP [(S1 A m (.slice a L.length c)).next, A.next, A.next] (fun j hj => by
    simp only [List.mem_cons, List.not_mem_nil, or_false] at hj
    exact ⟨by omega, by omega⟩)
  have r1 := h.has (BHasR.mk _ P ⟨m, L⟩ f1 hok x)
  simp only at r1
  let D : Hp := backL B (backL B ((guardL (hideL B []) [(S1 A m (.slice a L.length c)).next, A.next, A.next]).set P (some (bo ⟨m, L⟩))) [(S1 A m (.slice a L.length c)).next, A.next, A.next]) []
  have hvD : BsAt D (.slice a L.length c) (nums L) := bs_same s.hv f4
  have lq : A.next < D.next := by rw [show D.next = _ from f3]; omega
  obtain ⟨C, r2, kC⟩ := ht (guard_wf (A := D) f2 [A.next]) m (bs_guard hvD [A.next]) x (Nat.le_trans hok.1 (by decide))
  obtain ⟨kE, nE, _⟩ := guarded_kp (fun j hj => by simp only [List.mem_singleton] at hj; subst hj; exact lq) kC
  let E : Hp := backL D (backL D C [A.next]) []
  have hlD : (S2 A m (.slice a L.length c) 7 n x).next < D.next := by rw [show D.next = _ from f3]; omega
  have gqE : E.get (S2 A m (.slice a L.length c) 7 n x).next = some (.arr 51 (SW 0 (.slice none 0 0)) .own) := (kE.old _ hlD).trans ((f4 _).trans s.gq)
  have gPE : E.get P = some (bo ⟨m, L⟩) := (kE.old _ (by omega)).trans ((f4 _).trans s.gP)
  have e1 : (L.any (· == x) == decide (0 ≤ atV x L)) = true := by
    have := at_ge x L
    by_cases hh : L.any (· == x) = true
    · rw [hh, decide_eq_true (this.2 hh)]; rfl
    · rw [Bool.not_eq_true] at hh
      rw [hh, decide_eq_false fun q => by rw [this.1 q] at hh; cases hh]
      rfl
  refine ⟨a, c, L, E.set (S2 A m (.slice a L.length c) 7 n x).next (some (.arr 51 (SW m (.slice a L.length c)) .own)), ?run, ?sq⟩
  case run =>
    conv => lhs; whnf
    refine bind_of (cellsAt_of s.gb _ _) ?_
    conv => lhs; whnf
    refine bind_of (cellsAt_of s.ga _ _) ?_
    conv => lhs; whnf
    refine bind_of (cellsAt_of s.gb _ _) ?_
    conv => lhs; whnf
    refine bind_of (cellsAt_of s.ga _ _) ?_
    conv => lhs; whnf
    refine bind_of (cellsAt_of s.gb _ _) ?_
    conv => lhs; whnf
    refine bind_of r1 ?_
    conv => lhs; whnf
    refine bind_of r2 ?_
    conv => lhs; whnf
    refine bind_of (dstore_of gqE (t := 51) (o := 0) (cs' := SW m (.slice a L.length c)) rfl) ?_
    conv => lhs; whnf
    refine bind_of (cellsAt_of (Hp.get_set_same _ _ _) _ _) ?_
    conv => lhs; whnf
    rw [e1]
    try rfl
  case sq =>
    have hnE : D.next ≤ E.next := kE.nx
    have hvE : BsAt E (.slice a L.length c) (nums L) := hvD.old f2 fun i hi => kE.old i hi
    refine ⟨kE.wf.put gqE _, by rw [Hp.next_set]; omega, by rw [Hp.get_set_ne _ _ (by omega)]; exact gPE, bs_cellq hvE gqE _ _, fun j hj hjP => ?_, hok, hnd⟩
    rw [Hp.get_set_ne _ _ (by omega), kE.old j (by omega), f4]
    exact s.old j hj hjP
end
end Go.Dn.Bl
end

section
/-
  BacklogPlays: a step: any other kind
-/
namespace Go.Dn.Bl
open Go.Proofs Go.Dn.Ln
set_option maxHeartbeats 4000000
set_option maxRecDepth 100000
attribute [local irreducible] Hp.get Hp.set Hp.push dappend dcopy dstore cellsAt callD loopD guardL hideL backL

theorem list_g {call : CallT} (h : BFns call) {D : Hp} (hw : D.wf) {P : Nat} {m : Int} {L : List Int} (hP : D.get P = some (bo ⟨m, L⟩)) (hok : BX.ok ⟨m, L⟩) (l : List Nat) (hl : ∀ j ∈ l, j < D.next ∧ j ≠ P) :
    ∃ a c C, call 33 [ptr P] (guardL (hideL D []) l) = some (.slice a L.length c, C) ∧ Kp D (backL D (backL D C l) []) ∧ BsAt (backL D (backL D C l) []) (.slice a L.length c) (nums L) := by
  have hPl : P ∉ l := fun hm => (hl P hm).2 rfl
  have hG := (guard_get (A := D) hPl).trans hP
  have r := h.list (BListR.mk _ P ⟨m, L⟩ hG hok)
  simp only at r
  have wG := guard_wf hw l
  generalize hGe : guardL (hideL D []) l = G at r hG wG ⊢
  have nG : G.next = D.next := by rw [← hGe, guard_next]
  have kS : Kp G (G.set P (some (bo ⟨m, L⟩))) := ⟨wG.put hG _, by rw [Hp.next_set]; exact Nat.le_refl _, fun j _ => by
    by_cases e : j = P
    · subst e; rw [Hp.get_set_same, hG]
    · rw [Hp.get_set_ne _ _ e]⟩
  cases L with
  | nil =>
    obtain ⟨kE, _, _⟩ := guarded_kp (fun j hj => (hl j hj).1) (by rw [hGe]; exact kS)
    exact ⟨none, 0, _, r, kE, .nil 0 (by omega)⟩
  | cons x t =>
    have kC := kS.trans (Kp.push kS.wf (.arr 27 (nums (x :: t)) .own))
    obtain ⟨kE, _, oE⟩ := guarded_kp (fun j hj => (hl j hj).1) (by rw [hGe]; exact kC)
    refine ⟨_, _, _, r, kE, ?_⟩
    refine .at G.next 0 _ _ 27 (nums (x :: t)) _ .own ((oE _ (by omega)).trans (show (Hp.push _ _).get G.next = _ from Hp.get_push_at _ (by rw [Hp.next_set]))) (by rw [nums_len]; omega) ?_ (by omega)
    rw [List.drop_zero, List.take_of_length_le (by rw [nums_len]; omega)]

/-- two lists alike -/
def SameOK (call : CallT) : Prop := ∀ {A : Hp} {a a2 : Option Addr} {c c2 : Nat} {l : List Int}, BsAt A (.slice a l.length c) (nums l) → BsAt A (.slice a2 l.length c2) (nums l) → l.length ≤ 1000000 →
  call 39 [.slice a l.length c, .slice a2 l.length c2] A = some (.bool true, A)

section
variable {call : CallT} (h : BFns call) (lf : Nat) {A : Hp} (hw : A.wf) {P : Nat} {m : Int}
include h hw

theorem stepN (ht : SameOK call) {L : List Int} (hP : A.get P = some (bo ⟨m, L⟩)) (hok : BX.ok ⟨m, L⟩) (hnd : L.Nodup) {a : Option Addr} {c : Nat} (hv : BsAt A (.slice a L.length c) (nums L)) (k n x : Int)
    (k2 : (k == 2) = false) (k3 : (k == 3) = false) (k4 : (k == 4) = false) (k5 : (k == 5) = false) (k6 : (k == 6) = false) (k7 : (k == 7) = false) :
    ∃ a' c' L' A', kfn Tryd.bk.E call (Tryd.bk.inf 29) lf Tryd.f29 [ptr P, dv m (.slice a L.length c), .agg #[.int .i64 k, .int .i64 n, .int .u32 x]] A = some (.tuple #[dv m (.slice a' L'.length c'), .bool true], A') ∧ SQ A P m L' (.slice a' L'.length c') A' := by
  have s := SF.start hw hP hv k n x
  have hn1 := s.n1
  have hn2 := s.n2
  have hpl := s.pl
  have hs4 := s.nx
  let B : Hp := S3 A m (.slice a L.length c) k n x
  obtain ⟨f1, f2, f3, f4⟩ := guarded_same s.wf s.gP [A.next, A.next] (fun j hj => by
    simp only [List.mem_cons, List.not_mem_nil, or_false] at hj
    exact ⟨by omega, by omega⟩)
  have r1 := h.len (BLenR.mk _ P ⟨m, L⟩ f1 hok)
  simp only at r1
  let D : Hp := backL B (backL B ((guardL (hideL B []) [A.next, A.next]).set P (some (bo ⟨m, L⟩))) [A.next, A.next]) []
  have gaD : D.get A.next = some (.arr 51 (SW m (.slice a L.length c)) .own) := (f4 _).trans s.ga
  have gPD : D.get P = some (bo ⟨m, L⟩) := (f4 _).trans s.gP
  have nD : D.next = B.next := f3
  have hvD : BsAt D (.slice a L.length c) (nums L) := bs_same s.hv f4
  obtain ⟨a3, c3, C, r2, kF, hvF⟩ := list_g h (D := D) f2 gPD hok [A.next, A.next] (fun j hj => by
    simp only [List.mem_cons, List.not_mem_nil, or_false] at hj
    have : j = A.next := by omega
    subst this
    have hs4' : A.next + 3 ≤ B.next := hs4
    exact ⟨by omega, by omega⟩)
  let F : Hp := backL D (backL D C [A.next, A.next]) []
  have hs4' : A.next + 3 ≤ B.next := hs4
  have hvF2 : BsAt F (.slice a L.length c) (nums L) := hvD.old f2 fun i hi => kF.old i hi
  have hnF : D.next ≤ F.next := kF.nx
  obtain ⟨e1, e2, e3⟩ := guarded_id (D := F) kF.wf [A.next] (fun j hj => by simp only [List.mem_singleton] at hj; subst hj; omega)
  have r3 := ht (bs_guard (D := F) hvF [A.next]) (bs_guard hvF2 [A.next]) (Nat.le_trans hok.1 (by decide))
  let E : Hp := backL F (backL F (guardL (hideL F []) [A.next]) [A.next]) []
  have nE : E.next = F.next := e2
  have gqE : E.get (S2 A m (.slice a L.length c) k n x).next = some (.arr 51 (SW 0 (.slice none 0 0)) .own) := (e3 _).trans ((kF.old _ (by omega)).trans ((f4 _).trans s.gq))
  have gPE : E.get P = some (bo ⟨m, L⟩) := (e3 _).trans ((kF.old _ (by omega)).trans gPD)
  refine ⟨a, c, L, E.set (S2 A m (.slice a L.length c) k n x).next (some (.arr 51 (SW m (.slice a L.length c)) .own)), ?run, ?sq⟩
  case run =>
    conv => lhs; whnf
    refine bind_of (cellsAt_of s.gb _ _) ?_
    conv => lhs; whnf
    rw [k2]
    conv => lhs; whnf
    rw [k3]
    conv => lhs; whnf
    rw [k4]
    conv => lhs; whnf
    rw [k5]
    conv => lhs; whnf
    rw [k6]
    conv => lhs; whnf
    rw [k7]
    conv => lhs; whnf
    refine bind_of (cellsAt_of s.ga _ _) ?_
    conv => lhs; whnf
    refine bind_of (cellsAt_of s.ga _ _) ?_
    conv => lhs; whnf
    refine bind_of r1 ?_
    conv => lhs; whnf
    rw [show (((L.length : Nat) : Int) == ((L.length : Nat) : Int)) = true by simp]
    conv => lhs; whnf
    refine bind_of (cellsAt_of gaD _ _) ?_
    conv => lhs; whnf
    refine bind_of r2 ?_
    conv => lhs; whnf
    refine bind_of r3 ?_
    conv => lhs; whnf
    refine bind_of (dstore_of gqE (t := 51) (o := 0) (cs' := SW m (.slice a L.length c)) rfl) ?_
    conv => lhs; whnf
    refine bind_of (cellsAt_of (Hp.get_set_same _ _ _) _ _) ?_
    conv => lhs; whnf
    try rfl
  case sq =>
    refine ⟨e1.put gqE _, by rw [Hp.next_set]; omega, by rw [Hp.get_set_ne _ _ (by omega)]; exact gPE, bs_cellq (bs_same hvF2 e3) gqE _ _, fun j hj hjP => ?_, hok, hnd⟩
    rw [Hp.get_set_ne _ _ (by omega), show E.get j = F.get j from e3 j, kF.old j (by omega), f4]
    exact s.old j hj hjP
end
end Go.Dn.Bl
end
