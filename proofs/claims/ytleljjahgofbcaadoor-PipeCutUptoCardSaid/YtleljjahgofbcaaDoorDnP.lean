/-
  Part of the abstract machine for this program.
-/
import Derived.Test.YtleljjahgofbcaaDoorDnO
import Derived.Test.YtleljjahgofbcaaDoorDnJ

section
/-
  'step' of culvertlaw19: one call on both
-/
namespace Go.Dn.Pipe
open Go.Proofs
set_option maxHeartbeats 4000000
set_option maxRecDepth 100000
attribute [local irreducible] Hp.get Hp.set Hp.push dappend dcopy dstore cellsAt callD loopD dstring

def cutIf : Value := .iface 168 (.pointer (some ⟨44, 0, none⟩))

structure StepFns (call : CallT) (N : Nat) : Prop extends PipeFns call where
  put2 : ∀ {args A r}, PutR2 args A r → call 14 args A = some r
  cut : ∀ {args A r}, CutR args A r → call 26 args A = some r
  code0 : ∀ A, call 27 [.nilIface] A = some (.int .i64 0, A)
  code27 : ∀ A, call 27 [cutIf] A = some (.int .i64 27, A)
  left : LeftOK call
  rput : ∀ {A : Hp} {a a2 : Option Addr} {c c2 : Nat} {g : Int} {all us : List Value}, A.wf → BsAt A (.slice a all.length c) all → IsB all → BsAt A (.slice a2 us.length c2) us → IsB us → all.length + us.length ≤ 1000000000 → all.length + us.length < N →
    ∃ V' A', call 28 [.agg #[.slice a all.length c, .int .i64 g, .bool false], .slice a2 us.length c2] A = some (.tuple #[.agg #[V', .int .i64 g, .bool false], .int .i64 (us.length : Nat), .int .i64 0], A') ∧ RI A V' (all ++ us) A'
  rputc : ∀ {A : Hp} {a : Option Addr} {m c : Nat} {g : Int} (b : Value), A.wf → ∃ A', call 28 [.agg #[.slice a m c, .int .i64 g, .bool true], b] A = some (.tuple #[.agg #[.slice a m c, .int .i64 g, .bool true], .int .i64 0, .int .i64 27], A') ∧ Kp A A'
  rmove : ∀ {A : Hp} {a : Option Addr} {c g : Nat} {ct : Bool} {all : List Value} (n : Int), A.wf → BsAt A (.slice a all.length c) all → IsB all → g ≤ all.length → all.length ≤ 1000000000 → all.length < N →
    ∃ V' A', call 30 [.agg #[.slice a all.length c, .int .i64 g, .bool ct], .int .i64 n] A =
      some (.tuple #[.agg #[.slice a all.length c, .int .i64 (g + min n.toNat (lftOf ct all.length g) : Nat), .bool ct], V'], A') ∧ RI A V' ((all.drop g).take (min n.toNat (lftOf ct all.length g))) A'
  rbreak : ∀ {A : Hp} (a : Option Addr) (m c g : Nat) (ct : Bool), A.wf → g ≤ m → m ≤ 1000000000 →
    ∃ A', call 58 [.agg #[.slice a m c, .int .i64 g, .bool ct]] A = some (.tuple #[.agg #[.slice a m c, .int .i64 g, .bool true], .int .i64 (lftOf ct m g : Nat)], A') ∧ Kp A A'

/-- older objects but one stay -/
structure KP (P : Nat) (A A' : Hp) : Prop where
  wf : A'.wf
  nx : A.next ≤ A'.next
  old : ∀ j, j < A.next → j ≠ P → A'.get j = A.get j
theorem KP.refl {P : Nat} {A : Hp} (hw : A.wf) : KP P A A := ⟨hw, Nat.le_refl _, fun _ _ _ => rfl⟩
theorem KP.trans {P : Nat} {A B C : Hp} (h : KP P A B) (k : KP P B C) : KP P A C := ⟨k.wf, Nat.le_trans h.nx k.nx, fun j hj hp => by have := h.nx; rw [k.old j (by omega) hp, h.old j hj hp]⟩
theorem Kp.toP {A A' : Hp} (h : Kp A A') (P : Nat) : KP P A A' := ⟨h.wf, h.nx, fun j hj _ => h.old j hj⟩
theorem KP.set {P : Nat} {A B : Hp} (h : KP P A B) {i : Nat} {o : Ob} (hg : B.get i = some o) (hi : A.next ≤ i) (o' : Ob) : KP P A (B.set i (some o')) :=
  ⟨h.wf.put hg _, by rw [Hp.next_set]; exact h.nx, fun j hj hp => by rw [Hp.get_set_ne _ _ (by omega), h.old j hj hp]⟩
theorem KP.bs {P : Nat} {A A' : Hp} (h : KP P A A') (hw : A.wf) {k : Nat} {x : Dat} (hP : A.get P = some (.abs k x)) {V : Value} {us : List Value} (hV : BsAt A V us) : BsAt A' V us :=
  hV.keep fun i o hi hh => by
    cases hV with
    | nil c hc => obtain ⟨b, q, s, m, c', e, _⟩ := hh; cases e
    | «at» j o' n c T cs _ md hg hl hu hc =>
      obtain ⟨b, q, s, m, c', e, e2⟩ := hh
      cases e
      subst e2
      refine h.old _ (hw.lt hg) ?_
      rintro rfl
      rw [hP] at hg
      cases hg

theorem RI.bs2 {A0 A A' : Hp} {V : Value} {us : List Value} (h : RI A0 V us A) (hk : ∀ j, A0.next ≤ j → j < A.next → A'.get j = A.get j) : BsAt A' V us := by
  obtain ⟨io, o1, o2⟩ := h.out
  have : CanAt 5 1 A' V io us us.length := o1.keep fun i hi => by
    subst hi
    exact hk i (o2 i rfl) (o1.lt h.wf)
  exact this.slAt.bs

def Typ5 (A : Hp) (V : Value) : Prop := ∀ i ∈ blkOf V, ∃ cs md, A.get i = some (.arr 5 cs md)
theorem RI.typ2 {A0 A A' : Hp} {V : Value} {us : List Value} (h : RI A0 V us A) (hk : ∀ j, A0.next ≤ j → j < A.next → A'.get j = A.get j) : Typ5 A' V := by
  obtain ⟨io, o1, o2⟩ := h.out
  have h2 : CanAt 5 1 A' V io us us.length := o1.keep fun i hi => by
    subst hi
    exact hk i (o2 i rfl) (o1.lt h.wf)
  generalize us.length = n at h2
  intro i hi
  cases h2 with
  | nil => simp [blkOf] at hi
  | «at» j _ _ hg hl hp =>
    simp only [blkOf, List.mem_singleton] at hi
    subst hi
    exact ⟨_, _, hg⟩
theorem Typ5.keep {A A' : Hp} {V : Value} (h : Typ5 A V) (hk : ∀ j cs md, A.get j = some (.arr 5 cs md) → A'.get j = A.get j) : Typ5 A' V := fun i hi => by
  obtain ⟨cs, md, hg⟩ := h i hi
  exact ⟨cs, md, by rw [hk i cs md hg]; exact hg⟩
theorem KP.typ {P : Nat} {A A' : Hp} (h : KP P A A') (hw : A.wf) {k : Nat} {x : Dat} (hP : A.get P = some (.abs k x)) {V : Value} (hV : Typ5 A V) : Typ5 A' V :=
  hV.keep fun j cs md hg => h.old j (hw.lt hg) (by rintro rfl; rw [hP] at hg; cases hg)
/-- another object changes -/
theorem _root_.Go.Dn.BsAt.set5 {A : Hp} {V : Value} {us : List Value} (h : BsAt A V us) (ht : Typ5 A V) {q : Nat} (hq : ∀ cs md, A.get q ≠ some (.arr 5 cs md)) (o : Option Ob) : BsAt (A.set q o) V us :=
  h.keep fun i ob hi hh => by
    obtain ⟨b, q', s, m, c, e, rfl⟩ := hh
    subst e
    refine Hp.get_set_ne _ _ ?_
    rintro rfl
    cases h with
    | «at» _ _ _ _ _ _ _ _ hg hl hu hc =>
      obtain ⟨cs, md, h2⟩ := ht b (by simp [blkOf])
      exact hq cs md h2
theorem Typ5.set5 {A : Hp} {V : Value} (ht : Typ5 A V) {q : Nat} (hq : ∀ cs md, A.get q ≠ some (.arr 5 cs md)) (o : Option Ob) : Typ5 (A.set q o) V :=
  ht.keep fun j cs md hg => Hp.get_set_ne _ _ (by rintro rfl; exact hq cs md hg)

/-- what a pipe holds beside the document's -/
def pxOf (all : List Value) (g : Nat) (ct : Bool) : PX := ⟨if ct then [] else all.drop g, all.length, (g : Nat), ct⟩

def boxes (A : Hp) (w o : List Value) : Hp := ((A.push (.arr 50 w .own)).push (.arr 54 o .own)).push (.arr 50 [.slice none 0 0, .int .i64 0, .bool false] .own)

theorem boxes_ok {A : Hp} (hw : A.wf) (w o : List Value) : Kp A (boxes A w o) ∧ (boxes A w o).next = A.next + 3 ∧ (boxes A w o).get A.next = some (.arr 50 w .own) ∧ (boxes A w o).get (A.push (.arr 50 w .own)).next = some (.arr 54 o .own) ∧
    (boxes A w o).get ((A.push (.arr 50 w .own)).push (.arr 54 o .own)).next = some (.arr 50 [.slice none 0 0, .int .i64 0, .bool false] .own) := by
  refine ⟨((Kp.push hw _).trans (Kp.push (hw.push _) _)).trans (Kp.push ((hw.push _).push _) _), by simp [boxes], ?_, ?_, ?_⟩
  · unfold boxes
    rw [Hp.get_push_ne _ _ (by simp; omega), Hp.get_push_ne _ _ (by simp)]
    exact Hp.get_push_same _ _
  · unfold boxes
    rw [Hp.get_push_ne _ _ (by simp)]
    exact Hp.get_push_same _ _
  · exact Hp.get_push_same _ _

section
variable {call : CallT} {N : Nat} (h : StepFns call N) {P : Nat} {A : Hp} (hw : A.wf) {all : List Value} {g : Nat} (hall : IsB all) (hg : g ≤ all.length)
include h hw hall hg

theorem step_put (lf : Nat) (hP : A.get P = some (.abs 1 (pxOf all g false).dat)) {a a2 : Option Addr} {c c2 : Nat} (hV : BsAt A (.slice a all.length c) all) {us : List Value} (hus : IsB us) (hB : BsAt A (.slice a2 us.length c2) us) (n : Int) (hl : all.length + us.length ≤ 100000000) (hN : all.length + us.length < N) :
    ∃ V' A', kfn Tryd.bk.E call (Tryd.bk.inf 25) lf Tryd.f25 [ptr P, .agg #[.slice a all.length c, .int .i64 g, .bool false], .agg #[.int .i64 1, .slice a2 us.length c2, .int .i64 n]] A =
      some (.tuple #[.agg #[V', .int .i64 g, .bool false], .bool true], A') ∧ KP P A A' ∧ A'.get P = some (.abs 1 (pxOf (all ++ us) g false).dat) ∧ BsAt A' V' (all ++ us) ∧ Typ5 A' V' := by
  obtain ⟨b1, b2, b3, b4, b5⟩ := boxes_ok hw [.slice a all.length c, .int .i64 g, .bool false] [.int .i64 1, .slice a2 us.length c2, .int .i64 n]
  have hPl := hw.lt hP
  obtain ⟨V4, A4, p1, p2⟩ := h.rput (g := g) b1.wf (hV.old hw b1.old) hall (hB.old hw b1.old) hus (by omega) hN
  obtain ⟨av, cv, rfl⟩ := p2.bs.form
  have hP4 : A4.get P = some (.abs 1 (pxOf all g false).dat) := by rw [p2.old P (by omega), b1.old P hPl]; exact hP
  let W : List Value := [.slice av (all ++ us).length cv, .int .i64 g, .bool false]
  let Z : List Value := [.slice none 0 0, .int .i64 0, .bool false]
  let A5 : Hp := (A4.push (.arr 50 Z .own)).set A4.next (some (.arr 50 W .own))
  have k4 : KP P A A4 := (b1.trans p2.kp).toP P
  have k5 : KP P A A5 := (k4.trans ((Kp.push p2.wf _).toP P)).set (Hp.get_push_same _ _) (by have := k4.nx; omega) _
  have n5 : A5.next = A4.next + 1 := by simp [A5]
  have k45 : KP P A4 A5 := ((Kp.push p2.wf (.arr 50 Z .own)).toP P).set (Hp.get_push_same _ _) (Nat.le_refl _) _
  have hlt4 : A.next + 3 ≤ A4.next := by have := p2.nx; omega
  have g5 : A5.get (A.push (.arr 50 [.slice a all.length c, .int .i64 g, .bool false] .own)).next = some (.arr 54 [.int .i64 1, .slice a2 us.length c2, .int .i64 n] .own) := by
    rw [k45.old _ (by simp; omega) (by simp; omega), p2.old _ (by simp; omega)]; exact b4
  have g6 : A5.get ((A.push (.arr 50 [.slice a all.length c, .int .i64 g, .bool false] .own)).push (.arr 54 [.int .i64 1, .slice a2 us.length c2, .int .i64 n] .own)).next = some (.arr 50 Z .own) := by
    rw [k45.old _ (by simp; omega) (by simp; omega), p2.old _ (by simp; omega)]; exact b5
  have g8 : A5.get A4.next = some (.arr 50 W .own) := Hp.get_set_same _ _ _
  have hP5 : A5.get P = some (.abs 1 (pxOf all g false).dat) := by rw [Hp.get_set_ne _ _ (by omega), Hp.get_push_ne _ _ (by omega)]; exact hP4
  obtain ⟨wv, A6, A7, s1, s2, s3, s4, s5, s6⟩ := put_phase h.toPipeFns k5.wf hP5 rfl (k5.bs hw hP hB).elems hus.plain (by show all.length + us.length ≤ _; omega)
  have g87 : A7.get A4.next = some (.arr 50 W .own) := by rw [s5 _ (by omega) (by omega)]; exact g8
  have g67 : A7.get ((A.push (.arr 50 [.slice a all.length c, .int .i64 g, .bool false] .own)).push (.arr 54 [.int .i64 1, .slice a2 us.length c2, .int .i64 n] .own)).next = some (.arr 50 Z .own) := by
    rw [s5 _ (by simp; omega) (by simp; omega)]; exact g6
  have hpx : (PX.dat { pxOf all g false with fl := (pxOf all g false).fl ++ us, n := (pxOf all g false).n + us.length }) = (pxOf (all ++ us) g false).dat := by
    unfold pxOf
    simp only [Bool.false_eq_true, if_false, List.length_append]
    rw [List.drop_append_of_le_length hg]
  rw [hpx] at s6
  have g67' := g67
  rw [← back1 g87] at g67'
  let q6 := ((A.push (.arr 50 [.slice a all.length c, .int .i64 g, .bool false] .own)).push (.arr 54 [.int .i64 1, .slice a2 us.length c2, .int .i64 n] .own)).next
  have k7 : KP P A A7 := k5.trans ⟨s3, s4, s5⟩
  have k8 := k7.set g67 (by simp; omega) (.arr 50 W .own)
  refine ⟨.slice av (all ++ us).length cv, _, ?run, k8, ?k2, ?k3, ?k4⟩
  case run =>
    conv => lhs; whnf
    refine bind_of (cellsAt_of b4 _ _) ?_
    conv => lhs; whnf
    refine bind_of (cellsAt_of b3 _ _) ?_
    conv => lhs; whnf
    refine bind_of (cellsAt_of b4 _ _) ?_
    conv => lhs; whnf
    refine bind_of p1 ?_
    conv => lhs; whnf
    refine bind_of (dstore_of (Hp.get_push_same _ _) (t := 50) (o := 0) (cs' := W) rfl) ?_
    conv => lhs; whnf
    refine bind_of (cellsAt_of g5 _ _) ?_
    conv => lhs; whnf
    refine bind_of s1 ?_
    conv => lhs; whnf
    refine bind_of s2 ?_
    conv => lhs; whnf
    refine bind_of (cellsAt_of g87 _ _) ?_
    conv => lhs; whnf
    rw [beq_self_eq_true]
    conv => lhs; whnf
    refine bind_of (h.code0 _) ?_
    conv => lhs; whnf
    refine bind_of (dstore_of g67' (t := 50) (o := 0) (cs' := W) rfl) ?_
    rw [back1 g87]
    conv => lhs; whnf
    refine bind_of (cellsAt_of (A := A7.set q6 (some (.arr 50 W .own))) (i := q6) (Hp.get_set_same _ _ _) 0 3) ?_
    conv => lhs; whnf
    rfl
  case k2 => rw [Hp.get_set_ne _ _ (by simp; omega)]; exact s6
  case k3 =>
    refine p2.bs2 fun j hj hj2 => ?_
    rw [Hp.get_set_ne _ _ (by simp; omega), (k45.trans ⟨s3, s4, s5⟩).old j hj2 (by omega)]
  case k4 =>
    refine p2.typ2 fun j hj hj2 => ?_
    rw [Hp.get_set_ne _ _ (by simp; omega), (k45.trans ⟨s3, s4, s5⟩).old j hj2 (by omega)]

omit hall hg in
theorem putcut_phase {x : PX} (hP : A.get P = some (.abs 1 x.dat)) (hx : x.c = true) {v : Value} {seg : List Value} (hv : elemsOf A 1 v = some (seg.length, seg)) (hpl : ∀ u ∈ seg, plain0 u = true) (hb : seg.length ≤ 1073741824) :
    ∃ wv A1 A2, call 15 [v] A = some (wv, A1) ∧ call 14 [ptr P, wv] A1 = some (cutErr, A2) ∧ A2.wf ∧ A.next ≤ A2.next ∧ (∀ j, j < A.next → j ≠ P → A2.get j = A.get j) ∧ A2.get P = some (.abs 1 x.dat) := by
  have h1 := h.copied hw hv hb
  obtain ⟨i, c, e1, e2, e3, e4, e5⟩ := copV_at A seg
  have hPl := hw.lt hP
  have hP1 : (copH A seg).get P = some (.abs 1 x.dat) := by rw [copH_old A seg P hPl]; exact hP
  have h2 := h.put2 (PutR2.cut (copH A seg) P x hP1 hx i 0 seg.length c seg .own e4 hpl)
  rw [← e1] at h2
  refine ⟨_, _, _, h1, h2, (copH_wf hw seg).put hP1 _, ?_, fun j hj hjP => ?_, Hp.get_set_same _ _ _⟩
  · have := copH_next A seg
    rw [Hp.next_set]; omega
  · rw [Hp.get_set_ne _ _ hjP, copH_old A seg j hj]

omit hall hg in
theorem step_put_cut (lf : Nat) (hP : A.get P = some (.abs 1 (pxOf all g true).dat)) {a a2 : Option Addr} {c c2 : Nat} (hV : BsAt A (.slice a all.length c) all) {us : List Value} (hus : IsB us) (hB : BsAt A (.slice a2 us.length c2) us) (n : Int) (hl : us.length ≤ 100000000) :
    ∃ A', kfn Tryd.bk.E call (Tryd.bk.inf 25) lf Tryd.f25 [ptr P, .agg #[.slice a all.length c, .int .i64 g, .bool true], .agg #[.int .i64 1, .slice a2 us.length c2, .int .i64 n]] A =
      some (.tuple #[.agg #[.slice a all.length c, .int .i64 g, .bool true], .bool true], A') ∧ KP P A A' ∧ A'.get P = some (.abs 1 (pxOf all g true).dat) ∧ BsAt A' (.slice a all.length c) all := by
  obtain ⟨b1, b2, b3, b4, b5⟩ := boxes_ok hw [.slice a all.length c, .int .i64 g, .bool true] [.int .i64 1, .slice a2 us.length c2, .int .i64 n]
  have hPl := hw.lt hP
  obtain ⟨A4, p1, p2⟩ := h.rputc (a := a) (m := all.length) (c := c) (g := g) (.slice a2 us.length c2) b1.wf
  have hP4 : A4.get P = some (.abs 1 (pxOf all g true).dat) := by rw [p2.old P (by omega), b1.old P hPl]; exact hP
  let W : List Value := [.slice a all.length c, .int .i64 g, .bool true]
  let Z : List Value := [.slice none 0 0, .int .i64 0, .bool false]
  let A5 : Hp := (A4.push (.arr 50 Z .own)).set A4.next (some (.arr 50 W .own))
  have k4 : KP P A A4 := (b1.trans p2).toP P
  have k5 : KP P A A5 := (k4.trans ((Kp.push p2.wf _).toP P)).set (Hp.get_push_same _ _) (by have := k4.nx; omega) _
  have n5 : A5.next = A4.next + 1 := by simp [A5]
  have k45 : KP P A4 A5 := ((Kp.push p2.wf (.arr 50 Z .own)).toP P).set (Hp.get_push_same _ _) (Nat.le_refl _) _
  have hlt4 : A.next + 3 ≤ A4.next := by have := p2.nx; omega
  have g5 : A5.get (A.push (.arr 50 [.slice a all.length c, .int .i64 g, .bool true] .own)).next = some (.arr 54 [.int .i64 1, .slice a2 us.length c2, .int .i64 n] .own) := by
    rw [k45.old _ (by simp; omega) (by simp; omega), p2.old _ (by simp; omega)]; exact b4
  have g6 : A5.get ((A.push (.arr 50 [.slice a all.length c, .int .i64 g, .bool true] .own)).push (.arr 54 [.int .i64 1, .slice a2 us.length c2, .int .i64 n] .own)).next = some (.arr 50 Z .own) := by
    rw [k45.old _ (by simp; omega) (by simp; omega), p2.old _ (by simp; omega)]; exact b5
  have g8 : A5.get A4.next = some (.arr 50 W .own) := Hp.get_set_same _ _ _
  have hP5 : A5.get P = some (.abs 1 (pxOf all g true).dat) := by rw [Hp.get_set_ne _ _ (by omega), Hp.get_push_ne _ _ (by omega)]; exact hP4
  obtain ⟨wv, A6, A7, s1, s2, s3, s4, s5, s6⟩ := putcut_phase h k5.wf hP5 rfl (k5.bs hw hP hB).elems hus.plain (by omega)
  have g87 : A7.get A4.next = some (.arr 50 W .own) := by rw [s5 _ (by omega) (by omega)]; exact g8
  have g67 : A7.get ((A.push (.arr 50 [.slice a all.length c, .int .i64 g, .bool true] .own)).push (.arr 54 [.int .i64 1, .slice a2 us.length c2, .int .i64 n] .own)).next = some (.arr 50 Z .own) := by
    rw [s5 _ (by simp; omega) (by simp; omega)]; exact g6
  have g67' := g67
  rw [← back1 g87] at g67'
  let q6 := ((A.push (.arr 50 [.slice a all.length c, .int .i64 g, .bool true] .own)).push (.arr 54 [.int .i64 1, .slice a2 us.length c2, .int .i64 n] .own)).next
  have k7 : KP P A A7 := k5.trans ⟨s3, s4, s5⟩
  have k8 := k7.set g67 (by simp; omega) (.arr 50 W .own)
  refine ⟨_, ?run, k8, ?k2, k8.bs hw hP hV⟩
  case run =>
    conv => lhs; whnf
    refine bind_of (cellsAt_of b4 _ _) ?_
    conv => lhs; whnf
    refine bind_of (cellsAt_of b3 _ _) ?_
    conv => lhs; whnf
    refine bind_of (cellsAt_of b4 _ _) ?_
    conv => lhs; whnf
    refine bind_of p1 ?_
    conv => lhs; whnf
    refine bind_of (dstore_of (Hp.get_push_same _ _) (t := 50) (o := 0) (cs' := W) rfl) ?_
    conv => lhs; whnf
    refine bind_of (cellsAt_of g5 _ _) ?_
    conv => lhs; whnf
    refine bind_of s1 ?_
    conv => lhs; whnf
    refine bind_of s2 ?_
    conv => lhs; whnf
    refine bind_of (cellsAt_of g87 _ _) ?_
    conv => lhs; whnf
    refine bind_of (h.code27 _) ?_
    conv => lhs; whnf
    refine bind_of (dstore_of g67' (t := 50) (o := 0) (cs' := W) rfl) ?_
    rw [back1 g87]
    conv => lhs; whnf
    refine bind_of (cellsAt_of (A := A7.set q6 (some (.arr 50 W .own))) (i := q6) (Hp.get_set_same _ _ _) 0 3) ?_
    conv => lhs; whnf
    rfl
  case k2 => rw [Hp.get_set_ne _ _ (by simp; omega)]; exact s6

omit h hall hg in
/-- any other kind -/
theorem step_none (lf : Nat) {ct : Bool} (hP : A.get P = some (.abs 1 (pxOf all g ct).dat)) {a a2 : Option Addr} {c c2 m2 : Nat} (hV : BsAt A (.slice a all.length c) all) (k n : Int) (hk1 : k ≠ 1) (hk2 : k ≠ 2) (hk3 : k ≠ 3) (hk4 : k ≠ 4) :
    ∃ A', kfn Tryd.bk.E call (Tryd.bk.inf 25) lf Tryd.f25 [ptr P, .agg #[.slice a all.length c, .int .i64 g, .bool ct], .agg #[.int .i64 k, .slice a2 m2 c2, .int .i64 n]] A =
      some (.tuple #[.agg #[.slice a all.length c, .int .i64 g, .bool ct], .bool true], A') ∧ KP P A A' ∧ A'.get P = some (.abs 1 (pxOf all g ct).dat) ∧ BsAt A' (.slice a all.length c) all := by
  obtain ⟨b1, b2, b3, b4, b5⟩ := boxes_ok hw [.slice a all.length c, .int .i64 g, .bool ct] [.int .i64 k, .slice a2 m2 c2, .int .i64 n]
  have hPl := hw.lt hP
  let q6 := ((A.push (.arr 50 [.slice a all.length c, .int .i64 g, .bool ct] .own)).push (.arr 54 [.int .i64 k, .slice a2 m2 c2, .int .i64 n] .own)).next
  have k8 := (b1.toP P).set b5 (by simp; omega) (.arr 50 [.slice a all.length c, .int .i64 g, .bool ct] .own)
  refine ⟨_, ?run, k8, ?k2, k8.bs hw hP hV⟩
  case run =>
    conv => lhs; whnf
    refine bind_of (cellsAt_of b4 _ _) ?_
    conv => lhs; whnf
    rw [beq_eq_false_iff_ne.2 hk1]
    conv => lhs; whnf
    rw [beq_eq_false_iff_ne.2 hk2]
    conv => lhs; whnf
    rw [beq_eq_false_iff_ne.2 hk3]
    conv => lhs; whnf
    rw [beq_eq_false_iff_ne.2 hk4]
    conv => lhs; whnf
    refine bind_of (cellsAt_of b3 _ _) ?_
    conv => lhs; whnf
    refine bind_of (dstore_of b5 (t := 50) (o := 0) (cs' := [.slice a all.length c, .int .i64 g, .bool ct]) rfl) ?_
    conv => lhs; whnf
    refine bind_of (cellsAt_of (A := Hp.set _ q6 (some (.arr 50 [.slice a all.length c, .int .i64 g, .bool ct] .own))) (i := q6) (Hp.get_set_same _ _ _) 0 3) ?_
    conv => lhs; whnf
    rfl
  case k2 => rw [Hp.get_set_ne _ _ (by simp; omega), b1.old P hPl]; exact hP
end
end Go.Dn.Pipe
end

section
namespace Go.Dn.Pipe
open Go.Proofs
set_option maxHeartbeats 4000000
set_option maxRecDepth 100000
attribute [local irreducible] Hp.get Hp.set Hp.push dappend dcopy dstore cellsAt callD loopD dstring guardL hideL backL

theorem guard_get {A : Hp} {l : List Nat} {j : Nat} (hj : j ∉ l) : (guardL (hideL A []) l).get j = A.get j := by
  rw [guardL_get, if_neg hj, hideL_get, if_neg List.not_mem_nil]
theorem guard_next (A : Hp) (l : List Nat) : (guardL (hideL A []) l).next = A.next := by
  rw [guardL_next, hideL_next]
theorem guard_wf {A : Hp} (hw : A.wf) (l : List Nat) : (guardL (hideL A []) l).wf := by
  intro i hi
  rw [guard_next] at hi
  rw [guardL_get, hideL_get, if_neg List.not_mem_nil, hw i hi]
  split <;> rfl
theorem back_facts {A C : Hp} {l : List Nat} (hl : ∀ j ∈ l, j < A.next) (hC : C.wf) (hn : A.next ≤ C.next) :
    (backL A (backL A C l) []).wf ∧ (backL A (backL A C l) []).next = C.next ∧ (∀ j, j ∉ l → (backL A (backL A C l) []).get j = C.get j) ∧ (∀ j ∈ l, (backL A (backL A C l) []).get j = A.get j) := by
  have h1 : ∀ j, (backL A (backL A C l) []).get j = if j ∈ l then A.get j else C.get j := by
    intro j
    rw [backL_get, if_neg List.not_mem_nil, backL_get]
  refine ⟨fun j hj => ?_, by rw [backL_next, backL_next], fun j hj => by rw [h1, if_neg hj], fun j hj => by rw [h1, if_pos hj]⟩
  rw [backL_next, backL_next] at hj
  rw [h1, if_neg (fun hm => by have := hl j hm; omega)]
  exact hC j hj

theorem can_some {e : TypeId} {A : Hp} {v : Value} {io : Option Nat} {us : List Value} {n : Nat} (h : CanAt e 1 A v io us n) (hne : us ≠ []) : ∃ i, io = some i ∧ blkOf v = [i] := by
  cases h with
  | nil => exact absurd rfl hne
  | «at» i _ _ hg hl hp => exact ⟨i, rfl, rfl⟩

/-- a Move under guard -/
theorem guarded_move {call : CallT} (h : PipeFns call) {A : Hp} (hw : A.wf) {P : Nat} {x : PX} (hP : A.get P = some (.abs 1 x.dat)) (hx : x.n ≤ 1073741824) (hpl : ∀ u ∈ x.fl, plain0 u = true) {n : Int} (hn : n ≤ 9223372036854775807) (l : List Nat) (hl : ∀ j ∈ l, j < A.next ∧ j ≠ P) :
    ∃ v C, call 17 [ptr P, .int .i64 n] (guardL (hideL A []) l) = some (v, C) ∧ KP P A (backL A (backL A C l) []) ∧
      (backL A (backL A C l) []).get P = some (.abs 1 (PX.dat { x with fl := x.fl.drop n.toNat, s := IntKind.u64.wrap (x.s + ((x.fl.take n.toNat).length : Nat)) })) ∧ BsAt (backL A (backL A C l) []) v (x.fl.take n.toNat) ∧
      (x.fl.take n.toNat = [] → blkOf v = []) ∧ (x.fl.take n.toNat ≠ [] → ∃ b, blkOf v = [b] ∧ A.next ≤ b ∧ b < (backL A (backL A C l) []).next) := by
  have hPl : P ∉ l := fun hm => (hl P hm).2 rfl
  have hB := guard_get (A := A) hPl
  have h1 := h.move (MoveR.mk (guardL (hideL A []) l) P x (hB.trans hP) n hn hx hpl)
  have hBw := guard_wf hw l
  have hBn := guard_next A l
  have hlP := hw.lt hP
  have hCw := pushL_outE_wf (hBw.put (hB.trans hP) (.abs 1 (PX.dat { x with fl := x.fl.drop n.toNat, s := IntKind.u64.wrap (x.s + ((x.fl.take n.toNat).length : Nat)) }))) (x.fl.take n.toNat)
  have hCn := pushL_outE_next ((guardL (hideL A []) l).set P (some (.abs 1 (PX.dat { x with fl := x.fl.drop n.toNat, s := IntKind.u64.wrap (x.s + ((x.fl.take n.toNat).length : Nat)) })))) (x.fl.take n.toNat)
  have hCo := pushL_outE_get ((guardL (hideL A []) l).set P (some (.abs 1 (PX.dat { x with fl := x.fl.drop n.toNat, s := IntKind.u64.wrap (x.s + ((x.fl.take n.toNat).length : Nat)) })))) (x.fl.take n.toNat)
  obtain ⟨a, c, iv, o1, o2, o3⟩ := outV_at ((guardL (hideL A []) l).set P (some (.abs 1 (PX.dat { x with fl := x.fl.drop n.toNat, s := IntKind.u64.wrap (x.s + ((x.fl.take n.toNat).length : Nat)) })))) (x.fl.take n.toNat)
  rw [Hp.next_set, hBn] at hCn hCo o1 o3
  rw [hBn] at h1
  obtain ⟨d1, d2, d3, d4⟩ := back_facts (fun j hj => (hl j hj).1) hCw hCn
  refine ⟨_, _, h1, ⟨d1, by rw [d2]; exact hCn, fun j hj hjP => ?_⟩, ?_, ?_, fun he => by rw [he]; rfl, fun he => ?_⟩
  · by_cases hm : j ∈ l
    · exact d4 j hm
    · rw [d3 j hm, hCo j hj, Hp.get_set_ne _ _ hjP, guard_get hm]
  · rw [d3 P hPl, hCo P hlP, Hp.get_set_same]
  · rw [o1]
    have : CanAt 5 1 (backL A (backL A (pushL .own ((guardL (hideL A []) l).set P (some (.abs 1 (PX.dat { x with fl := x.fl.drop n.toNat, s := IntKind.u64.wrap (x.s + ((x.fl.take n.toNat).length : Nat)) })))) (outE (x.fl.take n.toNat))) l) []) (.slice a (x.fl.take n.toNat).length c) iv (x.fl.take n.toNat) (x.fl.take n.toNat).length :=
      o2.keep fun i hi => d3 i fun hm => by have := (hl i hm).1; have := (o3 i hi).1; omega
    exact this.slAt.bs
  · rw [o1, d2]
    obtain ⟨i, hi, hb⟩ := can_some o2 he
    exact ⟨i, hb, (o3 i hi).1, (o3 i hi).2⟩

/-- a store under guard -/
theorem guarded_store {D : Hp} (hw : D.wf) {q : Nat} {o o' : Ob} (hq : D.get q = some o) (l : List Nat) (hl : ∀ j ∈ l, j < D.next ∧ j ≠ q) :
    (guardL (hideL D []) l).get q = some o ∧ (backL D (backL D ((guardL (hideL D []) l).set q (some o')) l) []).wf ∧ (backL D (backL D ((guardL (hideL D []) l).set q (some o')) l) []).next = D.next ∧
      (backL D (backL D ((guardL (hideL D []) l).set q (some o')) l) []).get q = some o' ∧ ∀ j, j ≠ q → (backL D (backL D ((guardL (hideL D []) l).set q (some o')) l) []).get j = D.get j := by
  have hql : q ∉ l := fun hm => (hl q hm).2 rfl
  have h1 := (guard_get (A := D) hql).trans hq
  obtain ⟨d1, d2, d3, d4⟩ := back_facts (C := (guardL (hideL D []) l).set q (some o')) (fun j hj => (hl j hj).1) ((guard_wf hw l).put h1 _) (by rw [Hp.next_set, guard_next]; exact Nat.le_refl _)
  refine ⟨h1, d1, by rw [d2, Hp.next_set, guard_next], by rw [d3 q hql, Hp.get_set_same], fun j hj => ?_⟩
  by_cases hm : j ∈ l
  · exact d4 j hm
  · rw [d3 j hm, Hp.get_set_ne _ _ hj, guard_get hm]

theorem stS : StrT Tryd.bk.E 22 9 := ⟨⟨_, _, 5, _, rfl, rfl, rfl, rfl, rfl, rfl⟩⟩

section
variable {call : CallT} {N : Nat} (h : StepFns call N) {P : Nat} {A : Hp} (hw : A.wf) {all : List Value} {g : Nat} (hall : IsB all) (hg : g ≤ all.length)
include h hw hall hg

theorem step_move (lf : Nat) {ct : Bool} (hP : A.get P = some (.abs 1 (pxOf all g ct).dat)) {a a2 : Option Addr} {c c2 m2 : Nat} (hV : BsAt A (.slice a all.length c) all) (n : Int) (hn : n ≤ 9223372036854775807) (hl : all.length ≤ 100000000) (hN : all.length < N) :
    ∃ g' A', kfn Tryd.bk.E call (Tryd.bk.inf 25) lf Tryd.f25 [ptr P, .agg #[.slice a all.length c, .int .i64 g, .bool ct], .agg #[.int .i64 2, .slice a2 m2 c2, .int .i64 n]] A =
      some (.tuple #[.agg #[.slice a all.length c, .int .i64 (g' : Nat), .bool ct], .bool true], A') ∧ g' ≤ all.length ∧ KP P A A' ∧ A'.get P = some (.abs 1 (pxOf all g' ct).dat) ∧ BsAt A' (.slice a all.length c) all := by
  obtain ⟨b1, b2, b3, b4, b5⟩ := boxes_ok hw [.slice a all.length c, .int .i64 g, .bool ct] [.int .i64 2, .slice a2 m2 c2, .int .i64 n]
  have hPl := hw.lt hP
  obtain ⟨V4, A4, p1, p2⟩ := h.rmove (ct := ct) n b1.wf (hV.old hw b1.old) hall hg (by omega) hN
  have hP4 : A4.get P = some (.abs 1 (pxOf all g ct).dat) := by rw [p2.old P (by omega), b1.old P hPl]; exact hP
  have hlf : lftOf ct all.length g ≤ all.length - g := by unfold lftOf; split <;> omega
  have hout : (all.drop g).take (min n.toNat (lftOf ct all.length g)) = (pxOf all g ct).fl.take n.toNat := by
    unfold pxOf lftOf
    cases ct with
    | true => simp
    | false =>
      simp only [Bool.false_eq_true, if_false]
      rw [← List.length_drop, ← List.take_take, List.take_length]
  have hfl : (pxOf all g ct).fl.drop n.toNat = (pxOf all (g + min n.toNat (lftOf ct all.length g)) ct).fl := by
    unfold pxOf lftOf
    cases ct with
    | true => simp
    | false =>
      simp only [Bool.false_eq_true, if_false, List.drop_drop]
      rcases Nat.lt_or_ge n.toNat (all.length - g) with e | e
      · rw [Nat.min_eq_left (by omega)]
      · rw [Nat.min_eq_right e, List.drop_eq_nil_of_le (by omega), List.drop_eq_nil_of_le (by omega)]
  have hol : ((pxOf all g ct).fl.take n.toNat).length = min n.toNat (lftOf ct all.length g) := by rw [← hout]; simp; omega
  have hob : IsB ((pxOf all g ct).fl.take n.toNat) := by rw [← hout]; exact (hall.drop g).take _
  rw [hout] at p2
  have hkb : g + min n.toNat (lftOf ct all.length g) ≤ all.length := by omega
  have hmv : PX.dat { pxOf all g ct with fl := (pxOf all g ct).fl.drop n.toNat, s := IntKind.u64.wrap ((pxOf all g ct).s + (((pxOf all g ct).fl.take n.toNat).length : Nat)) } = (pxOf all (g + min n.toNat (lftOf ct all.length g)) ct).dat := by
    rw [hol, hfl]
    unfold pxOf
    simp only
    rw [show ((g : Nat) : Int) + ((min n.toNat (lftOf ct all.length g) : Nat) : Int) = ((g + min n.toNat (lftOf ct all.length g) : Nat) : Int) by omega, wrapu (by omega)]
  generalize g + min n.toNat (lftOf ct all.length g) = g' at p1 hkb hmv hfl
  generalize hout' : (pxOf all g ct).fl.take n.toNat = out at p2 hob hmv hol
  have hfls : ∀ u ∈ (pxOf all g ct).fl, plain0 u = true := by
    unfold pxOf
    simp only
    split
    · simp
    · exact (hall.drop g).plain
  let W : List Value := [.slice a all.length c, .int .i64 (g' : Nat), .bool ct]
  let Z : List Value := [.slice none 0 0, .int .i64 0, .bool false]
  let A5 : Hp := (A4.push (.arr 50 Z .own)).set A4.next (some (.arr 50 W .own))
  have k4 : KP P A A4 := (b1.trans p2.kp).toP P
  have k5 : KP P A A5 := (k4.trans ((Kp.push p2.wf _).toP P)).set (Hp.get_push_same _ _) (by have := k4.nx; omega) _
  have n5 : A5.next = A4.next + 1 := by simp [A5]
  have k45 : KP P A4 A5 := ((Kp.push p2.wf (.arr 50 Z .own)).toP P).set (Hp.get_push_same _ _) (Nat.le_refl _) _
  have hlt4 : A.next + 3 ≤ A4.next := by have := p2.nx; omega
  have g5 : A5.get (A.push (.arr 50 [.slice a all.length c, .int .i64 g, .bool ct] .own)).next = some (.arr 54 [.int .i64 2, .slice a2 m2 c2, .int .i64 n] .own) := by
    rw [k45.old _ (by simp; omega) (by simp; omega), p2.old _ (by simp; omega)]; exact b4
  have g6 : A5.get ((A.push (.arr 50 [.slice a all.length c, .int .i64 g, .bool ct] .own)).push (.arr 54 [.int .i64 2, .slice a2 m2 c2, .int .i64 n] .own)).next = some (.arr 50 Z .own) := by
    rw [k45.old _ (by simp; omega) (by simp; omega), p2.old _ (by simp; omega)]; exact b5
  have g8 : A5.get A4.next = some (.arr 50 W .own) := Hp.get_set_same _ _ _
  have hP5 : A5.get P = some (.abs 1 (pxOf all g ct).dat) := by rw [Hp.get_set_ne _ _ (by omega), Hp.get_push_ne _ _ (by omega)]; exact hP4
  have hb1 : BsAt A5 V4 out := p2.bs2 fun j hj hj2 => k45.old j hj2 (by omega)
  obtain ⟨ns, hns⟩ := bytesOf_some hob
  have hd1 := dstring_bs stS hb1 hns
  obtain ⟨io4, o4, o4'⟩ := p2.out
  generalize hV4 : V4 = W4 at o4
  generalize hol2 : out.length = ol at o4
  let q6 := ((A.push (.arr 50 [.slice a all.length c, .int .i64 g, .bool ct] .own)).push (.arr 54 [.int .i64 2, .slice a2 m2 c2, .int .i64 n] .own)).next
  cases o4 with
  | nil =>
    obtain ⟨v17, C, e1, e2, e3, e4, e5, e6⟩ := guarded_move h.toPipeFns k5.wf hP5 (show all.length ≤ _ by omega) hfls hn [A4.next] (fun j hj => by
      simp only [List.mem_singleton] at hj
      subst hj
      exact ⟨by omega, by omega⟩)
    rw [hout'] at e3 e4
    have e3' := e3.trans (congrArg (fun d => some (Ob.abs 1 d)) hmv)
    have hd2 := dstring_bs stS e4 hns
    have g7 := (e2.old q6 (by simp [q6, n5]; omega) (by simp [q6]; omega)).trans g6
    have k8 := (k5.trans e2).set g7 (by simp [q6]; omega) (.arr 50 W .own)
    refine ⟨g', _, ?run, hkb, k8, ?k2, k8.bs hw hP hV⟩
    case k2 => rw [Hp.get_set_ne _ _ (by simp [q6]; omega)]; exact e3'
    case run =>
      conv => lhs; whnf
      refine bind_of (cellsAt_of b4 _ _) ?_
      conv => lhs; whnf
      refine bind_of (cellsAt_of b3 _ _) ?_
      conv => lhs; whnf
      refine bind_of (cellsAt_of b4 _ _) ?_
      conv => lhs; whnf
      refine bind_of p1 ?_
      conv => lhs; whnf
      refine bind_of (dstore_of (Hp.get_push_same _ _) (t := 50) (o := 0) (cs' := W) rfl) ?_
      conv => lhs; whnf
      refine bind_of (cellsAt_of g8 _ _) ?_
      conv => lhs; whnf
      refine bind_of (cellsAt_of g5 _ _) ?_
      conv => lhs; whnf
      refine bind_of hd1 ?_
      refine bif_of (all_blk hb1 fun i => rfl) ?_
      subst hV4
      conv => lhs; whnf
      refine bind_of e1 ?_
      conv => lhs; whnf
      refine bind_of hd2 ?_
      refine bif_of (all_blk e4 fun i => rfl) ?_
      conv => lhs; whnf
      rw [beq_self_eq_true]
      conv => lhs; whnf
      rw [e5 hout']
      conv => lhs; whnf
      refine bind_of (dstore_of g7 (t := 50) (o := 0) (cs' := W) rfl) ?_
      conv => lhs; whnf
      refine bind_of (cellsAt_of (A := Hp.set _ q6 (some (.arr 50 W .own))) (i := q6) (Hp.get_set_same _ _ _) 0 3) ?_
      conv => lhs; whnf
      rw [beq_self_eq_true]
      rfl
  | «at» i4 _ _ hg4 _ hp4 =>
    have hi4 := p2.wf.lt hg4
    have hi5 := o4' i4 rfl
    obtain ⟨v17, C, e1, e2, e3, e4, e5, e6⟩ := guarded_move h.toPipeFns k5.wf hP5 (show all.length ≤ _ by omega) hfls hn [i4, A4.next] (fun j hj => by
      simp only [List.mem_cons, List.not_mem_nil, or_false] at hj
      rcases hj with rfl | rfl
      · exact ⟨by omega, by omega⟩
      · exact ⟨by omega, by omega⟩)
    rw [hout'] at e3 e4
    have e3' := e3.trans (congrArg (fun d => some (Ob.abs 1 d)) hmv)
    have hd2 := dstring_bs stS e4 hns
    have g7 := (e2.old q6 (by simp [q6, n5]; omega) (by simp [q6]; omega)).trans g6
    have hne : (pxOf all g ct).fl.take n.toNat ≠ [] := by
      rw [hout']
      intro e
      rw [e] at hol2
      exact hp4 hol2.symm
    obtain ⟨b7, hb7, hb7', hb7''⟩ := e6 hne
    obtain ⟨f1, f2, f3, f4, f5⟩ := guarded_store (o' := .arr 50 W .own) e2.wf g7 [b7, i4] (fun j hj => by
      have := e2.nx
      simp only [List.mem_cons, List.not_mem_nil, or_false] at hj
      rcases hj with rfl | rfl
      · exact ⟨hb7'', by simp [q6]; omega⟩
      · exact ⟨by omega, by simp [q6]; omega⟩)
    have k8 : KP P A (backL (backL A5 (backL A5 C [i4, A4.next]) []) (backL (backL A5 (backL A5 C [i4, A4.next]) []) ((guardL (hideL (backL A5 (backL A5 C [i4, A4.next]) []) []) [b7, i4]).set q6 (some (.arr 50 W .own))) [b7, i4]) []) := by
      have k7 := k5.trans e2
      refine ⟨f2, by rw [f3]; exact k7.nx, fun j hj hjP => ?_⟩
      rw [f5 j (by simp [q6]; omega), k7.old j hj hjP]
    refine ⟨g', _, ?run, hkb, k8, ?k2, k8.bs hw hP hV⟩
    case k2 => rw [f5 _ (by simp [q6]; omega)]; exact e3'
    case run =>
      conv => lhs; whnf
      refine bind_of (cellsAt_of b4 _ _) ?_
      conv => lhs; whnf
      refine bind_of (cellsAt_of b3 _ _) ?_
      conv => lhs; whnf
      refine bind_of (cellsAt_of b4 _ _) ?_
      conv => lhs; whnf
      refine bind_of p1 ?_
      conv => lhs; whnf
      refine bind_of (dstore_of (Hp.get_push_same _ _) (t := 50) (o := 0) (cs' := W) rfl) ?_
      conv => lhs; whnf
      refine bind_of (cellsAt_of g8 _ _) ?_
      conv => lhs; whnf
      refine bind_of (cellsAt_of g5 _ _) ?_
      conv => lhs; whnf
      refine bind_of hd1 ?_
      refine bif_of (all_blk hb1 fun i => rfl) ?_
      subst hV4
      conv => lhs; whnf
      refine bind_of e1 ?_
      conv => lhs; whnf
      refine bind_of hd2 ?_
      refine bif_of (all_blk e4 fun i => rfl) ?_
      conv => lhs; whnf
      rw [beq_self_eq_true]
      conv => lhs; whnf
      rw [hb7]
      conv => lhs; whnf
      refine bind_of (dstore_of f1 (t := 50) (o := 0) (cs' := W) rfl) ?_
      conv => lhs; whnf
      refine bind_of (cellsAt_of f4 0 3) ?_
      conv => lhs; whnf
      rw [beq_self_eq_true]
      rfl
end
end Go.Dn.Pipe
end

section
namespace Go.Dn.Pipe
open Go.Proofs
set_option maxHeartbeats 4000000
set_option maxRecDepth 100000
attribute [local irreducible] Hp.get Hp.set Hp.push dappend dcopy dstore cellsAt callD loopD dstring guardL hideL backL

theorem guarded_same {D : Hp} (hw : D.wf) {q : Nat} {o : Ob} (hq : D.get q = some o) (l : List Nat) (hl : ∀ j ∈ l, j < D.next ∧ j ≠ q) :
    (guardL (hideL D []) l).get q = some o ∧ (backL D (backL D ((guardL (hideL D []) l).set q (some o)) l) []).wf ∧ (backL D (backL D ((guardL (hideL D []) l).set q (some o)) l) []).next = D.next ∧
      ∀ j, (backL D (backL D ((guardL (hideL D []) l).set q (some o)) l) []).get j = D.get j := by
  obtain ⟨f1, f2, f3, f4, f5⟩ := guarded_store (o' := o) hw hq l hl
  refine ⟨f1, f2, f3, fun j => ?_⟩
  by_cases e : j = q
  · subst e; rw [f4, hq]
  · exact f5 j e
theorem guarded_push {D : Hp} (hw : D.wf) (o : Ob) (l : List Nat) (hl : ∀ j ∈ l, j < D.next) :
    (backL D (backL D ((guardL (hideL D []) l).push o) l) []).wf ∧ D.next ≤ (backL D (backL D ((guardL (hideL D []) l).push o) l) []).next ∧
      ∀ j, j < D.next → (backL D (backL D ((guardL (hideL D []) l).push o) l) []).get j = D.get j := by
  obtain ⟨d1, d2, d3, d4⟩ := back_facts (C := (guardL (hideL D []) l).push o) hl ((guard_wf hw l).push o) (by rw [Hp.next_push, guard_next]; omega)
  refine ⟨d1, by rw [d2, Hp.next_push, guard_next]; omega, fun j hj => ?_⟩
  by_cases hm : j ∈ l
  · exact d4 j hm
  · rw [d3 j hm, Hp.get_push_ne _ _ (by rw [guard_next]; omega), guard_get hm]

section
variable {call : CallT} {N : Nat} (h : StepFns call N) {P : Nat} {A : Hp} (hw : A.wf) {all : List Value} {g : Nat} (hg : g ≤ all.length)
include h hw hg

theorem step_cut (lf : Nat) {ct : Bool} (hP : A.get P = some (.abs 1 (pxOf all g ct).dat)) {a a2 : Option Addr} {c c2 m2 : Nat} (hV : BsAt A (.slice a all.length c) all) (n : Int) (hl : all.length ≤ 100000000) :
    ∃ A', kfn Tryd.bk.E call (Tryd.bk.inf 25) lf Tryd.f25 [ptr P, .agg #[.slice a all.length c, .int .i64 g, .bool ct], .agg #[.int .i64 4, .slice a2 m2 c2, .int .i64 n]] A =
      some (.tuple #[.agg #[.slice a all.length c, .int .i64 g, .bool true], .bool true], A') ∧ KP P A A' ∧ A'.get P = some (.abs 1 (pxOf all g true).dat) ∧ BsAt A' (.slice a all.length c) all := by
  obtain ⟨b1, b2, b3, b4, b5⟩ := boxes_ok hw [.slice a all.length c, .int .i64 g, .bool ct] [.int .i64 4, .slice a2 m2 c2, .int .i64 n]
  have hPl := hw.lt hP
  obtain ⟨A4, p1, p2⟩ := h.rbreak a all.length c g ct b1.wf hg (by omega)
  have hP4 : A4.get P = some (.abs 1 (pxOf all g ct).dat) := by rw [p2.old P (by omega), b1.old P hPl]; exact hP
  have hfl : (pxOf all g ct).fl.length = lftOf ct all.length g := by
    unfold pxOf lftOf
    cases ct <;> simp
  have hcut : PX.dat { pxOf all g ct with fl := [], c := true } = (pxOf all g true).dat := rfl
  let W : List Value := [.slice a all.length c, .int .i64 g, .bool true]
  let Z : List Value := [.slice none 0 0, .int .i64 0, .bool false]
  let A5 : Hp := (A4.push (.arr 50 Z .own)).set A4.next (some (.arr 50 W .own))
  let q6 := ((A.push (.arr 50 [.slice a all.length c, .int .i64 g, .bool ct] .own)).push (.arr 54 [.int .i64 4, .slice a2 m2 c2, .int .i64 n] .own)).next
  have hq6 : q6 = A.next + 2 := by simp [q6]
  have k4 : KP P A A4 := (b1.trans p2).toP P
  have k5 : KP P A A5 := (k4.trans ((Kp.push p2.wf _).toP P)).set (Hp.get_push_same _ _) (by have := k4.nx; omega) _
  have n5 : A5.next = A4.next + 1 := by simp [A5]
  have k45 : KP P A4 A5 := ((Kp.push p2.wf (.arr 50 Z .own)).toP P).set (Hp.get_push_same _ _) (Nat.le_refl _) _
  have hlt4 : A.next + 3 ≤ A4.next := by have := p2.nx; omega
  have g6 : A5.get q6 = some (.arr 50 Z .own) := by
    rw [k45.old _ (by omega) (by omega), p2.old _ (by omega)]; exact b5
  have g8 : A5.get A4.next = some (.arr 50 W .own) := Hp.get_set_same _ _ _
  have hP5 : A5.get P = some (.abs 1 (pxOf all g ct).dat) := by rw [Hp.get_set_ne _ _ (by omega), Hp.get_push_ne _ _ (by omega)]; exact hP4
  obtain ⟨f1, f2, f3, f4, f5⟩ := guarded_store (o' := .abs 1 (pxOf all g true).dat) k5.wf hP5 [A4.next] (fun j hj => by
    simp only [List.mem_singleton] at hj
    subst hj
    exact ⟨by omega, by omega⟩)
  have hc := h.cut (CutR.mk _ P _ f1 (show all.length ≤ _ by omega))
  rw [hfl, hcut] at hc
  have g7 := (f5 q6 (by omega)).trans g6
  have k6 : KP P A (backL A5 (backL A5 ((guardL (hideL A5 []) [A4.next]).set P (some (.abs 1 (pxOf all g true).dat))) [A4.next]) []) :=
    ⟨f2, by rw [f3]; exact k5.nx, fun j hj hjP => by rw [f5 j hjP, k5.old j hj hjP]⟩
  have k8 := k6.set g7 (by omega) (.arr 50 W .own)
  refine ⟨_, ?run, k8, ?k2, k8.bs hw hP hV⟩
  case k2 => rw [Hp.get_set_ne _ _ (by omega)]; exact f4
  case run =>
    conv => lhs; whnf
    refine bind_of (cellsAt_of b4 _ _) ?_
    conv => lhs; whnf
    refine bind_of (cellsAt_of b3 _ _) ?_
    conv => lhs; whnf
    refine bind_of p1 ?_
    conv => lhs; whnf
    refine bind_of (dstore_of (Hp.get_push_same _ _) (t := 50) (o := 0) (cs' := W) rfl) ?_
    conv => lhs; whnf
    refine bind_of (cellsAt_of g8 _ _) ?_
    conv => lhs; whnf
    refine bind_of hc ?_
    conv => lhs; whnf
    refine bind_of (dstore_of g7 (t := 50) (o := 0) (cs' := W) rfl) ?_
    conv => lhs; whnf
    refine bind_of (cellsAt_of (A := Hp.set _ q6 (some (.arr 50 W .own))) (i := q6) (Hp.get_set_same _ _ _) 0 3) ?_
    conv => lhs; whnf
    rw [beq_self_eq_true]
    rfl

theorem step_len (lf : Nat) {ct : Bool} (hP : A.get P = some (.abs 1 (pxOf all g ct).dat)) {a a2 : Option Addr} {c c2 m2 : Nat} (hV : BsAt A (.slice a all.length c) all) (n : Int) (hl : all.length ≤ 100000000) :
    ∃ A', kfn Tryd.bk.E call (Tryd.bk.inf 25) lf Tryd.f25 [ptr P, .agg #[.slice a all.length c, .int .i64 g, .bool ct], .agg #[.int .i64 3, .slice a2 m2 c2, .int .i64 n]] A =
      some (.tuple #[.agg #[.slice a all.length c, .int .i64 g, .bool ct], .bool true], A') ∧ KP P A A' ∧ A'.get P = some (.abs 1 (pxOf all g ct).dat) ∧ BsAt A' (.slice a all.length c) all := by
  obtain ⟨b1, b2, b3, b4, b5⟩ := boxes_ok hw [.slice a all.length c, .int .i64 g, .bool ct] [.int .i64 3, .slice a2 m2 c2, .int .i64 n]
  have hPl := hw.lt hP
  let A3 : Hp := boxes A [.slice a all.length c, .int .i64 g, .bool ct] [.int .i64 3, .slice a2 m2 c2, .int .i64 n]
  have hP3 : A3.get P = some (.abs 1 (pxOf all g ct).dat) := by rw [b1.old P hPl]; exact hP
  have hfl : (pxOf all g ct).fl.length = lftOf ct all.length g := by
    unfold pxOf lftOf
    cases ct <;> simp
  let q6 := ((A.push (.arr 50 [.slice a all.length c, .int .i64 g, .bool ct] .own)).push (.arr 54 [.int .i64 3, .slice a2 m2 c2, .int .i64 n] .own)).next
  have hq6 : q6 = A.next + 2 := by simp [q6]
  have hlen : ∀ B : Hp, B.get P = some (.abs 1 (pxOf all g ct).dat) → call 16 [ptr P] B = some (.int .i64 (lftOf ct all.length g : Nat), B.set P (some (.abs 1 (pxOf all g ct).dat))) := fun B hB => by
    have := h.len (LenR.mk B P _ hB (show all.length ≤ _ by omega))
    rw [hfl] at this
    exact this
  have hpas : ∀ B : Hp, B.get P = some (.abs 1 (pxOf all g ct).dat) → call 18 [ptr P] B = some (.int .u64 (g : Nat), B.set P (some (.abs 1 (pxOf all g ct).dat))) := fun B hB => h.passed (PassedR.mk B P _ hB)
  have hbro : ∀ B : Hp, B.get P = some (.abs 1 (pxOf all g ct).dat) → call 19 [ptr P] B = some (.bool ct, B.set P (some (.abs 1 (pxOf all g ct).dat))) := fun B hB => h.broken (BrokenR.mk B P _ hB)
  obtain ⟨s1, s2, s3, s4⟩ := guarded_same b1.wf hP3 [A.next, A.next] (fun j hj => by
    simp only [List.mem_cons, List.not_mem_nil, or_false, or_self] at hj
    subst hj
    exact ⟨by omega, by omega⟩)
  let D1 : Hp := backL A3 (backL A3 ((guardL (hideL A3 []) [A.next, A.next]).set P (some (.abs 1 (pxOf all g ct).dat))) [A.next, A.next]) []
  let D2 : Hp := backL D1 (backL D1 ((guardL (hideL D1 []) [A.next]).push (.arr 50 [.slice a all.length c, .int .i64 g, .bool ct] .own)) [A.next]) []
  have hA3n : A3.next = A.next + 3 := b2
  obtain ⟨t1, t2, t3⟩ := guarded_push (D := D1) s2 (.arr 50 [.slice a all.length c, .int .i64 g, .bool ct] .own) [A.next] (fun j hj => by
    simp only [List.mem_singleton] at hj
    subst hj
    show _ < D1.next
    rw [show D1.next = A3.next from s3]
    omega)
  have o2 : ∀ j, j < A.next + 3 → D2.get j = A3.get j := fun j hj => by
    rw [t3 j (by rw [s3]; omega), s4]
  have c2' : D2.get A.next = some (.arr 50 [.slice a all.length c, .int .i64 g, .bool ct] .own) := (o2 _ (by omega)).trans b3
  have hn2 : A.next + 3 ≤ D2.next := by
    have h1 : D1.next = A3.next := s3
    have h2 : D1.next ≤ D2.next := t2
    omega
  have hP2 : D2.get P = some (.abs 1 (pxOf all g ct).dat) := (o2 P (by omega)).trans hP3
  have hwg : IntKind.u64.wrap (g : Int) = (g : Int) := wrapu (by omega)
  obtain ⟨v1, v2, v3, v4⟩ := guarded_same (D := D2) t1 hP2 [A.next, A.next] (fun j hj => by
    simp only [List.mem_cons, List.not_mem_nil, or_false, or_self] at hj
    subst hj
    exact ⟨by omega, by omega⟩)
  let D3 : Hp := backL D2 (backL D2 ((guardL (hideL D2 []) [A.next, A.next]).set P (some (.abs 1 (pxOf all g ct).dat))) [A.next, A.next]) []
  have c3' : D3.get A.next = some (.arr 50 [.slice a all.length c, .int .i64 g, .bool ct] .own) := (v4 _).trans c2'
  obtain ⟨x1, x2, x3, x4⟩ := guarded_same (D := D3) v2 ((v4 P).trans hP2) [A.next, A.next] (fun j hj => by
    have : D3.next = D2.next := v3
    simp only [List.mem_cons, List.not_mem_nil, or_false, or_self] at hj
    subst hj
    exact ⟨by omega, by omega⟩)
  let D4 : Hp := backL D3 (backL D3 ((guardL (hideL D3 []) [A.next, A.next]).set P (some (.abs 1 (pxOf all g ct).dat))) [A.next, A.next]) []
  have o4 : ∀ j, j < A.next + 3 → D4.get j = A3.get j := fun j hj => (x4 j).trans ((v4 j).trans (o2 j hj))
  have n4 : D4.next = D2.next := x3.trans v3
  have c4' : D4.get q6 = some (.arr 50 [.slice none 0 0, .int .i64 0, .bool false] .own) := (o4 _ (by omega)).trans b5
  have k4 : KP P A D4 := ⟨x2, by rw [n4]; omega, fun j hj hjP => (o4 j (by omega)).trans (b1.old j hj)⟩
  obtain ⟨y1, y2, y3, y4, y5⟩ := guarded_store (D := D4) (o' := .arr 50 [.slice a all.length c, .int .i64 g, .bool ct] .own) x2 c4' [A.next] (fun j hj => by
    simp only [List.mem_cons, List.not_mem_nil, or_false, or_self] at hj
    subst hj
    exact ⟨by omega, by omega⟩)
  let D5 : Hp := backL D4 (backL D4 ((guardL (hideL D4 []) [A.next]).set q6 (some (.arr 50 [.slice a all.length c, .int .i64 g, .bool ct] .own))) [A.next]) []
  have k8 : KP P A D5 := ⟨y2, by rw [show D5.next = D4.next from y3]; exact k4.nx, fun j hj hjP => (y5 j (by omega)).trans (k4.old j hj hjP)⟩
  refine ⟨D5, ?run, k8, (y5 P (by omega)).trans ((o4 P (by omega)).trans hP3), k8.bs hw hP hV⟩
  case run =>
    conv => lhs; whnf
    refine bind_of (cellsAt_of b4 _ _) ?_
    conv => lhs; whnf
    refine bind_of (cellsAt_of b3 _ _) ?_
    conv => lhs; whnf
    refine bind_of (cellsAt_of b3 _ _) ?_
    conv => lhs; whnf
    refine bind_of (hlen _ s1) ?_
    conv => lhs; whnf
    refine bind_of (h.left _ a all.length c g ct hg (by omega)) ?_
    conv => lhs; whnf
    rw [beq_self_eq_true]
    conv => lhs; whnf
    refine bind_of (cellsAt_of c2' _ _) ?_
    conv => lhs; whnf
    refine bind_of (hpas _ v1) ?_
    conv => lhs; whnf
    rw [hwg, beq_self_eq_true]
    conv => lhs; whnf
    refine bind_of (cellsAt_of c3' _ _) ?_
    conv => lhs; whnf
    refine bind_of (hbro _ x1) ?_
    conv => lhs; whnf
    refine bind_of (dstore_of y1 (t := 50) (o := 0) (cs' := [.slice a all.length c, .int .i64 g, .bool ct]) rfl) ?_
    conv => lhs; whnf
    refine bind_of (cellsAt_of y4 0 3) ?_
    conv => lhs; whnf
    rw [beq_self_eq_true]
    rfl
end
end Go.Dn.Pipe
end

section
/-
  'step', whatever the op; the functions known
-/
namespace Go.Dn.Pipe
open Go.Proofs
set_option maxHeartbeats 4000000
set_option maxRecDepth 100000
attribute [local irreducible] Hp.get Hp.set Hp.push dappend dcopy dstore cellsAt callD loopD dstring

/-- the document's pipe as a value, and the pipe beside it -/
structure PW (P : Nat) (all : List Value) (g : Nat) (ct : Bool) (V : Value) (A : Hp) : Prop where
  form : ∃ a c, V = .slice a all.length c
  bs : BsAt A V all
  typ : Typ5 A V
  bytes : IsB all
  gl : g ≤ all.length
  pipe : A.get P = some (.abs 1 (pxOf all g ct).dat)

def StepOK (call : CallT) (N : Nat) : Prop := ∀ {P : Nat} {A : Hp} {all : List Value} {g : Nat} {ct : Bool} {V : Value}, A.wf → PW P all g ct V A → ∀ {a2 : Option Addr} {c2 : Nat} {us : List Value} (k n : Int), IsB us → BsAt A (.slice a2 us.length c2) us → n ≤ 9223372036854775807 →
  all.length + us.length ≤ 100000000 → all.length + us.length < N →
  ∃ all' g' ct' V' A', call 25 [ptr P, .agg #[V, .int .i64 g, .bool ct], .agg #[.int .i64 k, .slice a2 us.length c2, .int .i64 n]] A = some (.tuple #[.agg #[V', .int .i64 (g' : Nat), .bool ct'], .bool true], A') ∧
    KP P A A' ∧ PW P all' g' ct' V' A' ∧ all'.length ≤ all.length + us.length

def LenOK (call : CallT) : Prop := ∀ {P : Nat} {A : Hp} {all : List Value} {g : Nat} {ct : Bool} {V : Value}, A.wf → PW P all g ct V A → all.length ≤ 100000000 →
  ∃ A', call 25 [ptr P, .agg #[V, .int .i64 g, .bool ct], .agg #[.int .i64 3, .slice none 0 0, .int .i64 0]] A = some (.tuple #[.agg #[V, .int .i64 g, .bool ct], .bool true], A') ∧ KP P A A' ∧ PW P all g ct V A'

theorem len_ok {call call2 : CallT} {N : Nat} (h : StepFns call N) (lf : Nat) (h25 : ∀ args A r, kfn Tryd.bk.E call (Tryd.bk.inf 25) lf Tryd.f25 args A = some r → call2 25 args A = some r) : LenOK call2 := by
  intro P A all g ct V hw hI hl
  obtain ⟨a, c, rfl⟩ := hI.form
  obtain ⟨A', r1, r2, r3, r4⟩ := step_len h hw hI.gl lf (a2 := none) (c2 := 0) (m2 := 0) hI.pipe hI.bs 0 (by omega)
  exact ⟨A', h25 _ _ _ r1, r2, ⟨⟨a, c, rfl⟩, r4, r2.typ hw hI.pipe hI.typ, hI.bytes, hI.gl, r3⟩⟩

theorem step_ok {call call2 : CallT} {N : Nat} (h : StepFns call N) (lf : Nat) (h25 : ∀ args A r, kfn Tryd.bk.E call (Tryd.bk.inf 25) lf Tryd.f25 args A = some r → call2 25 args A = some r) : StepOK call2 N := by
  intro P A all g ct V hw hI a2 c2 us k n hus hB hn hl hN
  obtain ⟨a, c, rfl⟩ := hI.form
  by_cases h1 : k = 1
  · subst h1
    cases ct with
    | true =>
      obtain ⟨A', r1, r2, r3, r4⟩ := step_put_cut h hw lf hI.pipe hI.bs hus hB n (by omega)
      exact ⟨all, g, true, _, A', h25 _ _ _ r1, r2, ⟨⟨a, c, rfl⟩, r4, r2.typ hw hI.pipe hI.typ, hI.bytes, hI.gl, r3⟩, by omega⟩
    | false =>
      obtain ⟨V', A', r1, r2, r3, r4, r5⟩ := step_put h hw hI.bytes hI.gl lf hI.pipe hI.bs hus hB n hl hN
      have hgl := hI.gl
      refine ⟨all ++ us, g, false, V', A', h25 _ _ _ r1, r2, ⟨r4.form, r4, r5, hI.bytes.append hus, by rw [List.length_append]; omega, r3⟩, by rw [List.length_append]; exact Nat.le_refl _⟩
  · by_cases h2 : k = 2
    · subst h2
      obtain ⟨g', A', r1, r2, r3, r4, r5⟩ := step_move h hw hI.bytes hI.gl lf hI.pipe hI.bs n hn (by omega) (by omega)
      exact ⟨all, g', ct, _, A', h25 _ _ _ r1, r3, ⟨⟨a, c, rfl⟩, r5, r3.typ hw hI.pipe hI.typ, hI.bytes, r2, r4⟩, by omega⟩
    · by_cases h3 : k = 3
      · subst h3
        obtain ⟨A', r1, r2, r3, r4⟩ := step_len h hw hI.gl lf hI.pipe hI.bs n (by omega)
        exact ⟨all, g, ct, _, A', h25 _ _ _ r1, r2, ⟨⟨a, c, rfl⟩, r4, r2.typ hw hI.pipe hI.typ, hI.bytes, hI.gl, r3⟩, by omega⟩
      · by_cases h4 : k = 4
        · subst h4
          obtain ⟨A', r1, r2, r3, r4⟩ := step_cut h hw hI.gl lf hI.pipe hI.bs n (by omega)
          exact ⟨all, g, true, _, A', h25 _ _ _ r1, r2, ⟨⟨a, c, rfl⟩, r4, r2.typ hw hI.pipe hI.typ, hI.bytes, hI.gl, r3⟩, by omega⟩
        · obtain ⟨A', r1, r2, r3, r4⟩ := step_none hw lf hI.pipe hI.bs k n h1 h2 h3 h4
          exact ⟨all, g, ct, _, A', h25 _ _ _ r1, r2, ⟨⟨a, c, rfl⟩, r4, r2.typ hw hI.pipe hI.typ, hI.bytes, hI.gl, r3⟩, by omega⟩

theorem T4_fns {base : CallT} (hw : ∀ A, base 12 [] A = some (.bool true, A)) (h0 : ∀ A, base 27 [.nilIface] A = some (.int .i64 0, A)) (h27 : ∀ A, base 27 [cutIf] A = some (.int .i64 27, A))
    (hn : ∀ f args A, f ∈ [15, 28, 30, 57, 58] → base f args A = none) (n : Nat) : StepFns (callD Tryd.bk (T4 base) (n + 2)) (n + 1) := by
  have left : ∀ k, LeftOK (callD Tryd.bk (T4 base) (k + 1)) := fun k A a m c g ct hg hm => callD_of (hn 57 _ _ (by simp)) (fn := Tryd.f57) rfl (left_walk k A a m c g ct hg hm)
  have p1 : PipeFns (callD Tryd.bk (T4 base) (n + 2)) := by
    refine ⟨fun A => callD_base (show T4 base 12 [] A = _ from hw A) _, fun h => callD_base ?_ _, fun h => callD_base ?_ _, fun hw' hx hl => callD_of (hn 15 _ _ (by simp)) (fn := Tryd.f15) rfl (copied_exact _ hw' hx hl), fun h => callD_base ?_ _, fun h => callD_base ?_ _, fun h => callD_base ?_ _, fun h => callD_base ?_ _⟩
    · exact byRel_of h fun r' h' => h.one h'
    · exact byRel_of (PutR2.put h) fun r' h' => (PutR2.put h).one h'
    · exact byRel_of h fun r' h' => h.one h'
    · exact byRel_of h fun r' h' => h.one h'
    · exact byRel_of h fun r' h' => h.one h'
    · exact byRel_of h fun r' h' => h.one h'
  refine ⟨p1, fun h => callD_base ?_ _, fun h => callD_base ?_ _, fun A => callD_base (show T4 base 27 _ A = _ from h0 A) _, fun A => callD_base (show T4 base 27 _ A = _ from h27 A) _, left _, fun hw hV hall hb hus hl hlf => ?_, fun b hw => ?_, fun n' hw hV hall hg hm hlf => ?_, fun a m c g ct hw hg hm => ?_⟩
  · exact byRel_of h fun r' h' => h.one h'
  · exact byRel_of h fun r' h' => h.one h'
  · obtain ⟨V', A', r1, r2⟩ := refput_walk (call := callD Tryd.bk (T4 base) (n + 1)) (n + 1) hw hV hall hb hus hl hlf
    exact ⟨V', A', callD_of (hn 28 _ _ (by simp)) (fn := Tryd.f28) rfl r1, r2⟩
  · obtain ⟨A', r1, r2⟩ := refput_cut (call := callD Tryd.bk (T4 base) (n + 1)) (n + 1) hw b
    exact ⟨A', callD_of (hn 28 _ _ (by simp)) (fn := Tryd.f28) rfl r1, r2⟩
  · obtain ⟨V', A', r1, r2⟩ := refmove_walk (left n) (n + 1) hw _ _ _ _ hV hall hg hm n' hlf
    exact ⟨V', A', callD_of (hn 30 _ _ (by simp)) (fn := Tryd.f30) rfl r1, r2⟩
  · obtain ⟨A', r1, r2⟩ := break_walk (left n) (n + 1) hw a m c g ct hg hm
    exact ⟨A', callD_of (hn 58 _ _ (by simp)) (fn := Tryd.f58) rfl r1, r2⟩
end Go.Dn.Pipe
end

section
/-
  'PipePlays', run
-/
namespace Go.Dn.Pipe
open Go.Proofs
set_option maxHeartbeats 4000000
set_option maxRecDepth 100000
attribute [local irreducible] Hp.get Hp.set Hp.push dappend dcopy dstore cellsAt callD loopD dstring guardL hideL backL

/-- one op of a script -/
structure OpX where
  k : Int
  us : List Value
  a : Option Addr
  c : Nat
  n : Int
def OpX.cells (o : OpX) : List Value := [.int .i64 o.k, .slice o.a o.us.length o.c, .int .i64 o.n]
structure OpX.ok (A : Hp) (o : OpX) : Prop where
  bs : BsAt A (.slice o.a o.us.length o.c) o.us
  bytes : IsB o.us
  nb : o.n ≤ 9223372036854775807
def sumL (ops : List OpX) : Nat := (ops.map fun o => o.us.length).sum

/-- a call while a new object is hidden, and back -/
theorem hidden_call {P : Nat} {A : Hp} (hw : A.wf) (hP : P < A.next) (ob : Ob) :
    (guardL (hideL (A.push ob) [A.next]) []).wf ∧ (guardL (hideL (A.push ob) [A.next]) []).next = A.next + 1 ∧ KP P A (guardL (hideL (A.push ob) [A.next]) []) ∧ (guardL (hideL (A.push ob) [A.next]) []).get P = A.get P ∧
      ∀ B', KP P (guardL (hideL (A.push ob) [A.next]) []) B' → KP P A (backL (A.push ob) (backL (A.push ob) B' []) [A.next]) ∧ (backL (A.push ob) (backL (A.push ob) B' []) [A.next]).get P = B'.get P ∧
        (backL (A.push ob) (backL (A.push ob) B' []) [A.next]).get A.next = some ob ∧ (∀ V us, BsAt B' V us → BsAt (backL (A.push ob) (backL (A.push ob) B' []) [A.next]) V us) ∧ ∀ V, Typ5 B' V → Typ5 (backL (A.push ob) (backL (A.push ob) B' []) [A.next]) V := by
  have hget : ∀ j, (guardL (hideL (A.push ob) [A.next]) []).get j = if j = A.next then none else (A.push ob).get j := by
    intro j
    rw [guardL_get, if_neg List.not_mem_nil, hideL_get]
    simp
  have hnx : (guardL (hideL (A.push ob) [A.next]) []).next = A.next + 1 := by rw [guardL_next, hideL_next, Hp.next_push]
  have hold : ∀ j, j < A.next → (guardL (hideL (A.push ob) [A.next]) []).get j = A.get j := fun j hj => by
    rw [hget, if_neg (by omega), Hp.get_push_ne _ _ (by omega)]
  have hwf : (guardL (hideL (A.push ob) [A.next]) []).wf := by
    intro j hj
    rw [hnx] at hj
    rw [hget]
    split
    · rfl
    · exact (hw.push ob) j (by simp; omega)
  refine ⟨hwf, hnx, ⟨hwf, by omega, fun j hj _ => hold j hj⟩, hold P hP, fun B' hk => ?_⟩
  have hback : ∀ j, (backL (A.push ob) (backL (A.push ob) B' []) [A.next]).get j = if j = A.next then some ob else B'.get j := by
    intro j
    rw [backL_get, backL_get, if_neg List.not_mem_nil]
    by_cases e : j = A.next
    · subst e; simp [Hp.get_push_same]
    · simp [e]
  have hbn : (backL (A.push ob) (backL (A.push ob) B' []) [A.next]).next = B'.next := by rw [backL_next, backL_next]
  have hBn := hk.nx
  rw [hnx] at hBn
  have hno : B'.get A.next = none := by
    rw [hk.old A.next (by omega) (by omega), hget, if_pos rfl]
  refine ⟨⟨fun j hj => ?_, by rw [hbn]; omega, fun j hj hjP => ?_⟩, ?_, ?_, fun V us hV => ?_, fun V hV => ?_⟩
  · rw [hbn] at hj
    rw [hback, if_neg (by omega)]
    exact hk.wf j hj
  · rw [hback, if_neg (by omega), hk.old j (by omega) hjP, hold j hj]
  · rw [hback, if_neg (by omega)]
  · rw [hback, if_pos rfl]
  · refine hV.keep fun j o hj _ => ?_
    rw [hback, if_neg]
    rintro rfl
    rw [hno] at hj
    cases hj
  · refine hV.keep fun j cs md hj => ?_
    rw [hback, if_neg]
    rintro rfl
    rw [hno] at hj
    cases hj

section
variable {call : CallT} {N : Nat} (hS : StepOK call N) (hL : LenOK call) {A0 : Hp} {P : Nat} (hPl : P < A0.next) (hw0 : A0.wf) {ops : List OpX} (hops : ∀ o ∈ ops, o.ok A0) {ib : Nat} (hib : A0.get ib = some (.arr 54 (ops.map OpX.cells).flatten .sh)) (hibP : ib ≠ P) {X : Dat} (hP0 : A0.get P = some (.abs 1 X))
include hS hL hPl hw0 hops hib hibP hP0

theorem plays_round (lf : Nat) {A : Hp} {all : List Value} {g : Nat} {ct : Bool} {V : Value} {c : Nat} {i : Nat} (hk : KP P A0 A) (hI : PW P all g ct V A) (hq : A.get A0.next = some (.arr 50 [V, .int .i64 g, .bool ct] .own)) (hi : i < ops.length) (hm : ops.length ≤ 1048576) (hb : all.length + sumL (ops.drop i) ≤ 100000000) (hN : all.length + sumL (ops.drop i) < N) :
    ∃ σ1 A1 all' g' ct' V', exec Tryd.bk.E call Tryd.f5.ntmps (Tryd.bk.inf 5) lf (loopOf Tryd.f5 0) [(0, .slice (some ⟨ib, 0, some 3⟩) ops.length c), (2, .bool false), (3, ptr P), (4, ptr A0.next), (5, .int .i64 (i : Nat))] A = some (.normal, σ1, A1) ∧
      keepSl (some [0, 2, 3, 4, 5]) σ1 = [(0, .slice (some ⟨ib, 0, some 3⟩) ops.length c), (2, .bool false), (3, ptr P), (4, ptr A0.next), (5, .int .i64 (i + 1 : Nat))] ∧ KP P A0 A1 ∧ PW P all' g' ct' V' A1 ∧ A1.get A0.next = some (.arr 50 [V', .int .i64 g', .bool ct'] .own) ∧
      all'.length + sumL (ops.drop (i + 1)) ≤ all.length + sumL (ops.drop i) := by
  obtain ⟨o, ho⟩ : ∃ o, ops[i]? = some o := ⟨_, List.getElem?_eq_getElem hi⟩
  have hok := hops o (List.mem_of_getElem? ho)
  have hgi : A.get ib = some (.arr 54 (ops.map OpX.cells).flatten .sh) := by rw [hk.old ib (hw0.lt hib) hibP]; exact hib
  obtain ⟨f1, f2⟩ := flat_row (css := ops.map OpX.cells) (sz := 3) (fun k c hc => by
    rw [List.getElem?_map] at hc
    cases hh : ops[k]? with
    | none => rw [hh] at hc; cases hc
    | some x => rw [hh] at hc; cases hc; rfl) i o.cells (by rw [List.getElem?_map, ho]; rfl)
  have hcell : cellsIn (ops.map OpX.cells).flatten (0 + i * 3) 3 = some o.cells := cellsIn_of (by omega) (by rw [Nat.zero_add]; exact f2)
  have e1 : ((i : Nat) : Int) < ((ops.length : Nat) : Int) := by omega
  obtain ⟨k, us, a2, c2, n⟩ := o
  have hsum : sumL (ops.drop i) = us.length + sumL (ops.drop (i + 1)) := by
    rw [List.drop_eq_getElem_cons hi]
    have : ops[i] = ⟨k, us, a2, c2, n⟩ := by
      rw [List.getElem?_eq_getElem hi] at ho
      exact Option.some.inj ho
    rw [this]
    rfl
  have hPA : P < A.next := by have := hk.nx; omega
  have hqA : A0.next < A.next := hk.wf.lt hq
  have hokB : IsB us := hok.bytes
  have hokn : n ≤ 9223372036854775807 := hok.nb
  let Z : Ob := .arr 50 [.slice none 0 0, .int .i64 0, .bool false] .own
  let B : Hp := guardL (hideL (A.push Z) [A.next]) []
  obtain ⟨x1, x2, x3, x4, x5⟩ := hidden_call hk.wf hPA Z
  have kB : KP P A0 B := hk.trans x3
  have hBu : BsAt B (.slice a2 us.length c2) us := kB.bs hw0 hP0 hok.bs
  obtain ⟨all1, g1, ct1, V1, B1, s1, s2, s3, s4⟩ := hS x1 ⟨hI.form, x3.bs hk.wf hI.pipe hI.bs, x3.typ hk.wf hI.pipe hI.typ, hI.bytes, hI.gl, x4.trans hI.pipe⟩ k n hokB hBu hokn (by omega) (by omega)
  obtain ⟨y1, y2, y3, y4, y5⟩ := x5 B1 s2
  obtain ⟨av, cv, rfl⟩ := s3.form
  let D : Hp := backL (A.push Z) (backL (A.push Z) B1 []) [A.next]
  let W : List Value := [.slice av all1.length cv, .int .i64 g1, .bool ct1]
  let E1 : Hp := D.set A.next (some (.arr 50 W .own))
  let E2 : Hp := E1.set A0.next (some (.arr 50 W .own))
  have hqD : D.get A0.next = some (.arr 50 [V, .int .i64 g, .bool ct] .own) := by rw [y1.old _ hqA (by omega)]; exact hq
  have hqE1 : E1.get A0.next = some (.arr 50 [V, .int .i64 g, .bool ct] .own) := by rw [Hp.get_set_ne _ _ (by omega)]; exact hqD
  have hE1w : E1.wf := y1.wf.put y3 _
  have hE2w : E2.wf := hE1w.put hqE1 _
  have hVD := y4 _ _ s3.bs
  have hTD := y5 _ s3.typ
  have hVE1 := hVD.set5 hTD (q := A.next) (fun cs md e => by rw [y3] at e; simp [Z] at e) (some (.arr 50 W .own))
  have hTE1 := hTD.set5 (q := A.next) (fun cs md e => by rw [y3] at e; simp [Z] at e) (some (.arr 50 W .own))
  have hVE2 := hVE1.set5 hTE1 (q := A0.next) (fun cs md e => by rw [hqE1] at e; cases e) (some (.arr 50 W .own))
  have hTE2 := hTE1.set5 (q := A0.next) (fun cs md e => by rw [hqE1] at e; cases e) (some (.arr 50 W .own))
  have hPE2 : E2.get P = some (.abs 1 (pxOf all1 g1 ct1).dat) := by
    rw [Hp.get_set_ne _ _ (by omega), Hp.get_set_ne _ _ (by omega), y2]; exact s3.pipe
  have kE2 : KP P A0 E2 := ((hk.trans y1).set y3 (by omega) _).set hqE1 (Nat.le_refl _) _
  obtain ⟨F1, u1, u2, u3⟩ := hL hE2w ⟨⟨av, cv, rfl⟩, hVE2, hTE2, s3.bytes, s3.gl, hPE2⟩ (by omega)
  have kF : KP P A0 F1 := kE2.trans u2
  have hDn : A.next ≤ D.next := y1.nx
  have n2 : E2.next = D.next := by simp [E2, E1]
  have hqF : F1.get A0.next = some (.arr 50 W .own) := by rw [u2.old _ (by rw [n2]; omega) (by omega)]; exact Hp.get_set_same _ _ _
  let G : Hp := (F1.push Z).set F1.next (some (.arr 50 W .own))
  have kG : KP P A0 G := (kF.trans ((Kp.push u2.wf Z).toP P)).set (Hp.get_push_same _ _) kF.nx _
  have oG : ∀ j, j < F1.next → G.get j = F1.get j := fun j hj => by
    rw [Hp.get_set_ne _ _ (by omega), Hp.get_push_ne _ _ (by omega)]
  have hw2 : IntKind.i64.wrap ((i : Int) + 1) = ((i + 1 : Nat) : Int) := by rw [wrap64 (by omega) (by omega)]; omega
  have hqFl := u2.wf.lt hqF
  refine ⟨?s, G, all1, g1, ct1, .slice av all1.length cv, kexec_run ?run, ?kp, kG, ⟨⟨av, cv, rfl⟩, u3.bs.old u2.wf oG, u3.typ.keep fun j cs md hg => oG j (u2.wf.lt hg), s3.bytes, s3.gl, (oG P (by omega)).trans u3.pipe⟩, (oG _ hqFl).trans hqF, by omega⟩
  case run =>
    conv => lhs; whnf
    rw [kdec e1]
    conv => lhs; whnf
    refine bind_of (cellsAt_of hq _ _) ?_
    conv => lhs; whnf
    rw [kdec e1]
    conv => lhs; whnf
    refine bind_of ((cellsAt_of hgi _ _).trans hcell) ?_
    conv => lhs; whnf
    refine bind_of s1 ?_
    conv => lhs; whnf
    refine bind_of (dstore_of y3 (t := 50) (o := 0) (cs' := W) rfl) ?_
    conv => lhs; whnf
    refine bind_of (cellsAt_of (A := E1) (i := A.next) (Hp.get_set_same _ _ _) 0 3) ?_
    conv => lhs; whnf
    refine bind_of (dstore_of hqE1 (t := 50) (o := 0) (cs' := W) rfl) ?_
    conv => lhs; whnf
    refine bind_of (cellsAt_of (A := E2) (i := A0.next) (Hp.get_set_same _ _ _) 0 3) ?_
    conv => lhs; whnf
    refine bind_of u1 ?_
    conv => lhs; whnf
    refine bind_of (dstore_of (Hp.get_push_same _ _) (t := 50) (o := 0) (cs' := W) rfl) ?_
    conv => lhs; whnf
    rfl
  case kp =>
    show [_, _, _, _, (5, Value.int .i64 (IntKind.i64.wrap ((i : Int) + 1)))] = _
    rw [hw2]

structure PS where
  i : Nat
  all : List Value
  g : Nat
  ct : Bool
  v : Value

omit hS hL hPl hw0 hops hib hibP hP0 in
theorem plays_end (lf : Nat) {A : Hp} (a : Option Addr) (m c i : Nat) (V3 V4 : Value) (hi : ¬ i < m) :
    ∃ σ1, exec Tryd.bk.E call Tryd.f5.ntmps (Tryd.bk.inf 5) lf (loopOf Tryd.f5 0) [(0, .slice a m c), (2, .bool false), (3, V3), (4, V4), (5, .int .i64 (i : Nat))] A = some (.exit 0, σ1, A) ∧
      keepSl (some [0, 2, 3, 4, 5]) σ1 = [(0, .slice a m c), (2, .bool false), (3, V3), (4, V4), (5, .int .i64 (i : Nat))] := by
  have e1 : ¬ ((i : Nat) : Int) < ((m : Nat) : Int) := by omega
  refine ⟨?s, kexec_run ?run, ?kp⟩
  case run =>
    conv => lhs; whnf
    rw [kdecn e1]
  case kp => rfl

theorem plays_loop (lf : Nat) {A : Hp} {c : Nat} {V : Value} (hk : KP P A0 A) (hI : PW P [] 0 false V A) (hq : A.get A0.next = some (.arr 50 [V, .int .i64 ((0 : Nat) : Int), .bool false] .own)) (hm : ops.length ≤ 1048576) (hb : sumL ops ≤ 100000000) (hN : sumL ops < N) (hlf : ops.length < lf) :
    ∃ A1 V5, loopD (some [0, 2, 3, 4, 5]) (exec Tryd.bk.E call Tryd.f5.ntmps (Tryd.bk.inf 5) lf (loopOf Tryd.f5 0)) lf [(0, .slice (some ⟨ib, 0, some 3⟩) ops.length c), (2, .bool false), (3, ptr P), (4, ptr A0.next), (5, .int .i64 ((0 : Nat) : Int))] A =
      some (.exit 0, [(0, .slice (some ⟨ib, 0, some 3⟩) ops.length c), (2, .bool false), (3, ptr P), (4, ptr A0.next), (5, V5)], A1) := by
  have key := loop_rule (ks := some [0, 2, 3, 4, 5]) (f := exec Tryd.bk.E call Tryd.f5.ntmps (Tryd.bk.inf 5) lf (loopOf Tryd.f5 0)) (S := PS)
    (fun s => [(0, .slice (some ⟨ib, 0, some 3⟩) ops.length c), (2, .bool false), (3, ptr P), (4, ptr A0.next), (5, .int .i64 (s.i : Nat))])
    (fun s A => s.i ≤ ops.length ∧ KP P A0 A ∧ PW P s.all s.g s.ct s.v A ∧ A.get A0.next = some (.arr 50 [s.v, .int .i64 s.g, .bool s.ct] .own) ∧ s.all.length + sumL (ops.drop s.i) ≤ sumL ops) (fun s => ops.length - s.i)
    (fun e σ A1 => e = .exit 0 ∧ ∃ V5, σ = [(0, .slice (some ⟨ib, 0, some 3⟩) ops.length c), (2, .bool false), (3, ptr P), (4, ptr A0.next), (5, V5)]) (fun s A hs => ?_)
    lf ⟨0, [], 0, false, V⟩ A ⟨Nat.zero_le _, hk, hI, hq, by simp⟩ (by simp only; omega)
  · obtain ⟨e, σ1, A1, k1, rfl, V5, rfl⟩ := key
    exact ⟨A1, V5, k1⟩
  · obtain ⟨i, all, g, ct, v⟩ := s
    obtain ⟨z1, z2, z3, z4, z5⟩ := hs
    simp only at z1 z2 z3 z4 z5 ⊢
    by_cases him : i < ops.length
    · obtain ⟨σ1, A1, all', g', ct', V', r1, r2, r3, r4, r5, r6⟩ := plays_round hS hL hPl hw0 hops hib hibP hP0 lf (c := c) z2 z3 z4 him hm (by omega) (by omega)
      exact ⟨.normal, σ1, A1, r1, .inl ⟨rfl, ⟨i + 1, all', g', ct', V'⟩, r2, ⟨him, r3, r4, r5, by simp only; omega⟩, by simp only; omega⟩⟩
    · obtain ⟨σ1, r1, r2⟩ := plays_end (call := call) lf (A := A) (some ⟨ib, 0, some 3⟩) ops.length c i (ptr P) (ptr A0.next) him
      exact ⟨.exit 0, σ1, A, r1, .inr ⟨by simp, rfl, _, r2⟩⟩
end

theorem loop_out {ks : Option (List Nat)} {f : Sl → Hp → Option (Ex × Sl × Hp)} {n : Nat} {σ σ1 : Sl} {A A1 : Hp} {e : Ex} (h : f σ A = some (e, σ1, A1)) (he : e ≠ .normal) (hn : 0 < n) : loopD ks f n σ A = some (e, keepSl ks σ1, A1) := by
  obtain ⟨m, rfl⟩ : ∃ m, n = m + 1 := ⟨n - 1, by omega⟩
  exact loopD_out h he

theorem plays_walk {call : CallT} {N : Nat} (hp : PipeFns call) (hS : StepOK call N) (hL : LenOK call) {A : Hp} (hw : A.wf) {ops : List OpX} (hops : ∀ o ∈ ops, o.ok A) {a : Option Addr} {c : Nat} (hv : ArgSl 54 3 A (.slice a ops.length c) (ops.map OpX.cells).flatten ops.length)
    (hm : ops.length ≤ 1048576) (hb : sumL ops ≤ 100000000) (hN : sumL ops < N) (lf : Nat) (hlf : ops.length < lf) :
    ∃ A', kfn Tryd.bk.E call (Tryd.bk.inf 5) lf Tryd.f5 [.slice a ops.length c] A = some (.bool true, A') := by
  have hnew := hp.new (NewR.mk A)
  let A1 : Hp := A.push (.abs 1 PX.new.dat)
  let Z : List Value := [.slice none 0 0, .int .i64 ((0 : Nat) : Int), .bool false]
  let A2 : Hp := (A1.push (.arr 50 Z .own)).set A1.next (some (.arr 50 Z .own))
  have hw1 : A1.wf := hw.push _
  have hn1 : A1.next = A.next + 1 := by simp [A1]
  have hP1 : A1.get A.next = some (.abs 1 PX.new.dat) := Hp.get_push_same _ _
  have k1 : KP A.next A1 A2 := ((Kp.push hw1 (.arr 50 Z .own)).toP A.next).set (Hp.get_push_same _ _) (Nat.le_refl _) _
  have old : ∀ j, j < A.next → A1.get j = A.get j := fun j hj => Hp.get_push_ne _ _ (by omega)
  have hI : PW A.next [] 0 false (.slice none 0 0) A2 := ⟨⟨none, 0, rfl⟩, .nil 0 (by omega), fun i hi => by simp [blkOf] at hi, fun j x hx => by simp at hx, Nat.le_refl _, by
    rw [Hp.get_set_ne _ _ (by omega), Hp.get_push_ne _ _ (by omega)]; exact hP1⟩
  have hq : A2.get A1.next = some (.arr 50 Z .own) := Hp.get_set_same _ _ _
  have key : ∃ A3 V5, loopD (some [0, 2, 3, 4, 5]) (exec Tryd.bk.E call Tryd.f5.ntmps (Tryd.bk.inf 5) lf (loopOf Tryd.f5 0)) lf [(0, .slice a ops.length c), (2, .bool false), (3, ptr A.next), (4, ptr A1.next), (5, .int .i64 ((0 : Nat) : Int))] A2 =
      some (.exit 0, [(0, .slice a ops.length c), (2, .bool false), (3, ptr A.next), (4, ptr A1.next), (5, V5)], A3) := by
    generalize hv0 : (Value.slice a ops.length c) = v0 at hv
    generalize hfl : (ops.map OpX.cells).flatten = fl at hv
    generalize hol : ops.length = ol at hv hv0
    cases hv with
    | nil cc hc =>
      cases hv0
      obtain ⟨σ1, r1, r2⟩ := plays_end (call := call) lf (A := A2) none 0 c 0 (ptr A.next) (ptr A1.next) (by omega)
      have := loop_out (ks := some [0, 2, 3, 4, 5]) r1 (by simp) (n := lf) (by omega)
      rw [r2] at this
      exact ⟨A2, _, this⟩
    | «at» id _ _ hg hl =>
      cases hv0
      subst hol hfl
      have hidl := hw.lt hg
      exact plays_loop hS hL (A0 := A1) (P := A.next) (by omega) hw1 (fun o ho => ⟨(hops o ho).bs.old hw old, (hops o ho).bytes, (hops o ho).nb⟩) (ib := id) (by rw [old id hidl]; exact hg) (by omega) hP1 lf k1 hI hq hm hb hN hlf
  obtain ⟨A3, V5, l1⟩ := key
  refine ⟨A3, ?run⟩
  case run =>
    conv => lhs; whnf
    refine bind_of (hp.wakes _) ?_
    conv => lhs; whnf
    refine bind_of hnew ?_
    conv => lhs; whnf
    refine bind_of (dstore_of (Hp.get_push_same _ _) (t := 50) (o := 0) (cs' := Z) rfl) ?_
    conv => lhs; whnf
    refine bind_of l1 ?_
    conv => lhs; whnf
    rfl
end Go.Dn.Pipe
end
