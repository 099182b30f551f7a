/-
  Part of the abstract machine for this program.
-/
import Derived.Test.YtjhimcdahpncaaaDoorPE

section
/-
  'step' of culvertlaw19: one call on both
-/
namespace Go.Dn.Pipe
open Go.Proofs
set_option maxHeartbeats 4000000
set_option maxRecDepth 100000
attribute [local irreducible] Hp.get Hp.set Hp.push dappend dcopy dstore cellsAt callD loopD dstring

def cutIf : Value := .iface 168 (.pointer (some ⟨44, 0, none⟩))

structure StepFns (call : CallT) (N : Nat) : Prop extends PipeFns call where
  put2 : ∀ {args A r}, PutR2 args A r → call 14 args A = some r
  cut : ∀ {args A r}, CutR args A r → call 26 args A = some r
  code0 : ∀ A, call 27 [.nilIface] A = some (.int .i64 0, A)
  code27 : ∀ A, call 27 [cutIf] A = some (.int .i64 27, A)
  left : LeftOK call
  rput : ∀ {A : Hp} {a a2 : Option Addr} {c c2 : Nat} {g : Int} {all us : List Value}, A.wf → BsAt A (.slice a all.length c) all → IsB all → BsAt A (.slice a2 us.length c2) us → IsB us → all.length + us.length ≤ 1000000000 → all.length + us.length < N →
    ∃ V' A', call 28 [.agg #[.slice a all.length c, .int .i64 g, .bool false], .slice a2 us.length c2] A = some (.tuple #[.agg #[V', .int .i64 g, .bool false], .int .i64 (us.length : Nat), .int .i64 0], A') ∧ RI A V' (all ++ us) A'
  rputc : ∀ {A : Hp} {a : Option Addr} {m c : Nat} {g : Int} (b : Value), A.wf → ∃ A', call 28 [.agg #[.slice a m c, .int .i64 g, .bool true], b] A = some (.tuple #[.agg #[.slice a m c, .int .i64 g, .bool true], .int .i64 0, .int .i64 27], A') ∧ Kp A A'
  rmove : ∀ {A : Hp} {a : Option Addr} {c g : Nat} {ct : Bool} {all : List Value} (n : Int), A.wf → BsAt A (.slice a all.length c) all → IsB all → g ≤ all.length → all.length ≤ 1000000000 → all.length < N →
    ∃ V' A', call 30 [.agg #[.slice a all.length c, .int .i64 g, .bool ct], .int .i64 n] A =
      some (.tuple #[.agg #[.slice a all.length c, .int .i64 (g + min n.toNat (lftOf ct all.length g) : Nat), .bool ct], V'], A') ∧ RI A V' ((all.drop g).take (min n.toNat (lftOf ct all.length g))) A'
  rbreak : ∀ {A : Hp} (a : Option Addr) (m c g : Nat) (ct : Bool), A.wf → g ≤ m → m ≤ 1000000000 →
    ∃ A', call 58 [.agg #[.slice a m c, .int .i64 g, .bool ct]] A = some (.tuple #[.agg #[.slice a m c, .int .i64 g, .bool true], .int .i64 (lftOf ct m g : Nat)], A') ∧ Kp A A'

/-- older objects but one stay -/
structure KP (P : Nat) (A A' : Hp) : Prop where
  wf : A'.wf
  nx : A.next ≤ A'.next
  old : ∀ j, j < A.next → j ≠ P → A'.get j = A.get j
theorem KP.refl {P : Nat} {A : Hp} (hw : A.wf) : KP P A A := ⟨hw, Nat.le_refl _, fun _ _ _ => rfl⟩
theorem KP.trans {P : Nat} {A B C : Hp} (h : KP P A B) (k : KP P B C) : KP P A C := ⟨k.wf, Nat.le_trans h.nx k.nx, fun j hj hp => by have := h.nx; rw [k.old j (by omega) hp, h.old j hj hp]⟩
theorem Kp.toP {A A' : Hp} (h : Kp A A') (P : Nat) : KP P A A' := ⟨h.wf, h.nx, fun j hj _ => h.old j hj⟩
theorem KP.set {P : Nat} {A B : Hp} (h : KP P A B) {i : Nat} {o : Ob} (hg : B.get i = some o) (hi : A.next ≤ i) (o' : Ob) : KP P A (B.set i (some o')) :=
  ⟨h.wf.put hg _, by rw [Hp.next_set]; exact h.nx, fun j hj hp => by rw [Hp.get_set_ne _ _ (by omega), h.old j hj hp]⟩
theorem KP.bs {P : Nat} {A A' : Hp} (h : KP P A A') (hw : A.wf) {k : Nat} {x : Dat} (hP : A.get P = some (.abs k x)) {V : Value} {us : List Value} (hV : BsAt A V us) : BsAt A' V us :=
  hV.keep fun i o hi hh => by
    cases hV with
    | nil c hc => obtain ⟨b, q, s, m, c', e, _⟩ := hh; cases e
    | «at» j o' n c T cs _ md hg hl hu hc =>
      obtain ⟨b, q, s, m, c', e, e2⟩ := hh
      cases e
      subst e2
      refine h.old _ (hw.lt hg) ?_
      rintro rfl
      rw [hP] at hg
      cases hg

theorem RI.bs2 {A0 A A' : Hp} {V : Value} {us : List Value} (h : RI A0 V us A) (hk : ∀ j, A0.next ≤ j → j < A.next → A'.get j = A.get j) : BsAt A' V us := by
  obtain ⟨io, o1, o2⟩ := h.out
  have : CanAt 5 1 A' V io us us.length := o1.keep fun i hi => by
    subst hi
    exact hk i (o2 i rfl) (o1.lt h.wf)
  exact this.slAt.bs

def Typ5 (A : Hp) (V : Value) : Prop := ∀ i ∈ blkOf V, ∃ cs md, A.get i = some (.arr 5 cs md)
theorem RI.typ2 {A0 A A' : Hp} {V : Value} {us : List Value} (h : RI A0 V us A) (hk : ∀ j, A0.next ≤ j → j < A.next → A'.get j = A.get j) : Typ5 A' V := by
  obtain ⟨io, o1, o2⟩ := h.out
  have h2 : CanAt 5 1 A' V io us us.length := o1.keep fun i hi => by
    subst hi
    exact hk i (o2 i rfl) (o1.lt h.wf)
  generalize us.length = n at h2
  intro i hi
  cases h2 with
  | nil => simp [blkOf] at hi
  | «at» j _ _ hg hl hp =>
    simp only [blkOf, List.mem_singleton] at hi
    subst hi
    exact ⟨_, _, hg⟩
theorem Typ5.keep {A A' : Hp} {V : Value} (h : Typ5 A V) (hk : ∀ j cs md, A.get j = some (.arr 5 cs md) → A'.get j = A.get j) : Typ5 A' V := fun i hi => by
  obtain ⟨cs, md, hg⟩ := h i hi
  exact ⟨cs, md, by rw [hk i cs md hg]; exact hg⟩
theorem KP.typ {P : Nat} {A A' : Hp} (h : KP P A A') (hw : A.wf) {k : Nat} {x : Dat} (hP : A.get P = some (.abs k x)) {V : Value} (hV : Typ5 A V) : Typ5 A' V :=
  hV.keep fun j cs md hg => h.old j (hw.lt hg) (by rintro rfl; rw [hP] at hg; cases hg)
/-- another object changes -/
theorem _root_.Go.Dn.BsAt.set5 {A : Hp} {V : Value} {us : List Value} (h : BsAt A V us) (ht : Typ5 A V) {q : Nat} (hq : ∀ cs md, A.get q ≠ some (.arr 5 cs md)) (o : Option Ob) : BsAt (A.set q o) V us :=
  h.keep fun i ob hi hh => by
    obtain ⟨b, q', s, m, c, e, rfl⟩ := hh
    subst e
    refine Hp.get_set_ne _ _ ?_
    rintro rfl
    cases h with
    | «at» _ _ _ _ _ _ _ _ hg hl hu hc =>
      obtain ⟨cs, md, h2⟩ := ht b (by simp [blkOf])
      exact hq cs md h2
theorem Typ5.set5 {A : Hp} {V : Value} (ht : Typ5 A V) {q : Nat} (hq : ∀ cs md, A.get q ≠ some (.arr 5 cs md)) (o : Option Ob) : Typ5 (A.set q o) V :=
  ht.keep fun j cs md hg => Hp.get_set_ne _ _ (by rintro rfl; exact hq cs md hg)

/-- what a pipe holds beside the document's -/
def pxOf (all : List Value) (g : Nat) (ct : Bool) : PX := ⟨if ct then [] else all.drop g, all.length, (g : Nat), ct⟩

def boxes (A : Hp) (w o : List Value) : Hp := ((A.push (.arr 50 w .own)).push (.arr 54 o .own)).push (.arr 50 [.slice none 0 0, .int .i64 0, .bool false] .own)

theorem boxes_ok {A : Hp} (hw : A.wf) (w o : List Value) : Kp A (boxes A w o) ∧ (boxes A w o).next = A.next + 3 ∧ (boxes A w o).get A.next = some (.arr 50 w .own) ∧ (boxes A w o).get (A.push (.arr 50 w .own)).next = some (.arr 54 o .own) ∧
    (boxes A w o).get ((A.push (.arr 50 w .own)).push (.arr 54 o .own)).next = some (.arr 50 [.slice none 0 0, .int .i64 0, .bool false] .own) := by
  refine ⟨((Kp.push hw _).trans (Kp.push (hw.push _) _)).trans (Kp.push ((hw.push _).push _) _), by simp [boxes], ?_, ?_, ?_⟩
  · unfold boxes
    rw [Hp.get_push_ne _ _ (by simp; omega), Hp.get_push_ne _ _ (by simp)]
    exact Hp.get_push_same _ _
  · unfold boxes
    rw [Hp.get_push_ne _ _ (by simp)]
    exact Hp.get_push_same _ _
  · exact Hp.get_push_same _ _

section
variable {call : CallT} {N : Nat} (h : StepFns call N) {P : Nat} {A : Hp} (hw : A.wf) {all : List Value} {g : Nat} (hall : IsB all) (hg : g ≤ all.length)
include h hw hall hg

theorem step_put (lf : Nat) (hP : A.get P = some (.abs 1 (pxOf all g false).dat)) {a a2 : Option Addr} {c c2 : Nat} (hV : BsAt A (.slice a all.length c) all) {us : List Value} (hus : IsB us) (hB : BsAt A (.slice a2 us.length c2) us) (n : Int) (hl : all.length + us.length ≤ 100000000) (hN : all.length + us.length < N) :
    ∃ V' A', kfn Tryd.bk.E call (Tryd.bk.inf 25) lf Tryd.f25 [ptr P, .agg #[.slice a all.length c, .int .i64 g, .bool false], .agg #[.int .i64 1, .slice a2 us.length c2, .int .i64 n]] A =
      some (.tuple #[.agg #[V', .int .i64 g, .bool false], .bool true], A') ∧ KP P A A' ∧ A'.get P = some (.abs 1 (pxOf (all ++ us) g false).dat) ∧ BsAt A' V' (all ++ us) ∧ Typ5 A' V' := by
  obtain ⟨b1, b2, b3, b4, b5⟩ := boxes_ok hw [.slice a all.length c, .int .i64 g, .bool false] [.int .i64 1, .slice a2 us.length c2, .int .i64 n]
  have hPl := hw.lt hP
  obtain ⟨V4, A4, p1, p2⟩ := h.rput (g := g) b1.wf (hV.old hw b1.old) hall (hB.old hw b1.old) hus (by omega) hN
  obtain ⟨av, cv, rfl⟩ := p2.bs.form
  have hP4 : A4.get P = some (.abs 1 (pxOf all g false).dat) := by rw [p2.old P (by omega), b1.old P hPl]; exact hP
  let W : List Value := [.slice av (all ++ us).length cv, .int .i64 g, .bool false]
  let Z : List Value := [.slice none 0 0, .int .i64 0, .bool false]
  let A5 : Hp := (A4.push (.arr 50 Z .own)).set A4.next (some (.arr 50 W .own))
  have k4 : KP P A A4 := (b1.trans p2.kp).toP P
  have k5 : KP P A A5 := (k4.trans ((Kp.push p2.wf _).toP P)).set (Hp.get_push_same _ _) (by have := k4.nx; omega) _
  have n5 : A5.next = A4.next + 1 := by simp [A5]
  have k45 : KP P A4 A5 := ((Kp.push p2.wf (.arr 50 Z .own)).toP P).set (Hp.get_push_same _ _) (Nat.le_refl _) _
  have hlt4 : A.next + 3 ≤ A4.next := by have := p2.nx; omega
  have g5 : A5.get (A.push (.arr 50 [.slice a all.length c, .int .i64 g, .bool false] .own)).next = some (.arr 54 [.int .i64 1, .slice a2 us.length c2, .int .i64 n] .own) := by
    rw [k45.old _ (by simp; omega) (by simp; omega), p2.old _ (by simp; omega)]; exact b4
  have g6 : A5.get ((A.push (.arr 50 [.slice a all.length c, .int .i64 g, .bool false] .own)).push (.arr 54 [.int .i64 1, .slice a2 us.length c2, .int .i64 n] .own)).next = some (.arr 50 Z .own) := by
    rw [k45.old _ (by simp; omega) (by simp; omega), p2.old _ (by simp; omega)]; exact b5
  have g8 : A5.get A4.next = some (.arr 50 W .own) := Hp.get_set_same _ _ _
  have hP5 : A5.get P = some (.abs 1 (pxOf all g false).dat) := by rw [Hp.get_set_ne _ _ (by omega), Hp.get_push_ne _ _ (by omega)]; exact hP4
  obtain ⟨wv, A6, A7, s1, s2, s3, s4, s5, s6⟩ := put_phase h.toPipeFns k5.wf hP5 rfl (k5.bs hw hP hB).elems hus.plain (by show all.length + us.length ≤ _; omega)
  have g87 : A7.get A4.next = some (.arr 50 W .own) := by rw [s5 _ (by omega) (by omega)]; exact g8
  have g67 : A7.get ((A.push (.arr 50 [.slice a all.length c, .int .i64 g, .bool false] .own)).push (.arr 54 [.int .i64 1, .slice a2 us.length c2, .int .i64 n] .own)).next = some (.arr 50 Z .own) := by
    rw [s5 _ (by simp; omega) (by simp; omega)]; exact g6
  have hpx : (PX.dat { pxOf all g false with fl := (pxOf all g false).fl ++ us, n := (pxOf all g false).n + us.length }) = (pxOf (all ++ us) g false).dat := by
    unfold pxOf
    simp only [Bool.false_eq_true, if_false, List.length_append]
    rw [List.drop_append_of_le_length hg]
  rw [hpx] at s6
  have g67' := g67
  rw [← back1 g87] at g67'
  let q6 := ((A.push (.arr 50 [.slice a all.length c, .int .i64 g, .bool false] .own)).push (.arr 54 [.int .i64 1, .slice a2 us.length c2, .int .i64 n] .own)).next
  have k7 : KP P A A7 := k5.trans ⟨s3, s4, s5⟩
  have k8 := k7.set g67 (by simp; omega) (.arr 50 W .own)
  refine ⟨.slice av (all ++ us).length cv, _, ?run, k8, ?k2, ?k3, ?k4⟩
  case run =>
    conv => lhs; whnf
    refine bind_of (cellsAt_of b4 _ _) ?_
    conv => lhs; whnf
    refine bind_of (cellsAt_of b3 _ _) ?_
    conv => lhs; whnf
    refine bind_of (cellsAt_of b4 _ _) ?_
    conv => lhs; whnf
    refine bind_of p1 ?_
    conv => lhs; whnf
    refine bind_of (dstore_of (Hp.get_push_same _ _) (t := 50) (o := 0) (cs' := W) rfl) ?_
    conv => lhs; whnf
    refine bind_of (cellsAt_of g5 _ _) ?_
    conv => lhs; whnf
    refine bind_of s1 ?_
    conv => lhs; whnf
    refine bind_of s2 ?_
    conv => lhs; whnf
    refine bind_of (cellsAt_of g87 _ _) ?_
    conv => lhs; whnf
    rw [beq_self_eq_true]
    conv => lhs; whnf
    refine bind_of (h.code0 _) ?_
    conv => lhs; whnf
    refine bind_of (dstore_of g67' (t := 50) (o := 0) (cs' := W) rfl) ?_
    rw [back1 g87]
    conv => lhs; whnf
    refine bind_of (cellsAt_of (A := A7.set q6 (some (.arr 50 W .own))) (i := q6) (Hp.get_set_same _ _ _) 0 3) ?_
    conv => lhs; whnf
    rfl
  case k2 => rw [Hp.get_set_ne _ _ (by simp; omega)]; exact s6
  case k3 =>
    refine p2.bs2 fun j hj hj2 => ?_
    rw [Hp.get_set_ne _ _ (by simp; omega), (k45.trans ⟨s3, s4, s5⟩).old j hj2 (by omega)]
  case k4 =>
    refine p2.typ2 fun j hj hj2 => ?_
    rw [Hp.get_set_ne _ _ (by simp; omega), (k45.trans ⟨s3, s4, s5⟩).old j hj2 (by omega)]

omit hall hg in
theorem putcut_phase {x : PX} (hP : A.get P = some (.abs 1 x.dat)) (hx : x.c = true) {v : Value} {seg : List Value} (hv : elemsOf A 1 v = some (seg.length, seg)) (hpl : ∀ u ∈ seg, plain0 u = true) (hb : seg.length ≤ 1073741824) :
    ∃ wv A1 A2, call 15 [v] A = some (wv, A1) ∧ call 14 [ptr P, wv] A1 = some (cutErr, A2) ∧ A2.wf ∧ A.next ≤ A2.next ∧ (∀ j, j < A.next → j ≠ P → A2.get j = A.get j) ∧ A2.get P = some (.abs 1 x.dat) := by
  have h1 := h.copied hw hv hb
  obtain ⟨i, c, e1, e2, e3, e4, e5⟩ := copV_at A seg
  have hPl := hw.lt hP
  have hP1 : (copH A seg).get P = some (.abs 1 x.dat) := by rw [copH_old A seg P hPl]; exact hP
  have h2 := h.put2 (PutR2.cut (copH A seg) P x hP1 hx i 0 seg.length c seg .own e4 hpl)
  rw [← e1] at h2
  refine ⟨_, _, _, h1, h2, (copH_wf hw seg).put hP1 _, ?_, fun j hj hjP => ?_, Hp.get_set_same _ _ _⟩
  · have := copH_next A seg
    rw [Hp.next_set]; omega
  · rw [Hp.get_set_ne _ _ hjP, copH_old A seg j hj]

omit hall hg in
theorem step_put_cut (lf : Nat) (hP : A.get P = some (.abs 1 (pxOf all g true).dat)) {a a2 : Option Addr} {c c2 : Nat} (hV : BsAt A (.slice a all.length c) all) {us : List Value} (hus : IsB us) (hB : BsAt A (.slice a2 us.length c2) us) (n : Int) (hl : us.length ≤ 100000000) :
    ∃ A', kfn Tryd.bk.E call (Tryd.bk.inf 25) lf Tryd.f25 [ptr P, .agg #[.slice a all.length c, .int .i64 g, .bool true], .agg #[.int .i64 1, .slice a2 us.length c2, .int .i64 n]] A =
      some (.tuple #[.agg #[.slice a all.length c, .int .i64 g, .bool true], .bool true], A') ∧ KP P A A' ∧ A'.get P = some (.abs 1 (pxOf all g true).dat) ∧ BsAt A' (.slice a all.length c) all := by
  obtain ⟨b1, b2, b3, b4, b5⟩ := boxes_ok hw [.slice a all.length c, .int .i64 g, .bool true] [.int .i64 1, .slice a2 us.length c2, .int .i64 n]
  have hPl := hw.lt hP
  obtain ⟨A4, p1, p2⟩ := h.rputc (a := a) (m := all.length) (c := c) (g := g) (.slice a2 us.length c2) b1.wf
  have hP4 : A4.get P = some (.abs 1 (pxOf all g true).dat) := by rw [p2.old P (by omega), b1.old P hPl]; exact hP
  let W : List Value := [.slice a all.length c, .int .i64 g, .bool true]
  let Z : List Value := [.slice none 0 0, .int .i64 0, .bool false]
  let A5 : Hp := (A4.push (.arr 50 Z .own)).set A4.next (some (.arr 50 W .own))
  have k4 : KP P A A4 := (b1.trans p2).toP P
  have k5 : KP P A A5 := (k4.trans ((Kp.push p2.wf _).toP P)).set (Hp.get_push_same _ _) (by have := k4.nx; omega) _
  have n5 : A5.next = A4.next + 1 := by simp [A5]
  have k45 : KP P A4 A5 := ((Kp.push p2.wf (.arr 50 Z .own)).toP P).set (Hp.get_push_same _ _) (Nat.le_refl _) _
  have hlt4 : A.next + 3 ≤ A4.next := by have := p2.nx; omega
  have g5 : A5.get (A.push (.arr 50 [.slice a all.length c, .int .i64 g, .bool true] .own)).next = some (.arr 54 [.int .i64 1, .slice a2 us.length c2, .int .i64 n] .own) := by
    rw [k45.old _ (by simp; omega) (by simp; omega), p2.old _ (by simp; omega)]; exact b4
  have g6 : A5.get ((A.push (.arr 50 [.slice a all.length c, .int .i64 g, .bool true] .own)).push (.arr 54 [.int .i64 1, .slice a2 us.length c2, .int .i64 n] .own)).next = some (.arr 50 Z .own) := by
    rw [k45.old _ (by simp; omega) (by simp; omega), p2.old _ (by simp; omega)]; exact b5
  have g8 : A5.get A4.next = some (.arr 50 W .own) := Hp.get_set_same _ _ _
  have hP5 : A5.get P = some (.abs 1 (pxOf all g true).dat) := by rw [Hp.get_set_ne _ _ (by omega), Hp.get_push_ne _ _ (by omega)]; exact hP4
  obtain ⟨wv, A6, A7, s1, s2, s3, s4, s5, s6⟩ := putcut_phase h k5.wf hP5 rfl (k5.bs hw hP hB).elems hus.plain (by omega)
  have g87 : A7.get A4.next = some (.arr 50 W .own) := by rw [s5 _ (by omega) (by omega)]; exact g8
  have g67 : A7.get ((A.push (.arr 50 [.slice a all.length c, .int .i64 g, .bool true] .own)).push (.arr 54 [.int .i64 1, .slice a2 us.length c2, .int .i64 n] .own)).next = some (.arr 50 Z .own) := by
    rw [s5 _ (by simp; omega) (by simp; omega)]; exact g6
  have g67' := g67
  rw [← back1 g87] at g67'
  let q6 := ((A.push (.arr 50 [.slice a all.length c, .int .i64 g, .bool true] .own)).push (.arr 54 [.int .i64 1, .slice a2 us.length c2, .int .i64 n] .own)).next
  have k7 : KP P A A7 := k5.trans ⟨s3, s4, s5⟩
  have k8 := k7.set g67 (by simp; omega) (.arr 50 W .own)
  refine ⟨_, ?run, k8, ?k2, k8.bs hw hP hV⟩
  case run =>
    conv => lhs; whnf
    refine bind_of (cellsAt_of b4 _ _) ?_
    conv => lhs; whnf
    refine bind_of (cellsAt_of b3 _ _) ?_
    conv => lhs; whnf
    refine bind_of (cellsAt_of b4 _ _) ?_
    conv => lhs; whnf
    refine bind_of p1 ?_
    conv => lhs; whnf
    refine bind_of (dstore_of (Hp.get_push_same _ _) (t := 50) (o := 0) (cs' := W) rfl) ?_
    conv => lhs; whnf
    refine bind_of (cellsAt_of g5 _ _) ?_
    conv => lhs; whnf
    refine bind_of s1 ?_
    conv => lhs; whnf
    refine bind_of s2 ?_
    conv => lhs; whnf
    refine bind_of (cellsAt_of g87 _ _) ?_
    conv => lhs; whnf
    refine bind_of (h.code27 _) ?_
    conv => lhs; whnf
    refine bind_of (dstore_of g67' (t := 50) (o := 0) (cs' := W) rfl) ?_
    rw [back1 g87]
    conv => lhs; whnf
    refine bind_of (cellsAt_of (A := A7.set q6 (some (.arr 50 W .own))) (i := q6) (Hp.get_set_same _ _ _) 0 3) ?_
    conv => lhs; whnf
    rfl
  case k2 => rw [Hp.get_set_ne _ _ (by simp; omega)]; exact s6

omit h hall hg in
/-- any other kind -/
theorem step_none (lf : Nat) {ct : Bool} (hP : A.get P = some (.abs 1 (pxOf all g ct).dat)) {a a2 : Option Addr} {c c2 m2 : Nat} (hV : BsAt A (.slice a all.length c) all) (k n : Int) (hk1 : k ≠ 1) (hk2 : k ≠ 2) (hk3 : k ≠ 3) (hk4 : k ≠ 4) :
    ∃ A', kfn Tryd.bk.E call (Tryd.bk.inf 25) lf Tryd.f25 [ptr P, .agg #[.slice a all.length c, .int .i64 g, .bool ct], .agg #[.int .i64 k, .slice a2 m2 c2, .int .i64 n]] A =
      some (.tuple #[.agg #[.slice a all.length c, .int .i64 g, .bool ct], .bool true], A') ∧ KP P A A' ∧ A'.get P = some (.abs 1 (pxOf all g ct).dat) ∧ BsAt A' (.slice a all.length c) all := by
  obtain ⟨b1, b2, b3, b4, b5⟩ := boxes_ok hw [.slice a all.length c, .int .i64 g, .bool ct] [.int .i64 k, .slice a2 m2 c2, .int .i64 n]
  have hPl := hw.lt hP
  let q6 := ((A.push (.arr 50 [.slice a all.length c, .int .i64 g, .bool ct] .own)).push (.arr 54 [.int .i64 k, .slice a2 m2 c2, .int .i64 n] .own)).next
  have k8 := (b1.toP P).set b5 (by simp; omega) (.arr 50 [.slice a all.length c, .int .i64 g, .bool ct] .own)
  refine ⟨_, ?run, k8, ?k2, k8.bs hw hP hV⟩
  case run =>
    conv => lhs; whnf
    refine bind_of (cellsAt_of b4 _ _) ?_
    conv => lhs; whnf
    rw [beq_eq_false_iff_ne.2 hk1]
    conv => lhs; whnf
    rw [beq_eq_false_iff_ne.2 hk2]
    conv => lhs; whnf
    rw [beq_eq_false_iff_ne.2 hk3]
    conv => lhs; whnf
    rw [beq_eq_false_iff_ne.2 hk4]
    conv => lhs; whnf
    refine bind_of (cellsAt_of b3 _ _) ?_
    conv => lhs; whnf
    refine bind_of (dstore_of b5 (t := 50) (o := 0) (cs' := [.slice a all.length c, .int .i64 g, .bool ct]) rfl) ?_
    conv => lhs; whnf
    refine bind_of (cellsAt_of (A := Hp.set _ q6 (some (.arr 50 [.slice a all.length c, .int .i64 g, .bool ct] .own))) (i := q6) (Hp.get_set_same _ _ _) 0 3) ?_
    conv => lhs; whnf
    rfl
  case k2 => rw [Hp.get_set_ne _ _ (by simp; omega), b1.old P hPl]; exact hP
end
end Go.Dn.Pipe
end

section
namespace Go.Dn.Pipe
open Go.Proofs
set_option maxHeartbeats 4000000
set_option maxRecDepth 100000
attribute [local irreducible] Hp.get Hp.set Hp.push dappend dcopy dstore cellsAt callD loopD dstring guardL hideL backL

theorem guard_get {A : Hp} {l : List Nat} {j : Nat} (hj : j ∉ l) : (guardL (hideL A []) l).get j = A.get j := by
  rw [guardL_get, if_neg hj, hideL_get, if_neg List.not_mem_nil]
theorem guard_next (A : Hp) (l : List Nat) : (guardL (hideL A []) l).next = A.next := by
  rw [guardL_next, hideL_next]
theorem guard_wf {A : Hp} (hw : A.wf) (l : List Nat) : (guardL (hideL A []) l).wf := by
  intro i hi
  rw [guard_next] at hi
  rw [guardL_get, hideL_get, if_neg List.not_mem_nil, hw i hi]
  split <;> rfl
theorem back_facts {A C : Hp} {l : List Nat} (hl : ∀ j ∈ l, j < A.next) (hC : C.wf) (hn : A.next ≤ C.next) :
    (backL A (backL A C l) []).wf ∧ (backL A (backL A C l) []).next = C.next ∧ (∀ j, j ∉ l → (backL A (backL A C l) []).get j = C.get j) ∧ (∀ j ∈ l, (backL A (backL A C l) []).get j = A.get j) := by
  have h1 : ∀ j, (backL A (backL A C l) []).get j = if j ∈ l then A.get j else C.get j := by
    intro j
    rw [backL_get, if_neg List.not_mem_nil, backL_get]
  refine ⟨fun j hj => ?_, by rw [backL_next, backL_next], fun j hj => by rw [h1, if_neg hj], fun j hj => by rw [h1, if_pos hj]⟩
  rw [backL_next, backL_next] at hj
  rw [h1, if_neg (fun hm => by have := hl j hm; omega)]
  exact hC j hj

theorem can_some {e : TypeId} {A : Hp} {v : Value} {io : Option Nat} {us : List Value} {n : Nat} (h : CanAt e 1 A v io us n) (hne : us ≠ []) : ∃ i, io = some i ∧ blkOf v = [i] := by
  cases h with
  | nil => exact absurd rfl hne
  | «at» i _ _ hg hl hp => exact ⟨i, rfl, rfl⟩

/-- a Move under guard -/
theorem guarded_move {call : CallT} (h : PipeFns call) {A : Hp} (hw : A.wf) {P : Nat} {x : PX} (hP : A.get P = some (.abs 1 x.dat)) (hx : x.n ≤ 1073741824) (hpl : ∀ u ∈ x.fl, plain0 u = true) {n : Int} (hn : n ≤ 9223372036854775807) (l : List Nat) (hl : ∀ j ∈ l, j < A.next ∧ j ≠ P) :
    ∃ v C, call 17 [ptr P, .int .i64 n] (guardL (hideL A []) l) = some (v, C) ∧ KP P A (backL A (backL A C l) []) ∧
      (backL A (backL A C l) []).get P = some (.abs 1 (PX.dat { x with fl := x.fl.drop n.toNat, s := IntKind.u64.wrap (x.s + ((x.fl.take n.toNat).length : Nat)) })) ∧ BsAt (backL A (backL A C l) []) v (x.fl.take n.toNat) ∧
      (x.fl.take n.toNat = [] → blkOf v = []) ∧ (x.fl.take n.toNat ≠ [] → ∃ b, blkOf v = [b] ∧ A.next ≤ b ∧ b < (backL A (backL A C l) []).next) := by
  have hPl : P ∉ l := fun hm => (hl P hm).2 rfl
  have hB := guard_get (A := A) hPl
  have h1 := h.move (MoveR.mk (guardL (hideL A []) l) P x (hB.trans hP) n hn hx hpl)
  have hBw := guard_wf hw l
  have hBn := guard_next A l
  have hlP := hw.lt hP
  have hCw := pushL_outE_wf (hBw.put (hB.trans hP) (.abs 1 (PX.dat { x with fl := x.fl.drop n.toNat, s := IntKind.u64.wrap (x.s + ((x.fl.take n.toNat).length : Nat)) }))) (x.fl.take n.toNat)
  have hCn := pushL_outE_next ((guardL (hideL A []) l).set P (some (.abs 1 (PX.dat { x with fl := x.fl.drop n.toNat, s := IntKind.u64.wrap (x.s + ((x.fl.take n.toNat).length : Nat)) })))) (x.fl.take n.toNat)
  have hCo := pushL_outE_get ((guardL (hideL A []) l).set P (some (.abs 1 (PX.dat { x with fl := x.fl.drop n.toNat, s := IntKind.u64.wrap (x.s + ((x.fl.take n.toNat).length : Nat)) })))) (x.fl.take n.toNat)
  obtain ⟨a, c, iv, o1, o2, o3⟩ := outV_at ((guardL (hideL A []) l).set P (some (.abs 1 (PX.dat { x with fl := x.fl.drop n.toNat, s := IntKind.u64.wrap (x.s + ((x.fl.take n.toNat).length : Nat)) })))) (x.fl.take n.toNat)
  rw [Hp.next_set, hBn] at hCn hCo o1 o3
  rw [hBn] at h1
  obtain ⟨d1, d2, d3, d4⟩ := back_facts (fun j hj => (hl j hj).1) hCw hCn
  refine ⟨_, _, h1, ⟨d1, by rw [d2]; exact hCn, fun j hj hjP => ?_⟩, ?_, ?_, fun he => by rw [he]; rfl, fun he => ?_⟩
  · by_cases hm : j ∈ l
    · exact d4 j hm
    · rw [d3 j hm, hCo j hj, Hp.get_set_ne _ _ hjP, guard_get hm]
  · rw [d3 P hPl, hCo P hlP, Hp.get_set_same]
  · rw [o1]
    have : CanAt 5 1 (backL A (backL A (pushL .own ((guardL (hideL A []) l).set P (some (.abs 1 (PX.dat { x with fl := x.fl.drop n.toNat, s := IntKind.u64.wrap (x.s + ((x.fl.take n.toNat).length : Nat)) })))) (outE (x.fl.take n.toNat))) l) []) (.slice a (x.fl.take n.toNat).length c) iv (x.fl.take n.toNat) (x.fl.take n.toNat).length :=
      o2.keep fun i hi => d3 i fun hm => by have := (hl i hm).1; have := (o3 i hi).1; omega
    exact this.slAt.bs
  · rw [o1, d2]
    obtain ⟨i, hi, hb⟩ := can_some o2 he
    exact ⟨i, hb, (o3 i hi).1, (o3 i hi).2⟩

/-- a store under guard -/
theorem guarded_store {D : Hp} (hw : D.wf) {q : Nat} {o o' : Ob} (hq : D.get q = some o) (l : List Nat) (hl : ∀ j ∈ l, j < D.next ∧ j ≠ q) :
    (guardL (hideL D []) l).get q = some o ∧ (backL D (backL D ((guardL (hideL D []) l).set q (some o')) l) []).wf ∧ (backL D (backL D ((guardL (hideL D []) l).set q (some o')) l) []).next = D.next ∧
      (backL D (backL D ((guardL (hideL D []) l).set q (some o')) l) []).get q = some o' ∧ ∀ j, j ≠ q → (backL D (backL D ((guardL (hideL D []) l).set q (some o')) l) []).get j = D.get j := by
  have hql : q ∉ l := fun hm => (hl q hm).2 rfl
  have h1 := (guard_get (A := D) hql).trans hq
  obtain ⟨d1, d2, d3, d4⟩ := back_facts (C := (guardL (hideL D []) l).set q (some o')) (fun j hj => (hl j hj).1) ((guard_wf hw l).put h1 _) (by rw [Hp.next_set, guard_next]; exact Nat.le_refl _)
  refine ⟨h1, d1, by rw [d2, Hp.next_set, guard_next], by rw [d3 q hql, Hp.get_set_same], fun j hj => ?_⟩
  by_cases hm : j ∈ l
  · exact d4 j hm
  · rw [d3 j hm, Hp.get_set_ne _ _ hj, guard_get hm]

theorem stS : StrT Tryd.bk.E 22 9 := ⟨⟨_, _, 5, _, rfl, rfl, rfl, rfl, rfl, rfl⟩⟩

section
variable {call : CallT} {N : Nat} (h : StepFns call N) {P : Nat} {A : Hp} (hw : A.wf) {all : List Value} {g : Nat} (hall : IsB all) (hg : g ≤ all.length)
include h hw hall hg

theorem step_move (lf : Nat) {ct : Bool} (hP : A.get P = some (.abs 1 (pxOf all g ct).dat)) {a a2 : Option Addr} {c c2 m2 : Nat} (hV : BsAt A (.slice a all.length c) all) (n : Int) (hn : n ≤ 9223372036854775807) (hl : all.length ≤ 100000000) (hN : all.length < N) :
    ∃ g' A', kfn Tryd.bk.E call (Tryd.bk.inf 25) lf Tryd.f25 [ptr P, .agg #[.slice a all.length c, .int .i64 g, .bool ct], .agg #[.int .i64 2, .slice a2 m2 c2, .int .i64 n]] A =
      some (.tuple #[.agg #[.slice a all.length c, .int .i64 (g' : Nat), .bool ct], .bool true], A') ∧ g' ≤ all.length ∧ KP P A A' ∧ A'.get P = some (.abs 1 (pxOf all g' ct).dat) ∧ BsAt A' (.slice a all.length c) all := by
  obtain ⟨b1, b2, b3, b4, b5⟩ := boxes_ok hw [.slice a all.length c, .int .i64 g, .bool ct] [.int .i64 2, .slice a2 m2 c2, .int .i64 n]
  have hPl := hw.lt hP
  obtain ⟨V4, A4, p1, p2⟩ := h.rmove (ct := ct) n b1.wf (hV.old hw b1.old) hall hg (by omega) hN
  have hP4 : A4.get P = some (.abs 1 (pxOf all g ct).dat) := by rw [p2.old P (by omega), b1.old P hPl]; exact hP
  have hlf : lftOf ct all.length g ≤ all.length - g := by unfold lftOf; split <;> omega
  have hout : (all.drop g).take (min n.toNat (lftOf ct all.length g)) = (pxOf all g ct).fl.take n.toNat := by
    unfold pxOf lftOf
    cases ct with
    | true => simp
    | false =>
      simp only [Bool.false_eq_true, if_false]
      rw [← List.length_drop, ← List.take_take, List.take_length]
  have hfl : (pxOf all g ct).fl.drop n.toNat = (pxOf all (g + min n.toNat (lftOf ct all.length g)) ct).fl := by
    unfold pxOf lftOf
    cases ct with
    | true => simp
    | false =>
      simp only [Bool.false_eq_true, if_false, List.drop_drop]
      rcases Nat.lt_or_ge n.toNat (all.length - g) with e | e
      · rw [Nat.min_eq_left (by omega)]
      · rw [Nat.min_eq_right e, List.drop_eq_nil_of_le (by omega), List.drop_eq_nil_of_le (by omega)]
  have hol : ((pxOf all g ct).fl.take n.toNat).length = min n.toNat (lftOf ct all.length g) := by rw [← hout]; simp; omega
  have hob : IsB ((pxOf all g ct).fl.take n.toNat) := by rw [← hout]; exact (hall.drop g).take _
  rw [hout] at p2
  have hkb : g + min n.toNat (lftOf ct all.length g) ≤ all.length := by omega
  have hmv : PX.dat { pxOf all g ct with fl := (pxOf all g ct).fl.drop n.toNat, s := IntKind.u64.wrap ((pxOf all g ct).s + (((pxOf all g ct).fl.take n.toNat).length : Nat)) } = (pxOf all (g + min n.toNat (lftOf ct all.length g)) ct).dat := by
    rw [hol, hfl]
    unfold pxOf
    simp only
    rw [show ((g : Nat) : Int) + ((min n.toNat (lftOf ct all.length g) : Nat) : Int) = ((g + min n.toNat (lftOf ct all.length g) : Nat) : Int) by omega, wrapu (by omega)]
  generalize g + min n.toNat (lftOf ct all.length g) = g' at p1 hkb hmv hfl
  generalize hout' : (pxOf all g ct).fl.take n.toNat = out at p2 hob hmv hol
  have hfls : ∀ u ∈ (pxOf all g ct).fl, plain0 u = true := by
    unfold pxOf
    simp only
    split
    · simp
    · exact (hall.drop g).plain
  let W : List Value := [.slice a all.length c, .int .i64 (g' : Nat), .bool ct]
  let Z : List Value := [.slice none 0 0, .int .i64 0, .bool false]
  let A5 : Hp := (A4.push (.arr 50 Z .own)).set A4.next (some (.arr 50 W .own))
  have k4 : KP P A A4 := (b1.trans p2.kp).toP P
  have k5 : KP P A A5 := (k4.trans ((Kp.push p2.wf _).toP P)).set (Hp.get_push_same _ _) (by have := k4.nx; omega) _
  have n5 : A5.next = A4.next + 1 := by simp [A5]
  have k45 : KP P A4 A5 := ((Kp.push p2.wf (.arr 50 Z .own)).toP P).set (Hp.get_push_same _ _) (Nat.le_refl _) _
  have hlt4 : A.next + 3 ≤ A4.next := by have := p2.nx; omega
  have g5 : A5.get (A.push (.arr 50 [.slice a all.length c, .int .i64 g, .bool ct] .own)).next = some (.arr 54 [.int .i64 2, .slice a2 m2 c2, .int .i64 n] .own) := by
    rw [k45.old _ (by simp; omega) (by simp; omega), p2.old _ (by simp; omega)]; exact b4
  have g6 : A5.get ((A.push (.arr 50 [.slice a all.length c, .int .i64 g, .bool ct] .own)).push (.arr 54 [.int .i64 2, .slice a2 m2 c2, .int .i64 n] .own)).next = some (.arr 50 Z .own) := by
    rw [k45.old _ (by simp; omega) (by simp; omega), p2.old _ (by simp; omega)]; exact b5
  have g8 : A5.get A4.next = some (.arr 50 W .own) := Hp.get_set_same _ _ _
  have hP5 : A5.get P = some (.abs 1 (pxOf all g ct).dat) := by rw [Hp.get_set_ne _ _ (by omega), Hp.get_push_ne _ _ (by omega)]; exact hP4
  have hb1 : BsAt A5 V4 out := p2.bs2 fun j hj hj2 => k45.old j hj2 (by omega)
  obtain ⟨ns, hns⟩ := bytesOf_some hob
  have hd1 := dstring_bs stS hb1 hns
  obtain ⟨io4, o4, o4'⟩ := p2.out
  generalize hV4 : V4 = W4 at o4
  generalize hol2 : out.length = ol at o4
  let q6 := ((A.push (.arr 50 [.slice a all.length c, .int .i64 g, .bool ct] .own)).push (.arr 54 [.int .i64 2, .slice a2 m2 c2, .int .i64 n] .own)).next
  cases o4 with
  | nil =>
    obtain ⟨v17, C, e1, e2, e3, e4, e5, e6⟩ := guarded_move h.toPipeFns k5.wf hP5 (show all.length ≤ _ by omega) hfls hn [A4.next] (fun j hj => by
      simp only [List.mem_singleton] at hj
      subst hj
      exact ⟨by omega, by omega⟩)
    rw [hout'] at e3 e4
    have e3' := e3.trans (congrArg (fun d => some (Ob.abs 1 d)) hmv)
    have hd2 := dstring_bs stS e4 hns
    have g7 := (e2.old q6 (by simp [q6, n5]; omega) (by simp [q6]; omega)).trans g6
    have k8 := (k5.trans e2).set g7 (by simp [q6]; omega) (.arr 50 W .own)
    refine ⟨g', _, ?run, hkb, k8, ?k2, k8.bs hw hP hV⟩
    case k2 => rw [Hp.get_set_ne _ _ (by simp [q6]; omega)]; exact e3'
    case run =>
      conv => lhs; whnf
      refine bind_of (cellsAt_of b4 _ _) ?_
      conv => lhs; whnf
      refine bind_of (cellsAt_of b3 _ _) ?_
      conv => lhs; whnf
      refine bind_of (cellsAt_of b4 _ _) ?_
      conv => lhs; whnf
      refine bind_of p1 ?_
      conv => lhs; whnf
      refine bind_of (dstore_of (Hp.get_push_same _ _) (t := 50) (o := 0) (cs' := W) rfl) ?_
      conv => lhs; whnf
      refine bind_of (cellsAt_of g8 _ _) ?_
      conv => lhs; whnf
      refine bind_of (cellsAt_of g5 _ _) ?_
      conv => lhs; whnf
      refine bind_of hd1 ?_
      refine bif_of (all_blk hb1 fun i => rfl) ?_
      subst hV4
      conv => lhs; whnf
      refine bind_of e1 ?_
      conv => lhs; whnf
      refine bind_of hd2 ?_
      refine bif_of (all_blk e4 fun i => rfl) ?_
      conv => lhs; whnf
      rw [beq_self_eq_true]
      conv => lhs; whnf
      rw [e5 hout']
      conv => lhs; whnf
      refine bind_of (dstore_of g7 (t := 50) (o := 0) (cs' := W) rfl) ?_
      conv => lhs; whnf
      refine bind_of (cellsAt_of (A := Hp.set _ q6 (some (.arr 50 W .own))) (i := q6) (Hp.get_set_same _ _ _) 0 3) ?_
      conv => lhs; whnf
      rw [beq_self_eq_true]
      rfl
  | «at» i4 _ _ hg4 _ hp4 =>
    have hi4 := p2.wf.lt hg4
    have hi5 := o4' i4 rfl
    obtain ⟨v17, C, e1, e2, e3, e4, e5, e6⟩ := guarded_move h.toPipeFns k5.wf hP5 (show all.length ≤ _ by omega) hfls hn [i4, A4.next] (fun j hj => by
      simp only [List.mem_cons, List.not_mem_nil, or_false] at hj
      rcases hj with rfl | rfl
      · exact ⟨by omega, by omega⟩
      · exact ⟨by omega, by omega⟩)
    rw [hout'] at e3 e4
    have e3' := e3.trans (congrArg (fun d => some (Ob.abs 1 d)) hmv)
    have hd2 := dstring_bs stS e4 hns
    have g7 := (e2.old q6 (by simp [q6, n5]; omega) (by simp [q6]; omega)).trans g6
    have hne : (pxOf all g ct).fl.take n.toNat ≠ [] := by
      rw [hout']
      intro e
      rw [e] at hol2
      exact hp4 hol2.symm
    obtain ⟨b7, hb7, hb7', hb7''⟩ := e6 hne
    obtain ⟨f1, f2, f3, f4, f5⟩ := guarded_store (o' := .arr 50 W .own) e2.wf g7 [b7, i4] (fun j hj => by
      have := e2.nx
      simp only [List.mem_cons, List.not_mem_nil, or_false] at hj
      rcases hj with rfl | rfl
      · exact ⟨hb7'', by simp [q6]; omega⟩
      · exact ⟨by omega, by simp [q6]; omega⟩)
    have k8 : KP P A (backL (backL A5 (backL A5 C [i4, A4.next]) []) (backL (backL A5 (backL A5 C [i4, A4.next]) []) ((guardL (hideL (backL A5 (backL A5 C [i4, A4.next]) []) []) [b7, i4]).set q6 (some (.arr 50 W .own))) [b7, i4]) []) := by
      have k7 := k5.trans e2
      refine ⟨f2, by rw [f3]; exact k7.nx, fun j hj hjP => ?_⟩
      rw [f5 j (by simp [q6]; omega), k7.old j hj hjP]
    refine ⟨g', _, ?run, hkb, k8, ?k2, k8.bs hw hP hV⟩
    case k2 => rw [f5 _ (by simp [q6]; omega)]; exact e3'
    case run =>
      conv => lhs; whnf
      refine bind_of (cellsAt_of b4 _ _) ?_
      conv => lhs; whnf
      refine bind_of (cellsAt_of b3 _ _) ?_
      conv => lhs; whnf
      refine bind_of (cellsAt_of b4 _ _) ?_
      conv => lhs; whnf
      refine bind_of p1 ?_
      conv => lhs; whnf
      refine bind_of (dstore_of (Hp.get_push_same _ _) (t := 50) (o := 0) (cs' := W) rfl) ?_
      conv => lhs; whnf
      refine bind_of (cellsAt_of g8 _ _) ?_
      conv => lhs; whnf
      refine bind_of (cellsAt_of g5 _ _) ?_
      conv => lhs; whnf
      refine bind_of hd1 ?_
      refine bif_of (all_blk hb1 fun i => rfl) ?_
      subst hV4
      conv => lhs; whnf
      refine bind_of e1 ?_
      conv => lhs; whnf
      refine bind_of hd2 ?_
      refine bif_of (all_blk e4 fun i => rfl) ?_
      conv => lhs; whnf
      rw [beq_self_eq_true]
      conv => lhs; whnf
      rw [hb7]
      conv => lhs; whnf
      refine bind_of (dstore_of f1 (t := 50) (o := 0) (cs' := W) rfl) ?_
      conv => lhs; whnf
      refine bind_of (cellsAt_of f4 0 3) ?_
      conv => lhs; whnf
      rw [beq_self_eq_true]
      rfl
end
end Go.Dn.Pipe
end

section
namespace Go.Dn.Pipe
open Go.Proofs
set_option maxHeartbeats 4000000
set_option maxRecDepth 100000
attribute [local irreducible] Hp.get Hp.set Hp.push dappend dcopy dstore cellsAt callD loopD dstring guardL hideL backL

theorem guarded_same {D : Hp} (hw : D.wf) {q : Nat} {o : Ob} (hq : D.get q = some o) (l : List Nat) (hl : ∀ j ∈ l, j < D.next ∧ j ≠ q) :
    (guardL (hideL D []) l).get q = some o ∧ (backL D (backL D ((guardL (hideL D []) l).set q (some o)) l) []).wf ∧ (backL D (backL D ((guardL (hideL D []) l).set q (some o)) l) []).next = D.next ∧
      ∀ j, (backL D (backL D ((guardL (hideL D []) l).set q (some o)) l) []).get j = D.get j := by
  obtain ⟨f1, f2, f3, f4, f5⟩ := guarded_store (o' := o) hw hq l hl
  refine ⟨f1, f2, f3, fun j => ?_⟩
  by_cases e : j = q
  · subst e; rw [f4, hq]
  · exact f5 j e
theorem guarded_push {D : Hp} (hw : D.wf) (o : Ob) (l : List Nat) (hl : ∀ j ∈ l, j < D.next) :
    (backL D (backL D ((guardL (hideL D []) l).push o) l) []).wf ∧ D.next ≤ (backL D (backL D ((guardL (hideL D []) l).push o) l) []).next ∧
      ∀ j, j < D.next → (backL D (backL D ((guardL (hideL D []) l).push o) l) []).get j = D.get j := by
  obtain ⟨d1, d2, d3, d4⟩ := back_facts (C := (guardL (hideL D []) l).push o) hl ((guard_wf hw l).push o) (by rw [Hp.next_push, guard_next]; omega)
  refine ⟨d1, by rw [d2, Hp.next_push, guard_next]; omega, fun j hj => ?_⟩
  by_cases hm : j ∈ l
  · exact d4 j hm
  · rw [d3 j hm, Hp.get_push_ne _ _ (by rw [guard_next]; omega), guard_get hm]

section
variable {call : CallT} {N : Nat} (h : StepFns call N) {P : Nat} {A : Hp} (hw : A.wf) {all : List Value} {g : Nat} (hg : g ≤ all.length)
include h hw hg

theorem step_cut (lf : Nat) {ct : Bool} (hP : A.get P = some (.abs 1 (pxOf all g ct).dat)) {a a2 : Option Addr} {c c2 m2 : Nat} (hV : BsAt A (.slice a all.length c) all) (n : Int) (hl : all.length ≤ 100000000) :
    ∃ A', kfn Tryd.bk.E call (Tryd.bk.inf 25) lf Tryd.f25 [ptr P, .agg #[.slice a all.length c, .int .i64 g, .bool ct], .agg #[.int .i64 4, .slice a2 m2 c2, .int .i64 n]] A =
      some (.tuple #[.agg #[.slice a all.length c, .int .i64 g, .bool true], .bool true], A') ∧ KP P A A' ∧ A'.get P = some (.abs 1 (pxOf all g true).dat) ∧ BsAt A' (.slice a all.length c) all := by
  obtain ⟨b1, b2, b3, b4, b5⟩ := boxes_ok hw [.slice a all.length c, .int .i64 g, .bool ct] [.int .i64 4, .slice a2 m2 c2, .int .i64 n]
  have hPl := hw.lt hP
  obtain ⟨A4, p1, p2⟩ := h.rbreak a all.length c g ct b1.wf hg (by omega)
  have hP4 : A4.get P = some (.abs 1 (pxOf all g ct).dat) := by rw [p2.old P (by omega), b1.old P hPl]; exact hP
  have hfl : (pxOf all g ct).fl.length = lftOf ct all.length g := by
    unfold pxOf lftOf
    cases ct <;> simp
  have hcut : PX.dat { pxOf all g ct with fl := [], c := true } = (pxOf all g true).dat := rfl
  let W : List Value := [.slice a all.length c, .int .i64 g, .bool true]
  let Z : List Value := [.slice none 0 0, .int .i64 0, .bool false]
  let A5 : Hp := (A4.push (.arr 50 Z .own)).set A4.next (some (.arr 50 W .own))
  let q6 := ((A.push (.arr 50 [.slice a all.length c, .int .i64 g, .bool ct] .own)).push (.arr 54 [.int .i64 4, .slice a2 m2 c2, .int .i64 n] .own)).next
  have hq6 : q6 = A.next + 2 := by simp [q6]
  have k4 : KP P A A4 := (b1.trans p2).toP P
  have k5 : KP P A A5 := (k4.trans ((Kp.push p2.wf _).toP P)).set (Hp.get_push_same _ _) (by have := k4.nx; omega) _
  have n5 : A5.next = A4.next + 1 := by simp [A5]
  have k45 : KP P A4 A5 := ((Kp.push p2.wf (.arr 50 Z .own)).toP P).set (Hp.get_push_same _ _) (Nat.le_refl _) _
  have hlt4 : A.next + 3 ≤ A4.next := by have := p2.nx; omega
  have g6 : A5.get q6 = some (.arr 50 Z .own) := by
    rw [k45.old _ (by omega) (by omega), p2.old _ (by omega)]; exact b5
  have g8 : A5.get A4.next = some (.arr 50 W .own) := Hp.get_set_same _ _ _
  have hP5 : A5.get P = some (.abs 1 (pxOf all g ct).dat) := by rw [Hp.get_set_ne _ _ (by omega), Hp.get_push_ne _ _ (by omega)]; exact hP4
  obtain ⟨f1, f2, f3, f4, f5⟩ := guarded_store (o' := .abs 1 (pxOf all g true).dat) k5.wf hP5 [A4.next] (fun j hj => by
    simp only [List.mem_singleton] at hj
    subst hj
    exact ⟨by omega, by omega⟩)
  have hc := h.cut (CutR.mk _ P _ f1 (show all.length ≤ _ by omega))
  rw [hfl, hcut] at hc
  have g7 := (f5 q6 (by omega)).trans g6
  have k6 : KP P A (backL A5 (backL A5 ((guardL (hideL A5 []) [A4.next]).set P (some (.abs 1 (pxOf all g true).dat))) [A4.next]) []) :=
    ⟨f2, by rw [f3]; exact k5.nx, fun j hj hjP => by rw [f5 j hjP, k5.old j hj hjP]⟩
  have k8 := k6.set g7 (by omega) (.arr 50 W .own)
  refine ⟨_, ?run, k8, ?k2, k8.bs hw hP hV⟩
  case k2 => rw [Hp.get_set_ne _ _ (by omega)]; exact f4
  case run =>
    conv => lhs; whnf
    refine bind_of (cellsAt_of b4 _ _) ?_
    conv => lhs; whnf
    refine bind_of (cellsAt_of b3 _ _) ?_
    conv => lhs; whnf
    refine bind_of p1 ?_
    conv => lhs; whnf
    refine bind_of (dstore_of (Hp.get_push_same _ _) (t := 50) (o := 0) (cs' := W) rfl) ?_
    conv => lhs; whnf
    refine bind_of (cellsAt_of g8 _ _) ?_
    conv => lhs; whnf
    refine bind_of hc ?_
    conv => lhs; whnf
    refine bind_of (dstore_of g7 (t := 50) (o := 0) (cs' := W) rfl) ?_
    conv => lhs; whnf
    refine bind_of (cellsAt_of (A := Hp.set _ q6 (some (.arr 50 W .own))) (i := q6) (Hp.get_set_same _ _ _) 0 3) ?_
    conv => lhs; whnf
    rw [beq_self_eq_true]
    rfl

theorem step_len (lf : Nat) {ct : Bool} (hP : A.get P = some (.abs 1 (pxOf all g ct).dat)) {a a2 : Option Addr} {c c2 m2 : Nat} (hV : BsAt A (.slice a all.length c) all) (n : Int) (hl : all.length ≤ 100000000) :
    ∃ A', kfn Tryd.bk.E call (Tryd.bk.inf 25) lf Tryd.f25 [ptr P, .agg #[.slice a all.length c, .int .i64 g, .bool ct], .agg #[.int .i64 3, .slice a2 m2 c2, .int .i64 n]] A =
      some (.tuple #[.agg #[.slice a all.length c, .int .i64 g, .bool ct], .bool true], A') ∧ KP P A A' ∧ A'.get P = some (.abs 1 (pxOf all g ct).dat) ∧ BsAt A' (.slice a all.length c) all := by
  obtain ⟨b1, b2, b3, b4, b5⟩ := boxes_ok hw [.slice a all.length c, .int .i64 g, .bool ct] [.int .i64 3, .slice a2 m2 c2, .int .i64 n]
  have hPl := hw.lt hP
  let A3 : Hp := boxes A [.slice a all.length c, .int .i64 g, .bool ct] [.int .i64 3, .slice a2 m2 c2, .int .i64 n]
  have hP3 : A3.get P = some (.abs 1 (pxOf all g ct).dat) := by rw [b1.old P hPl]; exact hP
  have hfl : (pxOf all g ct).fl.length = lftOf ct all.length g := by
    unfold pxOf lftOf
    cases ct <;> simp
  let q6 := ((A.push (.arr 50 [.slice a all.length c, .int .i64 g, .bool ct] .own)).push (.arr 54 [.int .i64 3, .slice a2 m2 c2, .int .i64 n] .own)).next
  have hq6 : q6 = A.next + 2 := by simp [q6]
  have hlen : ∀ B : Hp, B.get P = some (.abs 1 (pxOf all g ct).dat) → call 16 [ptr P] B = some (.int .i64 (lftOf ct all.length g : Nat), B.set P (some (.abs 1 (pxOf all g ct).dat))) := fun B hB => by
    have := h.len (LenR.mk B P _ hB (show all.length ≤ _ by omega))
    rw [hfl] at this
    exact this
  have hpas : ∀ B : Hp, B.get P = some (.abs 1 (pxOf all g ct).dat) → call 18 [ptr P] B = some (.int .u64 (g : Nat), B.set P (some (.abs 1 (pxOf all g ct).dat))) := fun B hB => h.passed (PassedR.mk B P _ hB)
  have hbro : ∀ B : Hp, B.get P = some (.abs 1 (pxOf all g ct).dat) → call 19 [ptr P] B = some (.bool ct, B.set P (some (.abs 1 (pxOf all g ct).dat))) := fun B hB => h.broken (BrokenR.mk B P _ hB)
  obtain ⟨s1, s2, s3, s4⟩ := guarded_same b1.wf hP3 [A.next, A.next] (fun j hj => by
    simp only [List.mem_cons, List.not_mem_nil, or_false, or_self] at hj
    subst hj
    exact ⟨by omega, by omega⟩)
  let D1 : Hp := backL A3 (backL A3 ((guardL (hideL A3 []) [A.next, A.next]).set P (some (.abs 1 (pxOf all g ct).dat))) [A.next, A.next]) []
  let D2 : Hp := backL D1 (backL D1 ((guardL (hideL D1 []) [A.next]).push (.arr 50 [.slice a all.length c, .int .i64 g, .bool ct] .own)) [A.next]) []
  have hA3n : A3.next = A.next + 3 := b2
  obtain ⟨t1, t2, t3⟩ := guarded_push (D := D1) s2 (.arr 50 [.slice a all.length c, .int .i64 g, .bool ct] .own) [A.next] (fun j hj => by
    simp only [List.mem_singleton] at hj
    subst hj
    show _ < D1.next
    rw [show D1.next = A3.next from s3]
    omega)
  have o2 : ∀ j, j < A.next + 3 → D2.get j = A3.get j := fun j hj => by
    rw [t3 j (by rw [s3]; omega), s4]
  have c2' : D2.get A.next = some (.arr 50 [.slice a all.length c, .int .i64 g, .bool ct] .own) := (o2 _ (by omega)).trans b3
  have hn2 : A.next + 3 ≤ D2.next := by
    have h1 : D1.next = A3.next := s3
    have h2 : D1.next ≤ D2.next := t2
    omega
  have hP2 : D2.get P = some (.abs 1 (pxOf all g ct).dat) := (o2 P (by omega)).trans hP3
  have hwg : IntKind.u64.wrap (g : Int) = (g : Int) := wrapu (by omega)
  obtain ⟨v1, v2, v3, v4⟩ := guarded_same (D := D2) t1 hP2 [A.next, A.next] (fun j hj => by
    simp only [List.mem_cons, List.not_mem_nil, or_false, or_self] at hj
    subst hj
    exact ⟨by omega, by omega⟩)
  let D3 : Hp := backL D2 (backL D2 ((guardL (hideL D2 []) [A.next, A.next]).set P (some (.abs 1 (pxOf all g ct).dat))) [A.next, A.next]) []
  have c3' : D3.get A.next = some (.arr 50 [.slice a all.length c, .int .i64 g, .bool ct] .own) := (v4 _).trans c2'
  obtain ⟨x1, x2, x3, x4⟩ := guarded_same (D := D3) v2 ((v4 P).trans hP2) [A.next, A.next] (fun j hj => by
    have : D3.next = D2.next := v3
    simp only [List.mem_cons, List.not_mem_nil, or_false, or_self] at hj
    subst hj
    exact ⟨by omega, by omega⟩)
  let D4 : Hp := backL D3 (backL D3 ((guardL (hideL D3 []) [A.next, A.next]).set P (some (.abs 1 (pxOf all g ct).dat))) [A.next, A.next]) []
  have o4 : ∀ j, j < A.next + 3 → D4.get j = A3.get j := fun j hj => (x4 j).trans ((v4 j).trans (o2 j hj))
  have n4 : D4.next = D2.next := x3.trans v3
  have c4' : D4.get q6 = some (.arr 50 [.slice none 0 0, .int .i64 0, .bool false] .own) := (o4 _ (by omega)).trans b5
  have k4 : KP P A D4 := ⟨x2, by rw [n4]; omega, fun j hj hjP => (o4 j (by omega)).trans (b1.old j hj)⟩
  obtain ⟨y1, y2, y3, y4, y5⟩ := guarded_store (D := D4) (o' := .arr 50 [.slice a all.length c, .int .i64 g, .bool ct] .own) x2 c4' [A.next] (fun j hj => by
    simp only [List.mem_cons, List.not_mem_nil, or_false] at hj
    subst hj
    exact ⟨by omega, by omega⟩)
  let D5 : Hp := backL D4 (backL D4 ((guardL (hideL D4 []) [A.next]).set q6 (some (.arr 50 [.slice a all.length c, .int .i64 g, .bool ct] .own))) [A.next]) []
  have k8 : KP P A D5 := ⟨y2, by rw [show D5.next = D4.next from y3]; exact k4.nx, fun j hj hjP => (y5 j (by omega)).trans (k4.old j hj hjP)⟩
  refine ⟨D5, ?run, k8, (y5 P (by omega)).trans ((o4 P (by omega)).trans hP3), k8.bs hw hP hV⟩
  case run =>
    conv => lhs; whnf
    refine bind_of (cellsAt_of b4 _ _) ?_
    conv => lhs; whnf
    refine bind_of (cellsAt_of b3 _ _) ?_
    conv => lhs; whnf
    refine bind_of (cellsAt_of b3 _ _) ?_
    conv => lhs; whnf
    refine bind_of (hlen _ s1) ?_
    conv => lhs; whnf
    refine bind_of (h.left _ a all.length c g ct hg (by omega)) ?_
    conv => lhs; whnf
    rw [beq_self_eq_true]
    conv => lhs; whnf
    refine bind_of (cellsAt_of c2' _ _) ?_
    conv => lhs; whnf
    refine bind_of (hpas _ v1) ?_
    conv => lhs; whnf
    rw [hwg, beq_self_eq_true]
    conv => lhs; whnf
    refine bind_of (cellsAt_of c3' _ _) ?_
    conv => lhs; whnf
    refine bind_of (hbro _ x1) ?_
    conv => lhs; whnf
    refine bind_of (dstore_of y1 (t := 50) (o := 0) (cs' := [.slice a all.length c, .int .i64 g, .bool ct]) rfl) ?_
    conv => lhs; whnf
    refine bind_of (cellsAt_of y4 0 3) ?_
    conv => lhs; whnf
    rw [beq_self_eq_true]
    rfl
end
end Go.Dn.Pipe
end

section
namespace Go.Dn.Pipe
open Go.Proofs
set_option maxHeartbeats 4000000
set_option maxRecDepth 100000
attribute [local irreducible] Hp.get Hp.set Hp.push dappend dcopy dstore cellsAt callD loopD guardL hideL backL

theorem guarded_kp {D C : Hp} {l : List Nat} (hl : ∀ j ∈ l, j < D.next) (hk : Kp (guardL (hideL D []) l) C) :
    Kp D (backL D (backL D C l) []) ∧ (backL D (backL D C l) []).next = C.next ∧ ∀ j, D.next ≤ j → (backL D (backL D C l) []).get j = C.get j := by
  have hn := hk.nx
  rw [guard_next] at hn
  obtain ⟨d1, d2, d3, d4⟩ := back_facts hl hk.wf hn
  refine ⟨⟨d1, by rw [d2]; exact hn, fun j hj => ?_⟩, d2, fun j hj => d3 j fun hm => by have := hl j hm; omega⟩
  by_cases hm : j ∈ l
  · exact d4 j hm
  · rw [d3 j hm, hk.old j (by rw [guard_next]; exact hj), guard_get hm]

/-- how many bytes of payload -/
def szOf (typ ln : Int) : Int := bif typ == 0 then IntKind.i64.wrap ln else 0

theorem size_walk {call : CallT} (lf : Nat) (A : Hp) (ver typ fl st ln : Int) :
    kfn Tryd.bk.E call (Tryd.bk.inf 66) lf Tryd.f66 [.agg #[.int .u8 ver, .int .u8 typ, .int .u16 fl, .int .u32 st, .int .u32 ln]] A = some (.int .i64 (szOf typ ln), A.push (.arr 84 [.int .u8 ver, .int .u8 typ, .int .u16 fl, .int .u32 st, .int .u32 ln] .own)) := by
  have hq : (A.push (.arr 84 [.int .u8 ver, .int .u8 typ, .int .u16 fl, .int .u32 st, .int .u32 ln] .own)).get A.next = some (.arr 84 [.int .u8 ver, .int .u8 typ, .int .u16 fl, .int .u32 st, .int .u32 ln] .own) := Hp.get_push_same _ _
  unfold szOf
  cases ht : (typ == 0) with
  | true =>
    conv => lhs; whnf
    refine bind_of (cellsAt_of hq _ _) ?_
    conv => lhs; whnf
    rw [ht]
    conv => lhs; whnf
    refine bind_of (cellsAt_of hq _ _) ?_
    conv => lhs; whnf
    rfl
  | false =>
    conv => lhs; whnf
    refine bind_of (cellsAt_of hq _ _) ?_
    conv => lhs; whnf
    rw [ht]
    conv => lhs; whnf
    rfl

def SizeOK (call : CallT) : Prop := ∀ (A : Hp) (ver typ fl st ln : Int), call 66 [.agg #[.int .u8 ver, .int .u8 typ, .int .u16 fl, .int .u32 st, .int .u32 ln]] A = some (.int .i64 (szOf typ ln), A.push (.arr 84 [.int .u8 ver, .int .u8 typ, .int .u16 fl, .int .u32 st, .int .u32 ln] .own))
def EncOK (call : CallT) : Prop := ∀ {A : Hp}, A.wf → ∀ (ver typ fl st ln : Int), ∃ b A', call 67 [.agg #[.int .u8 ver, .int .u8 typ, .int .u16 fl, .int .u32 st, .int .u32 ln]] A = some (.slice (some ⟨b, 0, some 1⟩) 12 25, A') ∧ Kp A A' ∧ A'.get b = some (.arr 5 (hdrOf ver typ fl st ln) .own) ∧ A.next ≤ b

theorem bytes_walk {call : CallT} (h66 : SizeOK call) (h67 : EncOK call) (lf : Nat) {A : Hp} (hw : A.wf) (ver typ fl st ln : Int) {a : Option Addr} {c : Nat} {us : List Value} (hB : BsAt A (.slice a us.length c) us) (hl : us.length ≤ 100000000) (hsz : (us.length : Int) = szOf typ ln) :
    ∃ V A' io, kfn Tryd.bk.E call (Tryd.bk.inf 41) lf Tryd.f41 [.agg #[.int .u8 ver, .int .u8 typ, .int .u16 fl, .int .u32 st, .int .u32 ln, .slice a us.length c]] A = some (.tuple #[V, .nilIface], A') ∧ Kp A A' ∧ SlAt 5 1 A' V (some io) (hdrOf ver typ fl st ln ++ us) (12 + us.length) ∧ A.next ≤ io := by
  let F : List Value := [.int .u8 ver, .int .u8 typ, .int .u16 fl, .int .u32 st, .int .u32 ln, .slice a us.length c]
  let A1 : Hp := A.push (.arr 86 F .own)
  have q1 : A1.get A.next = some (.arr 86 F .own) := Hp.get_push_same _ _
  let H : List Value := [.int .u8 ver, .int .u8 typ, .int .u16 fl, .int .u32 st, .int .u32 ln]
  have w1 : A1.wf := hw.push _
  have n1 : A1.next = A.next + 1 := by simp [A1]
  let D1 : Hp := backL A1 (backL A1 ((guardL (hideL A1 []) [A.next]).push (.arr 84 H .own)) [A.next]) []
  have kD1 : Kp A1 D1 := (guarded_kp (l := [A.next]) (fun j hj => by simp only [List.mem_singleton] at hj; omega) (Kp.push (guard_wf w1 _) (.arr 84 H .own))).1
  have hlD1 := kD1.nx
  have qD1 : D1.get A.next = some (.arr 86 F .own) := by rw [kD1.old _ (by omega)]; exact q1
  have hbn : (((us.length : Nat) : Int) != szOf typ ln) = false := by rw [hsz]; exact bne_self_eq_false _
  obtain ⟨b, C, e1, e2, e3, e4⟩ := h67 (guard_wf kD1.wf [A.next]) ver typ fl st ln
  rw [guard_next] at e4
  let D2 : Hp := backL D1 (backL D1 C [A.next]) []
  obtain ⟨kD2, n2, o2⟩ := guarded_kp (D := D1) (l := [A.next]) (fun j hj => by simp only [List.mem_singleton] at hj; omega) e2
  have qD2 : D2.get A.next = some (.arr 86 F .own) := by rw [kD2.old _ (by omega)]; exact qD1
  have gb : D2.get b = some (.arr 5 (hdrOf ver typ fl st ln) .own) := (o2 b e4).trans e3
  have kA : Kp A D2 := ((Kp.push hw _).trans kD1).trans kD2
  have hBD : BsAt D2 (.slice a us.length c) us := hB.old hw kA.old
  have hV : SlAt 5 1 D2 (.slice (some ⟨b, 0, some 1⟩) 12 25) (some b) (hdrOf ver typ fl st ln) 12 := .at b 0 12 25 _ _ (.inr rfl) gb (by rw [hdr_len]; omega) rfl
  obtain ⟨V', A', io', a1, a2, a3, a4, a5, a6⟩ := append_at elB elB2 hV hBD.elems (by simp) (by omega) (by unfold maxLen; omega)
  obtain ⟨i', rfl, hi'⟩ : ∃ i', io' = some i' ∧ A.next ≤ i' := by
    rcases a6 with ⟨e, _⟩ | ⟨i', e, e', _⟩
    · exact ⟨b, e, by omega⟩
    · exact ⟨i', e, by have := kA.nx; omega⟩
  have kF : Kp A A' := ⟨a4 kA.wf, by have := kA.nx; omega, fun j hj => by rw [a5 j (by have := kA.nx; omega) (fun e => by cases e; omega), kA.old j hj]⟩
  refine ⟨V', A', i', ?run, kF, a2, hi'⟩
  case run =>
    conv => lhs; whnf
    refine bind_of (cellsAt_of q1 _ _) ?_
    conv => lhs; whnf
    refine bind_of (cellsAt_of q1 _ _) ?_
    conv => lhs; whnf
    refine bind_of (h66 _ ver typ fl st ln) ?_
    conv => lhs; whnf
    rw [hbn]
    conv => lhs; whnf
    refine bind_of (cellsAt_of qD1 _ _) ?_
    conv => lhs; whnf
    refine bind_of (cellsAt_of qD1 _ _) ?_
    conv => lhs; whnf
    refine bind_of e1 ?_
    conv => lhs; whnf
    refine bind_of a1 ?_
    conv => lhs; whnf
    rfl

theorem bytes_bad {call : CallT} (h66 : SizeOK call) (lf : Nat) {A : Hp} (hw : A.wf) (ver typ fl st ln : Int) {a : Option Addr} {c m : Nat} (h5 : A.get 5 = some (er 5)) (hsz : (m : Int) ≠ szOf typ ln) :
    ∃ A', kfn Tryd.bk.E call (Tryd.bk.inf 41) lf Tryd.f41 [.agg #[.int .u8 ver, .int .u8 typ, .int .u16 fl, .int .u32 st, .int .u32 ln, .slice a m c]] A = some (.tuple #[.slice none 0 0, .iface 168 (.pointer (some ⟨48, 0, none⟩))], A') ∧ Kp A A' := by
  let F : List Value := [.int .u8 ver, .int .u8 typ, .int .u16 fl, .int .u32 st, .int .u32 ln, .slice a m c]
  let A1 : Hp := A.push (.arr 86 F .own)
  have q1 : A1.get A.next = some (.arr 86 F .own) := Hp.get_push_same _ _
  let H : List Value := [.int .u8 ver, .int .u8 typ, .int .u16 fl, .int .u32 st, .int .u32 ln]
  have w1 : A1.wf := hw.push _
  have n1 : A1.next = A.next + 1 := by simp [A1]
  let D1 : Hp := backL A1 (backL A1 ((guardL (hideL A1 []) [A.next]).push (.arr 84 H .own)) [A.next]) []
  have kD1 : Kp A1 D1 := (guarded_kp (l := [A.next]) (fun j hj => by simp only [List.mem_singleton] at hj; omega) (Kp.push (guard_wf w1 _) (.arr 84 H .own))).1
  have kA : Kp A D1 := (Kp.push hw _).trans kD1
  have g5 : D1.get 5 = some (er 5) := by rw [kA.old 5 (hw.lt h5)]; exact h5
  have hbn : (((m : Nat) : Int) != szOf typ ln) = true := bne_iff_ne.2 hsz
  refine ⟨D1, ?run, kA⟩
  case run =>
    conv => lhs; whnf
    refine bind_of (cellsAt_of q1 _ _) ?_
    conv => lhs; whnf
    refine bind_of (cellsAt_of q1 _ _) ?_
    conv => lhs; whnf
    refine bind_of (h66 _ ver typ fl st ln) ?_
    conv => lhs; whnf
    rw [hbn]
    conv => lhs; whnf
    refine bind_of (cellsAt_of g5 _ _) ?_
    conv => lhs; whnf
    rfl
end Go.Dn.Pipe
end
