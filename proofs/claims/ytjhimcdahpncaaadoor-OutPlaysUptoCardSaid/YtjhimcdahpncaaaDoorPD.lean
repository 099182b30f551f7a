/-
  Part of the abstract machine for this program.
-/
import Derived.Test.YtjhimcdahpncaaaDoorDnH
import Derived.Test.YtjhimcdahpncaaaDoorPC

section
namespace Go.Dn

/-- a slice of bytes (or of any elements of one cell) that can be read -/
inductive BsAt (A : Hp) : Value → List Value → Prop where
  | nil (c : Nat) (hc : c ≤ 1) : BsAt A (.slice none 0 c) []
  | at (i o n c : Nat) (T : TypeId) (cs us : List Value) (md : Md) (hg : A.get i = some (.arr T cs md)) (hl : o + n ≤ cs.length) (hu : (cs.drop o).take n = us) (hc : n ≤ c / 2) : BsAt A (.slice (some ⟨i, o, some 1⟩) n c) us

theorem BsAt.form {A : Hp} {v : Value} {us : List Value} (h : BsAt A v us) : ∃ a c, v = .slice a us.length c := by
  cases h with
  | nil c => exact ⟨none, c, rfl⟩
  | «at» i o n c T cs _ md hg hl hu hc =>
    refine ⟨some ⟨i, o, some 1⟩, c, ?_⟩
    have : us.length = n := by rw [← hu]; simp; omega
    rw [this]

theorem BsAt.keep {A A' : Hp} {v : Value} {us : List Value} (h : BsAt A v us) (hk : ∀ i o, A.get i = some o → (∃ b q s m c, v = .slice (some ⟨b, q, s⟩) m c ∧ b = i) → A'.get i = A.get i) : BsAt A' v us := by
  cases h with
  | nil c hc => exact .nil c hc
  | «at» i o n c T cs _ md hg hl hu hc => exact .at i o n c T cs us md (by rw [hk i _ hg ⟨_, _, _, _, _, rfl, rfl⟩]; exact hg) hl hu hc

/-- all older objects are as they were -/
theorem BsAt.old {A A' : Hp} {v : Value} {us : List Value} (h : BsAt A v us) (hw : A.wf) (hk : ∀ i, i < A.next → A'.get i = A.get i) : BsAt A' v us :=
  h.keep fun i _ hi _ => hk i (hw.lt hi)

theorem BsAt.elems {A : Hp} {v : Value} {us : List Value} (h : BsAt A v us) : elemsOf A 1 v = some (us.length, us) := by
  cases h with
  | nil c hc =>
    match c, hc with
    | 0, _ => rfl
    | 1, _ => rfl
  | «at» i o n c T cs _ md hg hl hu hc =>
    have hlen : us.length = n := by rw [← hu]; simp; omega
    simp only [elemsOf, if_true]
    cases hn : Nat.beq n 0 with
    | true =>
      have : n = 0 := by simpa using hn
      subst this
      have : us = [] := List.eq_nil_of_length_eq_zero hlen
      subst this
      rfl
    | false =>
      simp only [cond_false]
      rw [Nat.mul_one, cellsAt_of hg, cellsIn_of hl hu, hlen]
      rfl

theorem SlAt.bs {e : TypeId} {A : Hp} {v : Value} {io : Option Nat} {us : List Value} {n : Nat} (h : SlAt e 1 A v io us n) : BsAt A v us := by
  cases h with
  | nil => exact .nil 0 (by omega)
  | «at» i o _ c cs _ hc hg hl hu => exact .at i o n c e cs us .own hg (by omega) (by rw [Nat.mul_one] at hu; exact hu) (by omega)

end Go.Dn
end

section
/-
  a pipe's functions as a law calls them
-/
namespace Go.Dn.Pipe
open Go.Proofs
set_option maxHeartbeats 4000000
set_option maxRecDepth 100000
attribute [local irreducible] Hp.get Hp.set Hp.push dappend dcopy dstore cellsAt callD loopD

/-- bytes of one's own: where, and what is new -/
def copV (n : Nat) (us : List Value) : Value := match us with
  | [] => .slice (some ⟨n, 0, some 1⟩) 0 1
  | _ :: _ => .slice (some ⟨n + 1, 0, some 1⟩) us.length (2 * us.length)
def copH (A : Hp) (us : List Value) : Hp := match us with
  | [] => A.push (.arr 5 [] .own)
  | _ :: _ => (A.push (.arr 5 [] .own)).push (.arr 5 us .own)

theorem append_odd {E : Env} {t t2 e sz bz : Nat} (hE : ElT E t e sz bz) (hE2 : ∃ i e2, E.T t2 = some i ∧ i.d = .slice e2) {A : Hp} {k : Nat} {x : Value} {ys : List Value} {m : Nat} (hg : A.get k = some (.arr e [] .own))
    (hx : elemsOf A sz x = some (m, ys)) (hb : m * bz ≤ 140737488355328) (hM : m ≤ maxLen) :
    dappend E t t2 A (.slice (some ⟨k, 0, some sz⟩) 0 1) x = some (if m = 0 then (.slice (some ⟨k, 0, some sz⟩) 0 1, A) else (.slice (some ⟨A.next, 0, some sz⟩) m (2 * m), A.push (.arr e ys .own))) := by
  obtain ⟨⟨i, h1, h2⟩, ⟨j, z, h3, h4, h5, h6, h7⟩, h8⟩ := hE
  obtain ⟨i2, e2, g1, g2⟩ := hE2
  unfold dappend
  rw [h1, g1]
  simp only [Option.bind_some, h2, g2, h3, h6, h4, hx, h7, h5]
  cases hm0 : Nat.beq m 0 with
  | true =>
    have : m = 0 := by simpa using hm0
    subst this
    rfl
  | false =>
    have hmp : m ≠ 0 := fun e => by subst e; simp at hm0
    simp only [cond_false]
    rw [if_pos ⟨trivial, h8⟩]
    simp only [Nat.zero_add]
    rw [if_pos ⟨trivial, hM, hb⟩]
    rw [if_neg (show ¬ (m ≤ 1 / 2) by omega)]
    have hel := (SlAt.at (e := e) (sz := sz) k 0 0 1 [] [] (.inr rfl) hg (by simp) (by simp)).elems
    rw [hel]
    simp only [Option.bind_some]
    rw [if_pos trivial, if_neg hmp]
    simp

/-- the pipe's functions, called -/
structure PipeFns (call : CallT) : Prop where
  wakes : ∀ A, call 12 [] A = some (.bool true, A)
  new : ∀ {args A r}, NewR args A r → call 13 args A = some r
  put : ∀ {args A r}, PutR args A r → call 14 args A = some r
  copied : ∀ {A x} {us : List Value}, A.wf → elemsOf A 1 x = some (us.length, us) → us.length ≤ 1073741824 → call 15 [x] A = some (copV A.next us, copH A us)
  len : ∀ {args A r}, LenR args A r → call 16 args A = some r
  move : ∀ {args A r}, MoveR args A r → call 17 args A = some r
  passed : ∀ {args A r}, PassedR args A r → call 18 args A = some r
  broken : ∀ {args A r}, BrokenR args A r → call 19 args A = some r

theorem copied_exact {call : CallT} (lf : Nat) {A : Hp} (hw : A.wf) {x : Value} {us : List Value} (hx : elemsOf A 1 x = some (us.length, us)) (hl : us.length ≤ 1073741824) :
    kfn Tryd.bk.E call (Tryd.bk.inf 15) lf Tryd.f15 [x] A = some (copV A.next us, copH A us) := by
  have h2 : elemsOf (A.push (.arr 5 [] .own)) 1 x = some (us.length, us) := elemsOf_keep hx fun i o hi _ => Hp.get_push_ne _ _ (by have := hw.lt hi; omega)
  have h3 := append_odd elB elB2 (Hp.get_push_same A (.arr 5 [] .own)) h2 (by omega) (by unfold maxLen; omega)
  have h4 : (if us.length = 0 then ((.slice (some ⟨A.next, 0, some 1⟩) 0 1 : Value), A.push (.arr 5 [] .own)) else (.slice (some ⟨(A.push (.arr 5 [] .own)).next, 0, some 1⟩) us.length (2 * us.length), (A.push (.arr 5 [] .own)).push (.arr 5 us .own))) = (copV A.next us, copH A us) := by
    cases us with
    | nil => rfl
    | cons y l => simp [copV, copH]
  rw [h4] at h3
  conv => lhs; whnf
  refine bind_of h3 ?_
  conv => lhs; whnf
  rfl

theorem T3_fns {base : CallT} (hw : ∀ A, base 12 [] A = some (.bool true, A)) (h15 : ∀ args A, base 15 args A = none) (n : Nat) : PipeFns (callD Tryd.bk (T3 base) (n + 1)) := by
  refine ⟨fun A => callD_base (show T3 base 12 [] A = _ from hw A) _, fun h => callD_base ?_ _, fun h => callD_base ?_ _, fun hw' hx hl => ?_, fun h => callD_base ?_ _, fun h => callD_base ?_ _, fun h => callD_base ?_ _, fun h => callD_base ?_ _⟩
  · exact byRel_of h fun r' h' => h.one h'
  · exact byRel_of h fun r' h' => h.one h'
  · exact callD_of (h15 _ _) (fn := Tryd.f15) rfl (copied_exact n hw' hx hl)
  · exact byRel_of h fun r' h' => h.one h'
  · exact byRel_of h fun r' h' => h.one h'
  · exact byRel_of h fun r' h' => h.one h'
  · exact byRel_of h fun r' h' => h.one h'

theorem _root_.Go.Dn.CanAt.keep {e sz : Nat} {A A' : Hp} {v : Value} {io : Option Nat} {us : List Value} {n : Nat} (h : CanAt e sz A v io us n) (hk : ∀ i, io = some i → A'.get i = A.get i) : CanAt e sz A' v io us n := by
  cases h with
  | nil => exact .nil
  | «at» i _ _ hg hl hp => exact .at i n us (by rw [hk i rfl]; exact hg) hl hp
theorem _root_.Go.Dn.CanAt.lt {e sz : Nat} {A : Hp} {v : Value} {i : Nat} {us : List Value} {n : Nat} (h : CanAt e sz A v (some i) us n) (hw : A.wf) : i < A.next := by
  cases h with
  | «at» _ _ _ hg hl hp => exact hw.lt hg
theorem wrapu {n : Nat} (h : n ≤ 18446744073709551615) : IntKind.u64.wrap (n : Int) = (n : Int) := by
  show (n : Int) % 18446744073709551616 = n
  omega

/-! ## a Put, a Move -/
theorem copV_form (n : Nat) (us : List Value) : ∃ i c, copV n us = .slice (some ⟨i, 0, some 1⟩) us.length c ∧ n ≤ i ∧ i ≤ n + 1 := by
  cases us with
  | nil => exact ⟨n, 1, rfl, by omega, by omega⟩
  | cons y l => exact ⟨n + 1, _, rfl, by omega, by omega⟩

theorem copH_old (A : Hp) (us : List Value) : ∀ j, j < A.next → (copH A us).get j = A.get j := by
  intro j hj
  cases us with
  | nil => exact Hp.get_push_ne _ _ (by omega)
  | cons y l =>
    show ((A.push (.arr 5 [] .own)).push (.arr 5 (y :: l) .own)).get j = _
    rw [Hp.get_push_ne _ _ (by simp; omega), Hp.get_push_ne _ _ (by omega)]

theorem copH_wf {A : Hp} (hw : A.wf) (us : List Value) : (copH A us).wf := by
  cases us with
  | nil => exact hw.push _
  | cons y l => exact (hw.push _).push _

theorem copH_next (A : Hp) (us : List Value) : A.next < (copH A us).next := by
  cases us with
  | nil => simp [copH]
  | cons y l => simp [copH]; omega

theorem copV_at (A : Hp) (us : List Value) : ∃ i c, copV A.next us = .slice (some ⟨i, 0, some 1⟩) us.length c ∧ A.next ≤ i ∧ i < (copH A us).next ∧ (copH A us).get i = some (.arr 5 us .own) ∧ us.length ≤ c / 2 := by
  cases us with
  | nil => exact ⟨A.next, 1, rfl, by omega, by simp [copH], Hp.get_push_same _ _, by simp⟩
  | cons y l => exact ⟨A.next + 1, _, rfl, by omega, by simp [copH], Hp.get_push_at _ (by simp), by simp⟩

theorem put_phase {call : CallT} (h : PipeFns call) {A : Hp} {P : Nat} {x : PX} (hw : A.wf) (hP : A.get P = some (.abs 1 x.dat)) (hx : x.c = false) {v : Value} {seg : List Value} (hv : elemsOf A 1 v = some (seg.length, seg))
    (hpl : ∀ u ∈ seg, plain0 u = true) (hb : x.n + seg.length ≤ 1073741824) :
    ∃ wv A1 A2, call 15 [v] A = some (wv, A1) ∧ call 14 [ptr P, wv] A1 = some (.tuple #[.int .i64 seg.length, .nilIface], A2) ∧ A2.wf ∧ A.next ≤ A2.next ∧ (∀ j, j < A.next → j ≠ P → A2.get j = A.get j) ∧
      A2.get P = some (.abs 1 (PX.dat { x with fl := x.fl ++ seg, n := x.n + seg.length })) := by
  have h1 := h.copied hw hv (by omega)
  obtain ⟨i, c, e1, e2, e3, e4, e5⟩ := copV_at A seg
  have hPl := hw.lt hP
  have hP1 : (copH A seg).get P = some (.abs 1 x.dat) := by rw [copH_old A seg P hPl]; exact hP
  have he : elemsOf (copH A seg) 1 (.slice (some ⟨i, 0, some 1⟩) seg.length c) = some (seg.length, seg) :=
    (BsAt.at i 0 seg.length c 5 seg seg .own e4 (by omega) (by simp) e5).elems
  have h2 := h.put (PutR.put (copH A seg) P x hP1 hx i 0 seg.length c seg seg .own e4 hpl hpl he rfl hb)
  rw [← e1] at h2
  refine ⟨_, _, _, h1, h2, (copH_wf hw seg).put hP1 _, ?_, fun j hj hjP => ?_, Hp.get_set_same _ _ _⟩
  · have := copH_next A seg
    rw [Hp.next_set]
    omega
  · rw [Hp.get_set_ne _ _ hjP, copH_old A seg j hj]

theorem pushL_outE_get (A : Hp) (l : List Value) : ∀ j, j < A.next → (pushL .own A (outE l)).get j = A.get j := by
  intro j hj
  cases l with
  | nil => rfl
  | cons y l => exact Hp.get_push_ne _ _ (by omega)
theorem pushL_outE_wf {A : Hp} (hw : A.wf) (l : List Value) : (pushL .own A (outE l)).wf := by
  cases l with
  | nil => exact hw
  | cons y l => exact hw.push _
theorem pushL_outE_next (A : Hp) (l : List Value) : A.next ≤ (pushL .own A (outE l)).next := by
  cases l with
  | nil => exact Nat.le_refl _
  | cons y l => show A.next ≤ (A.push _).next; simp
theorem outV_at (A : Hp) (l : List Value) : ∃ a c io, outV A.next l = .slice a l.length c ∧ CanAt 5 1 (pushL .own A (outE l)) (.slice a l.length c) io l l.length ∧ (∀ i, io = some i → A.next ≤ i ∧ i < (pushL .own A (outE l)).next) := by
  cases l with
  | nil => exact ⟨none, 0, none, rfl, .nil, by simp⟩
  | cons y l =>
    refine ⟨some ⟨A.next, 0, some 1⟩, 2 * (y :: l).length, some A.next, rfl, .at A.next _ _ (Hp.get_push_same _ _) (by simp) (by simp), fun i hi => ?_⟩
    cases hi
    refine ⟨Nat.le_refl _, ?_⟩
    show A.next < (A.push _).next
    simp

theorem get_set_self {A : Hp} {i : Nat} {o : Ob} (h : A.get i = some o) (j : Nat) : (A.set i (some o)).get j = A.get j := by
  by_cases e : j = i
  · subst e; rw [Hp.get_set_same, h]
  · exact Hp.get_set_ne _ _ e

theorem move_phase {call : CallT} (h : PipeFns call) {A : Hp} {P : Nat} {x : PX} (hw : A.wf) (hP : A.get P = some (.abs 1 x.dat)) (hn : x.n ≤ 1073741824) (hpl : ∀ u ∈ x.fl, plain0 u = true) {k : Int} (hk : k ≤ 9223372036854775807)
    {V : Value} {io : Option Nat} {cs : List Value} (hV : CanAt 5 1 A V io cs cs.length) (hio : io ≠ some P) (hlen : cs.length + x.fl.length ≤ 4000000000) :
    ∃ a c A2 V' io' A3, call 17 [ptr P, .int .i64 k] A = some (.slice a (x.fl.take k.toNat).length c, A2) ∧ dappend Tryd.bk.E 22 22 A2 V (.slice a (x.fl.take k.toNat).length c) = some (V', A3) ∧
      CanAt 5 1 A3 V' io' (cs ++ x.fl.take k.toNat) (cs ++ x.fl.take k.toNat).length ∧ A3.wf ∧ A.next ≤ A3.next ∧ (∀ j, j < A.next → j ≠ P → A2.get j = A.get j) ∧ (∀ j, j < A.next → j ≠ P → io ≠ some j → A3.get j = A.get j) ∧
      A3.get P = some (.abs 1 (PX.dat { x with fl := x.fl.drop k.toNat, s := IntKind.u64.wrap (x.s + ((x.fl.take k.toNat).length : Nat)) })) ∧ (∀ i, io' = some i → io = some i ∨ A.next ≤ i) := by
  have h1 := h.move (MoveR.mk A P x hP k hk hn hpl)
  have hPl := hw.lt hP
  generalize hX : PX.dat { x with fl := x.fl.drop k.toNat, s := IntKind.u64.wrap (x.s + ((x.fl.take k.toNat).length : Nat)) } = X at h1 ⊢
  have hl : (x.fl.take k.toNat).length ≤ x.fl.length := by simp; omega
  generalize x.fl.take k.toNat = tk at h1 hl ⊢
  let B : Hp := A.set P (some (.abs 1 X))
  have hBn : B.next = A.next := Hp.next_set _ _ _
  have hBw : B.wf := hw.put hP _
  obtain ⟨a, c, iv, o1, o2, o3⟩ := outV_at B tk
  rw [hBn] at o1
  rw [o1] at h1
  have hV2 : CanAt 5 1 (pushL .own B (outE tk)) V io cs cs.length := by
    cases hV with
    | nil => exact .nil
    | «at» i _ _ hg hl' hp =>
      have hil := hw.lt hg
      refine .at i _ cs ?_ hl' hp
      rw [pushL_outE_get B tk i (by rw [hBn]; exact hil)]
      have : i ≠ P := fun e => hio (by rw [e])
      exact (Hp.get_set_ne _ _ this).trans hg
  obtain ⟨V', A3, io', d1, d2, d3, d4, d5, d6⟩ := append_can elB elB2 hV2 o2.slAt.elems (by simp) (by omega) (by unfold maxLen; omega)
  have hnx := pushL_outE_next B tk
  rw [hBn] at hnx
  have hio2 : ∀ i, io = some i → i < A.next := by
    rintro i rfl
    cases hV with
    | «at» _ n us hg hl' hp => exact hw.lt hg
  refine ⟨a, c, _, V', io', A3, h1, d1, ?_, d4 (pushL_outE_wf hBw tk), by omega, fun j hj hjP => ?_, fun j hj hjP hji => ?_, ?_, fun i hi => ?_⟩
  · rw [List.length_append]; exact d2
  · rw [pushL_outE_get B tk j (by rw [hBn]; exact hj)]
    exact Hp.get_set_ne _ _ hjP
  · rw [d5 j (by omega) hji, pushL_outE_get B tk j (by rw [hBn]; exact hj)]
    exact Hp.get_set_ne _ _ hjP
  · rw [d5 P (by omega) hio, pushL_outE_get B tk P (by rw [hBn]; exact hPl)]
    exact Hp.get_set_same _ _ _
  · rcases d6 with ⟨e, _⟩ | ⟨i', e, e2, _⟩
    · left; rw [← e]; exact hi
    · right
      rw [e] at hi
      cases hi
      omega
end Go.Dn.Pipe
end

section
/-
  Cut
-/
namespace Go.Dn.Pipe
open Go.Proofs
set_option maxHeartbeats 4000000
set_option maxRecDepth 100000
attribute [local irreducible] Hp.get Hp.set Hp.push dappend dcopy dstore cellsAt callD loopD

theorem rows_cell {cs us : List Value} {o m : Nat} (hl : o + m * 2 ≤ cs.length) (hu : (cs.drop o).take (m * 2) = us) {i : Nat} (hi : i < m) : ∃ x y, us[2 * i]? = some x ∧ us[2 * i + 1]? = some y ∧ cellsIn cs (o + i * 2) 2 = some [x, y] := by
  have h1 : us.length = m * 2 := by rw [← hu]; simp; omega
  obtain ⟨x, g1⟩ : ∃ x, us[2 * i]? = some x := ⟨_, List.getElem?_eq_getElem (by omega)⟩
  obtain ⟨y, g2⟩ : ∃ y, us[2 * i + 1]? = some y := ⟨_, List.getElem?_eq_getElem (by omega)⟩
  refine ⟨x, y, g1, g2, cellsIn_of (by omega) ?_⟩
  rw [← hu, List.getElem?_take, if_pos (by omega), List.getElem?_drop] at g1 g2
  apply List.ext_getElem?
  intro j
  rw [List.getElem?_take]
  match j with
  | 0 => rw [if_pos (by omega), List.getElem?_drop, show o + i * 2 + 0 = o + 2 * i by omega, g1]; rfl
  | 1 => rw [if_pos (by omega), List.getElem?_drop, show o + i * 2 + 1 = o + (2 * i + 1) by omega, g2]; rfl
  | j + 2 => rw [if_neg (by omega)]; rfl

variable {base : CallT} (hb : ∀ f args A, f ∉ [61, 12, 20, 38, 27] → base f args A = none)
include hb

def clo : Value := .func (.func 60) #[] #[]

theorem cut_all (n : Nat) (x : Value) (A : Hp) : callD Tryd.bk base (n + 1) 60 [x] A = some (.bool true, A) := by
  refine callD_of (hb _ _ _ (by decide)) (fn := Tryd.f60) rfl ?_
  conv => lhs; whnf
  rfl

omit hb in
theorem ks59 : keepOf (Tryd.bk.inf 59) (loopOf Tryd.f59 0) = some [0, 1, 4, 5, 6, 20, 21, 22] := rfl

theorem clear_loop (n : Nat) {A0 : Hp} {f : Nat} {ri ro rc m : Nat} {cs us : List Value} (hw : A0.wf) (hg : A0.get ri = some (.arr 143 cs .own)) (hl : ro + m * 2 ≤ cs.length) (hu : (cs.drop ro).take (m * 2) = us) (hm : m ≤ 2000000000) (hn : m ≤ n) (hc : m ≤ rc / 2) (hrow : ∀ i, i < m → ∃ a n' c' k, us[2 * i]? = some (.slice a n' c') ∧ us[2 * i + 1]? = some (.int .i64 k)) :
    ∃ A1, loopD (some [0, 1, 4, 5, 6, 20, 21, 22]) (exec Tryd.bk.E (callD Tryd.bk base (n + 1)) Tryd.f59.ntmps (Tryd.bk.inf 59) (n + 1) (loopOf Tryd.f59 0)) (n + 1)
        [(0, ptr f), (1, clo), (4, .int .i64 0), (5, .slice none 0 0), (6, .int .i64 0), (20, .slice (some ⟨ri, ro, some 2⟩) m rc), (21, .int .i64 (m : Nat)), (22, .int .i64 ((0 : Nat) : Int))] A0 =
      some (.exit 0, [(0, ptr f), (1, clo), (4, .int .i64 0), (5, .slice none 0 0), (6, .int .i64 0), (20, .slice (some ⟨ri, ro, some 2⟩) m rc), (21, .int .i64 (m : Nat)), (22, .int .i64 (m : Nat))], A1) ∧ A1.wf ∧ A0.next ≤ A1.next ∧ ∀ j, j < A0.next → A1.get j = A0.get j := by
  have key := loop_rule (ks := some [0, 1, 4, 5, 6, 20, 21, 22]) (f := exec Tryd.bk.E (callD Tryd.bk base (n + 1)) Tryd.f59.ntmps (Tryd.bk.inf 59) (n + 1) (loopOf Tryd.f59 0)) (S := Nat)
    (fun i => [(0, ptr f), (1, clo), (4, .int .i64 0), (5, .slice none 0 0), (6, .int .i64 0), (20, .slice (some ⟨ri, ro, some 2⟩) m rc), (21, .int .i64 (m : Nat)), (22, .int .i64 (i : Nat))])
    (fun i A => i ≤ m ∧ A.wf ∧ A0.next ≤ A.next ∧ ∀ j, j < A0.next → A.get j = A0.get j) (fun i => m - i)
    (fun e σ A1 => e = .exit 0 ∧ σ = [(0, ptr f), (1, clo), (4, .int .i64 0), (5, .slice none 0 0), (6, .int .i64 0), (20, .slice (some ⟨ri, ro, some 2⟩) m rc), (21, .int .i64 (m : Nat)), (22, .int .i64 (m : Nat))] ∧ A1.wf ∧ A0.next ≤ A1.next ∧ ∀ j, j < A0.next → A1.get j = A0.get j) (fun i A hI => ?_)
    (n + 1) 0 A0 ⟨Nat.zero_le _, hw, Nat.le_refl _, fun _ _ => rfl⟩ (by omega)
  · obtain ⟨e, σ1, A1, k1, rfl, rfl, k2, k3, k4⟩ := key
    exact ⟨A1, k1, k2, k3, k4⟩
  · obtain ⟨hi, i1, i2, i3⟩ := hI
    by_cases him : i < m
    · obtain ⟨x, y, r1, r2, r3⟩ := rows_cell hl hu him
      obtain ⟨ra, rn, rk, ry, s1, s2⟩ := hrow i him
      rw [r1] at s1; rw [r2] at s2
      cases s1; cases s2
      have hgA : A.get ri = some (.arr 143 cs .own) := by rw [i3 ri (hw.lt hg)]; exact hg
      have hw2 : IntKind.i64.wrap ((i : Int) + 1) = ((i + 1 : Nat) : Int) := by rw [wrap64 (by omega) (by omega)]; omega
      have d1 : ((i : Nat) : Int) < ((m : Nat) : Int) := by omega
      refine ⟨.normal, ?s, ?A1, kexec_run ?run, .inl ⟨rfl, i + 1, ?kp, ⟨by omega, ?w, ?nx, ?fr⟩, by omega⟩⟩
      case run =>
        conv => lhs; whnf
        rw [kdec d1]
        conv => lhs; whnf
        rw [kdec d1]
        conv => lhs; whnf
        refine bind_of ((cellsAt_of hgA _ _).trans r3) ?_
        conv => lhs; whnf
        refine bind_of (dstore_of (Hp.get_push_same _ _) (t := 143) (o := 0) (cs' := [.slice ra rn rk, .int .i64 ry]) rfl) ?_
        conv => lhs; whnf
        rw [cellsAt_of (Hp.get_set_same _ _ _)]
        conv => lhs; whnf
        refine bind_of (cut_all hb n _ _) ?_
        conv => lhs; whnf
      case kp =>
        show [_, _, _, _, _, _, _, (22, Value.int .i64 (IntKind.i64.wrap ((i : Int) + 1)))] = _
        rw [hw2]
      case w => exact (i1.push _).put (Hp.get_push_same _ _) _
      case nx => simp; omega
      case fr =>
        intro j hj
        rw [Hp.get_set_ne _ _ (by omega), Hp.get_push_ne _ _ (by omega), i3 j hj]
    · have d1 : ¬ ((i : Nat) : Int) < ((m : Nat) : Int) := by omega
      obtain rfl : i = m := by omega
      refine ⟨.exit 0, ?s2, A, kexec_run ?run2, .inr ⟨by simp, rfl, ?kp2, i1, i2, i3⟩⟩
      case run2 =>
        conv => lhs; whnf
        rw [kdecn d1]
      case kp2 => rfl

theorem fifo_clear (n : Nat) {A : Hp} {f : Nat} {t mo rv w : Value} {io : Option Nat} {us : List Value} {m : Nat} (hw : A.wf) (hf : A.get f = some (.arr 141 [t, mo, rv, w] .own)) (hr : SlAt 143 2 A rv io us (m + 1)) (hm : m ≤ 1000000000) (hn : m + 3 ≤ n) (hrow : ∀ i, i < m + 1 → ∃ a n' c' k, us[2 * i]? = some (.slice a n' c') ∧ us[2 * i + 1]? = some (.int .i64 k)) :
    ∃ A', callD Tryd.bk base (n + 2) 59 [ptr f, clo] A = some (.int .i64 (m + 1 : Nat), A') ∧ A'.wf ∧ A.next ≤ A'.next ∧ A'.get f = some (.arr 141 [t, mo, .slice none 0 0, .int .i64 0] .own) ∧ ∀ j, j < A.next → j ≠ f → A'.get j = A.get j := by
  have hlen := fifo_len hb n hf hr
  cases hr with
  | «at» ri ro _ rc cs _ hc hg hl hu =>
  obtain ⟨A1, l1, l2, l3, l4⟩ := clear_loop hb n (f := f) hw hg hl hu (by omega) (by omega) (rc := rc) (by omega) hrow
  have hfl := hw.lt hf
  have hf1 : A1.get f = some (.arr 141 [t, mo, .slice (some ⟨ri, ro, some 2⟩) (m + 1) rc, w] .own) := by rw [l4 f hfl]; exact hf
  have hwm : IntKind.i64.wrap (((m + 1 : Nat) : Int) - ((0 : Nat) : Int)) = ((m + 1 : Nat) : Int) := by rw [wrap64 (by omega) (by omega)]; omega
  refine ⟨?A', callD_of (hb _ _ _ (by decide)) (fn := Tryd.f59) rfl ?run, ?_⟩
  case run =>
    conv => lhs; whnf
    rw [hlen]
    conv => lhs; whnf
    rw [cellsAt_of hf]
    conv => lhs; whnf
    refine bind_of l1 ?_
    conv => lhs; whnf
    rw [cellsAt_of hf1]
    conv => lhs; whnf
    refine bind_of (dstore_of hf1 (t := 139) (o := 2) (cs' := [t, mo, .slice none 0 0, w]) rfl) ?_
    conv => lhs; whnf
    refine bind_of (dstore_of (Hp.get_set_same _ _ _) (t := 3) (o := 3) (cs' := [t, mo, .slice none 0 0, .int .i64 0]) rfl) ?_
    conv => lhs; whnf
    rw [hwm]
    rfl
  refine ⟨?w, ?nx, Hp.get_set_same _ _ _, fun j hj hjf => ?fr⟩
  case w => exact (l2.put hf1 _).put (Hp.get_set_same _ _ _) _
  case nx => simp; omega
  case fr => rw [Hp.get_set_ne _ _ hjf, Hp.get_set_ne _ _ hjf, l4 j hj]

omit hb in
theorem rows_of : ∀ (ps : List Pc) (i : Nat), (ps.flatMap rowOf)[2 * i]? = ps[i]?.map (·.v) ∧ (ps.flatMap rowOf)[2 * i + 1]? = ps[i]?.map fun x => .int .i64 (x.us.length : Nat)
  | [], i => by simp
  | x :: ps, 0 => by simp [rowOf]
  | x :: ps, i + 1 => by
    obtain ⟨h1, h2⟩ := rows_of ps i
    rw [show 2 * (i + 1) = 2 * i + 1 + 1 by omega]
    simp only [List.flatMap_cons, rowOf, List.cons_append, List.nil_append, List.getElem?_cons_succ]
    exact ⟨h1, h2⟩

/-- Cut: what was under way is lost -/
theorem pipe_cut (n : Nat) {A : Hp} {p f : Nat} {io : Option Nat} {ps : List Pc} {g : Nat} {s : Int} {c : Bool} (h : IsPipe A p f io ps g s c) (hw : A.wf) (hT : total ps ≤ 140737488355328) (hP : ps.length ≤ 1000000000) (hn : ps.length + 3 ≤ n) :
    ∃ A' io', callD Tryd.bk base (n + 3) 26 [ptr p] A = some (.int .i64 (flow ps g).length, A') ∧ A'.wf ∧ A.next ≤ A'.next ∧ IsPipe A' p f io' [] 0 s true ∧ (io' = none ∨ io' = io) ∧ ∀ j, j < A.next → j ≠ p → j ≠ f → A'.get j = A.get j := by
  obtain ⟨rv, h1, h2⟩ := h.hf
  have hfp : f ≠ p := by rintro rfl; rw [h.hp] at h1; cases h1
  have hlen := pipe_len hb n h.hp h1 hfp
  have hg : g ≤ total ps := by
    rcases h.hg with e | ⟨x, ps', rfl, e⟩
    · omega
    · simp only [total]; omega
  have hwl : IntKind.i64.wrap ((total ps : Int) - (g : Int)) = ((flow ps g).length : Int) := by rw [wrap64 (by omega) (by omega), flow_length]; omega
  rw [hwl] at hlen
  have hpl := hw.lt h.hp
  have hfl := hw.lt h1
  let A1 : Hp := A.set p (some (.arr 100 [ptr f, .int .i64 g, .int .u64 s, .bool true] .own))
  have hA1w : A1.wf := hw.put h.hp _
  have hA1n : A1.next = A.next := Hp.next_set _ _ _
  have hp1 : A1.get p = some (.arr 100 [ptr f, .int .i64 g, .int .u64 s, .bool true] .own) := Hp.get_set_same _ _ _
  have hf1 : A1.get f = some (.arr 141 [inMax, inMax, rv, .int .i64 (total ps)] .own) := by rw [show A1.get f = A.get f from Hp.get_set_ne _ _ hfp]; exact h1
  have hiop : ∀ i, io = some i → i ≠ p := by
    rintro i rfl rfl
    obtain ⟨cs, hcs⟩ := h2.lt
    rw [h.hp] at hcs; cases hcs
  have h2' : SlAt 143 2 A1 rv io (ps.flatMap rowOf) ps.length := h2.keep fun i hi => Hp.get_set_ne _ _ (hiop i hi)
  have key : ∃ A2 rv2 io2 k, callD Tryd.bk base (n + 2) 59 [ptr f, clo] A1 = some (.int .i64 k, A2) ∧ A2.wf ∧ A1.next ≤ A2.next ∧ A2.get f = some (.arr 141 [inMax, inMax, rv2, .int .i64 ((0 : Nat) : Int)] .own) ∧ SlAt 143 2 A2 rv2 io2 [] 0 ∧ (io2 = none ∨ io2 = io) ∧ ∀ j, j < A1.next → j ≠ f → A2.get j = A1.get j := by
    cases ps with
    | nil =>
      have hl0 := fifo_len hb n hf1 h2'
      refine ⟨A1, rv, io, 0, callD_of (hb _ _ _ (by decide)) (fn := Tryd.f59) rfl ?run, hA1w, Nat.le_refl _, hf1, h2', .inr rfl, fun _ _ _ => rfl⟩
      case run =>
        conv => lhs; whnf
        rw [hl0]
        conv => lhs; whnf
        rfl
    | cons x l =>
      obtain ⟨A2, c1, c2, c3, c4, c5⟩ := fifo_clear hb n hA1w hf1 h2' (by simp at hP; omega) (by simp at hn; omega) (fun i hi => by
        obtain ⟨q1, q2⟩ := rows_of (x :: l) i
        have hi' : i < (x :: l).length := by simpa using hi
        rw [List.getElem?_eq_getElem hi'] at q1 q2
        have hm := h.hx _ (List.getElem_mem hi')
        obtain ⟨a, n', c', e⟩ : ∃ a n' c', ((x :: l)[i]).v = .slice a n' c' := by
          generalize ((x :: l)[i]).v = vv at hm
          cases hm.1 with
          | «at» _ _ _ c' _ _ _ _ _ _ => exact ⟨_, _, _, rfl⟩
        refine ⟨a, n', c', _, ?_, q2⟩
        rw [q1, Option.map_some, e])
      exact ⟨A2, _, none, _, c1, c2, c3, c4, .nil, .inl rfl, c5⟩
  obtain ⟨A2, rv2, io2, k, k1, k2, k3, k4, k5, k6, k7⟩ := key
  have hp2 : A2.get p = some (.arr 100 [ptr f, .int .i64 g, .int .u64 s, .bool true] .own) := by rw [k7 p (by omega) (fun e => hfp e.symm)]; exact hp1
  refine ⟨?A', io2, callD_of (hb _ _ _ (by decide)) (fn := Tryd.f26) rfl ?run, ?w, ?nx, ?ip, k6, ?fr⟩
  case run =>
    conv => lhs; whnf
    rw [hlen]
    conv => lhs; whnf
    refine bind_of (dstore_of h.hp (t := 4) (o := 3) (cs' := [ptr f, .int .i64 g, .int .u64 s, .bool true]) rfl) ?_
    conv => lhs; whnf
    rw [cellsAt_of (Hp.get_set_same _ _ _)]
    conv => lhs; whnf
    refine bind_of k1 ?_
    conv => lhs; whnf
    refine bind_of (dstore_of hp2 (t := 3) (o := 1) (cs' := [ptr f, .int .i64 ((0 : Nat) : Int), .int .u64 s, .bool true]) rfl) ?_
    conv => lhs; whnf
    rfl
  case w => exact k2.put hp2 _
  case nx => rw [Hp.next_set]; omega
  case ip =>
    refine ⟨Hp.get_set_same _ _ _, ⟨rv2, by rw [Hp.get_set_ne _ _ hfp, k4]; rfl, k5.keep fun i hi => ?_⟩, by simp, .inl rfl⟩
    have : i ≠ p := by
      rcases k6 with e | e
      · rw [e] at hi; cases hi
      · exact hiop i (by rw [← e]; exact hi)
    exact Hp.get_set_ne _ _ this
  case fr =>
    intro j hj hjp hjf
    rw [Hp.get_set_ne _ _ hjp, k7 j (by omega) hjf]
    exact Hp.get_set_ne _ _ hjp

/-- a pipe that is cut takes nothing -/
theorem pipe_put_cut (n : Nat) {A : Hp} {p : Nat} {a b s : Value} {T : TypeId} {md : Md} (hp : A.get p = some (.arr T [a, b, s, .bool true] md)) (h1 : A.get 1 = some (er 1)) (x : Value) :
    callD Tryd.bk base (n + 1) 14 [ptr p, x] A = some (.tuple #[.int .i64 0, .iface 168 (.pointer (some ⟨44, 0, none⟩))], A) := by
  refine callD_of (hb _ _ _ (by decide)) (fn := Tryd.f14) rfl ?_
  conv => lhs; whnf
  rw [cellsAt_of hp]
  conv => lhs; whnf
  rw [cellsAt_of h1]
  conv => lhs; whnf
  rfl
end Go.Dn.Pipe
end

section
/-
  a buffer of frames' bytes (layer 6)
-/
namespace Go.Dn.Pipe
open Go.Proofs
set_option maxHeartbeats 4000000
set_option maxRecDepth 100000
attribute [local irreducible] Hp.get Hp.set Hp.push dappend dcopy dstore cellsAt callD loopD

structure IsOut (A : Hp) (p f : Nat) (io : Option Nat) (ps : List Pc) (g : Nat) : Prop where
  hp : A.get p = some (.arr 131 [ptr f, .int .i64 g] .own)
  hf : ∃ rv, A.get f = some (.arr 141 [inMax, inMax, rv, .int .i64 (total ps)] .own) ∧ SlAt 143 2 A rv io (ps.flatMap rowOf) ps.length
  hx : ∀ x ∈ ps, SlAt 5 1 A x.v (some x.i) x.us x.us.length ∧ x.us ≠ []
  hg : g = 0 ∨ ∃ x ps', ps = x :: ps' ∧ g < x.us.length

theorem IsOut.keep {A A' : Hp} {p f : Nat} {io : Option Nat} {ps : List Pc} {g : Nat} (h : IsOut A p f io ps g)
    (hk : ∀ j o, A.get j = some o → (j = p ∨ j = f ∨ io = some j ∨ ∃ x ∈ ps, x.i = j) → A'.get j = A.get j) : IsOut A' p f io ps g := by
  obtain ⟨rv, h1, h2⟩ := h.hf
  refine ⟨by rw [hk p _ h.hp (.inl rfl)]; exact h.hp, ⟨rv, by rw [hk f _ h1 (.inr (.inl rfl))]; exact h1, h2.keep fun i hi => ?_⟩, fun x hx => ⟨(h.hx x hx).1.keep fun i hi => ?_, (h.hx x hx).2⟩, h.hg⟩
  · subst hi
    obtain ⟨cs, hcs⟩ := h2.lt
    exact hk i _ hcs (.inr (.inr (.inl rfl)))
  · cases hi
    obtain ⟨cs, hcs⟩ := (h.hx x hx).1.lt
    exact hk x.i _ hcs (.inr (.inr (.inr ⟨x, hx, rfl⟩)))

theorem IsOut.ne {A : Hp} {p f : Nat} {io : Option Nat} {ps : List Pc} {g : Nat} (h : IsOut A p f io ps g) : f ≠ p := by
  obtain ⟨rv, h1, h2⟩ := h.hf
  rintro rfl
  rw [h.hp] at h1; cases h1

variable {base : CallT} (hb : ∀ f args A, f ∉ [61, 12, 20, 38, 27] → base f args A = none)
include hb

theorem out_new (n : Nat) {A : Hp} : callD Tryd.bk base (n + 2) 39 [] A = some (ptr (A.next + 1), (A.push (.arr 141 [.int .i64 9223372036854775807, .int .i64 9223372036854775807, .slice none 0 0, .int .i64 0] .own)).push
    (.arr 131 [ptr A.next, .int .i64 0] .own)) := by
  have h48 : callD Tryd.bk base (n + 1) 48 [.int .i64 9223372036854775807, .int .i64 9223372036854775807] A =
      some (.tuple #[ptr A.next, .nilIface], A.push (.arr 141 [.int .i64 9223372036854775807, .int .i64 9223372036854775807, .slice none 0 0, .int .i64 0] .own)) := by
    refine callD_of (hb _ _ _ (by decide)) (fn := Tryd.f48) rfl ?_
    conv => lhs; whnf
    rfl
  refine callD_of (hb _ _ _ (by decide)) (fn := Tryd.f39) rfl ?_
  conv => lhs; whnf
  rw [h48]
  conv => lhs; whnf
  with_unfolding_all rfl

theorem out_len (n : Nat) {A : Hp} {p f : Nat} {g w : Int} {a b d : Value} {T T2 : TypeId} {md md2 : Md}
    (hp : A.get p = some (.arr T [ptr f, .int .i64 g] md)) (hf : A.get f = some (.arr T2 [a, b, d, .int .i64 w] md2)) (hne : f ≠ p) :
    callD Tryd.bk base (n + 2) 45 [ptr p] A = some (.int .i64 (IntKind.i64.wrap (w - g)), A) := by
  refine callD_of (hb _ _ _ (by decide)) (fn := Tryd.f45) rfl ?_
  conv => lhs; whnf
  rw [cellsAt_of hp]
  conv => lhs; whnf
  rw [cellsAt_of hp]
  conv => lhs; whnf
  rw [fifo_weight hb n (by rw [guard1_ne hne]; exact hf)]
  conv => lhs; whnf
  rw [back1 hp]
  rfl

theorem out_frames (n : Nat) {A : Hp} {p f : Nat} {io : Option Nat} {ps : List Pc} {g : Nat} (h : IsOut A p f io ps g) :
    callD Tryd.bk base (n + 2) 46 [ptr p] A = some (.int .i64 ps.length, A) := by
  obtain ⟨rv, h1, h2⟩ := h.hf
  have hl := fifo_len hb n h1 h2
  refine callD_of (hb _ _ _ (by decide)) (fn := Tryd.f46) rfl ?_
  conv => lhs; whnf
  rw [cellsAt_of h.hp]
  conv => lhs; whnf
  rw [hl]
  conv => lhs; whnf
  rfl

theorem out_clear0 (n : Nat) {A : Hp} {p f : Nat} {io : Option Nat} (h : IsOut A p f io [] 0) :
    callD Tryd.bk base (n + 3) 47 [ptr p] A = some (.int .i64 0, A) := by
  obtain ⟨rv, h1, h2⟩ := h.hf
  have hl := out_len hb n h.hp h1 h.ne
  refine callD_of (hb _ _ _ (by decide)) (fn := Tryd.f47) rfl ?_
  conv => lhs; whnf
  rw [hl]
  conv => lhs; whnf
  rfl

theorem take_step (m : Nat) {A : Hp} {p f : Nat} {io : Option Nat} {x : Pc} {ps : List Pc} {g : Nat} (h : IsOut A p f io (x :: ps) g) (hw : A.wf) (hgx : g < x.us.length)
    {n : Int} (hn : 0 < n) (hn2 : n ≤ 9223372036854775807) (hT : total (x :: ps) ≤ 140737488355328) {pv : Value} {pio : Option Nat} {pes : List Value} (hp : CanAt 5 1 A pv pio pes pes.length) (hpn : pes.length ≤ 4000000000)
    (hpio : ∀ i, pio = some i → i ≠ p ∧ i ≠ f ∧ io ≠ some i ∧ ∀ y ∈ x :: ps, y.i ≠ i) {kN : Nat} (hk : (kN : Int) = if ((x.us.length - g : Nat) : Int) < n then ((x.us.length - g : Nat) : Int) else n) (hk9 : kN ≤ 1000000000) :
    ∃ σ1 A' ps' g' pv' pio', exec Tryd.bk.E (callD Tryd.bk base (m + 3)) Tryd.f44.ntmps (Tryd.bk.inf 44) (m + 3) (loopOf Tryd.f44 0) [(0, ptr p), (1, .int .i64 n), (4, .slice none 0 0), (5, pv)] A = some (.normal, σ1, A') ∧
      keepSl (some [0, 1, 4, 5]) σ1 = [(0, ptr p), (1, .int .i64 (n - kN)), (4, .slice none 0 0), (5, pv')] ∧ A'.wf ∧ A.next ≤ A'.next ∧ IsOut A' p f io ps' g' ∧
      CanAt 5 1 A' pv' pio' (pes ++ (x.us.drop g).take kN) (pes ++ (x.us.drop g).take kN).length ∧
      (∀ j, j < A.next → j ≠ p → j ≠ f → io ≠ some j → pio ≠ some j → A'.get j = A.get j) ∧ (∃ i', pio' = some i' ∧ A.next ≤ i' ∧ i' < A'.next) ∧
      ((g + kN = x.us.length ∧ ps' = ps ∧ g' = 0) ∨ (g + kN < x.us.length ∧ ps' = x :: ps ∧ g' = g + kN)) := by
  obtain ⟨rv, h1, h2⟩ := h.hf
  obtain ⟨hx1, hx2⟩ := h.hx x (by simp)
  obtain ⟨xi, xv, us⟩ := x
  simp only at hx1 hx2 hgx hk hpio
  have hfp := h.ne
  have hTx : total (⟨xi, xv, us⟩ :: ps) = us.length + total ps := rfl
  have hwl : IntKind.i64.wrap ((total (⟨xi, xv, us⟩ :: ps) : Int) - (g : Int)) = ((total (⟨xi, xv, us⟩ :: ps) - g : Nat) : Int) := by rw [wrap64 (by omega) (by omega)]; omega
  have hwx : IntKind.i64.wrap ((us.length : Int) - (g : Int)) = ((us.length - g : Nat) : Int) := by rw [wrap64 (by omega) (by omega)]; omega
  have hkl : kN ≤ us.length - g ∧ 0 < kN := by split at hk <;> omega
  have hwg : IntKind.i64.wrap ((g : Int) + (kN : Int)) = ((g + kN : Nat) : Int) := by rw [wrap64 (by omega) (by omega)]; omega
  cases hx1 with
  | «at» _ xo _ xc xcs _ xh1 xh2 xh3 xh4 =>
  have d1 : n > 0 := hn
  have d2 : ((total (⟨xi, .slice (some ⟨xi, xo, some 1⟩) us.length xc, us⟩ :: ps) - g : Nat) : Int) > 0 := by omega
  have d3 : (0 : Int) ≤ ((g + kN : Nat) : Int) := by omega
  have d4 : ((g + kN : Nat) : Int) ≤ ((xc / 2 : Nat) : Int) := by omega
  have d5 : ((g : Nat) : Int) ≤ ((Int.toNat ((g + kN : Nat) : Int) : Nat) : Int) := by omega
  have hlen := out_len hb (m + 1) h.hp h1 hfp
  rw [hwl] at hlen
  have hhead := head_some hb (m + 1) h1 h2
  have hpl := hw.lt h.hp
  have hfl := hw.lt h1
  have hxl := hw.lt xh2
  have hiop : io ≠ some p := by
    rintro rfl
    obtain ⟨cs, hcs⟩ := h2.lt
    rw [h.hp] at hcs; cases hcs
  have hseg : elemsOf A 1 (.slice (some ⟨xi, xo + g * 1, some 1⟩) (g + kN - g) (2 * (xc / 2 - g) + xc % 2)) = some (kN, (us.drop g).take kN) := by
    have := (BsAt.at xi (xo + g * 1) (g + kN - g) (2 * (xc / 2 - g) + xc % 2) 5 xcs ((us.drop g).take kN) .own xh2 (by omega) (by
      rw [← xh4, List.drop_take, List.drop_drop, List.take_take, show g + kN - g = kN by omega]
      congr 1
      · omega
      · rw [Nat.mul_one]) (by omega)).elems
    rw [show ((us.drop g).take kN).length = kN by simp; omega] at this
    exact this
  obtain ⟨pv', A2, pio', a1, a2, a3, a4, a5, a6⟩ := append_can elB elB2 hp hseg (by simp; omega) (by omega) (by unfold maxLen; omega)
  have hA2w := a4 hw
  obtain ⟨pi', e1, e2, e3⟩ : ∃ i', pio' = some i' ∧ A.next ≤ i' ∧ i' < A2.next := by
    rcases a6 with ⟨_, _, _, h⟩ | h
    · omega
    · exact h
  subst e1
  have hgk : ∀ j, j < A.next → pio ≠ some j → A2.get j = A.get j := fun j hj hji => a5 j hj hji
  have hpp : pio ≠ some p := fun e => (hpio p e).1 rfl
  have hpf : pio ≠ some f := fun e => (hpio f e).2.1 rfl
  have hpr : pio ≠ io ∨ io = none := by
    cases io with
    | none => exact .inr rfl
    | some r => exact .inl fun e => (hpio r e).2.2.1 rfl
  have hp2 : A2.get p = some (.arr 131 [ptr f, .int .i64 g] .own) := by rw [hgk p hpl hpp]; exact h.hp
  have hwn : IntKind.i64.wrap (n - (kN : Int)) = n - kN := by
    have : (kN : Int) ≤ n := by split at hk <;> omega
    exact wrap64 (by omega) (by omega)
  have hlen2 : (pes ++ (us.drop g).take kN).length = pes.length + kN := by simp; omega
  have hxp : xi ≠ p := by rintro rfl; rw [h.hp] at xh2; cases xh2
  have hxf : xi ≠ f := by rintro rfl; rw [h1] at xh2; cases xh2
  let A3 : Hp := A2.set p (some (.arr 131 [ptr f, .int .i64 ((g + kN : Nat) : Int)] .own))
  have hw3 : A3.wf := hA2w.put hp2 _
  have hn3 : A3.next = A2.next := Hp.next_set _ _ _
  have hp3 : A3.get p = some (.arr 131 [ptr f, .int .i64 ((g + kN : Nat) : Int)] .own) := Hp.get_set_same _ _ _
  have hg3 : ∀ j, j < A.next → j ≠ p → pio ≠ some j → A3.get j = A.get j := fun j hj hjp hji => by
    rw [show A3.get j = A2.get j from Hp.get_set_ne _ _ hjp, hgk j hj hji]
  have hf3 : A3.get f = some (.arr 141 [inMax, inMax, rv, .int .i64 (total (⟨xi, .slice (some ⟨xi, xo, some 1⟩) us.length xc, us⟩ :: ps) : Nat)] .own) := by rw [hg3 f hfl hfp hpf]; exact h1
  have h2' : SlAt 143 2 A rv io (.slice (some ⟨xi, xo, some 1⟩) us.length xc :: .int .i64 (us.length : Nat) :: ps.flatMap rowOf) (ps.length + 1) := h2
  have hriolt : ∀ i, io = some i → i < A.next ∧ i ≠ p ∧ pio ≠ some i := fun i hi => by
    subst hi
    obtain ⟨cs, hcs⟩ := h2.lt
    exact ⟨hw.lt hcs, fun e => hiop (by rw [e]), fun e => (hpio i e).2.2.1 rfl⟩
  have hr3 := h2'.keep (A' := A3) fun i hi => hg3 i (hriolt i hi).1 (hriolt i hi).2.1 (hriolt i hi).2.2
  have hyk : ∀ y ∈ ps, y.i < A.next ∧ y.i ≠ p ∧ y.i ≠ f ∧ pio ≠ some y.i ∧ io ≠ some y.i := fun y hy => by
    obtain ⟨cs, hcs⟩ := (h.hx y (List.mem_cons_of_mem _ hy)).1.lt
    refine ⟨hw.lt hcs, ?_, ?_, fun e => (hpio _ e).2.2.2 y (List.mem_cons_of_mem _ hy) rfl, ?_⟩
    · intro e; rw [e, h.hp] at hcs; cases hcs
    · intro e; rw [e, h1] at hcs; cases hcs
    · rintro rfl
      obtain ⟨cs2, hcs2⟩ := h2.lt
      rw [hcs2] at hcs; cases hcs
  by_cases he : g + kN = us.length
  · have heq : (((g + kN : Nat) : Int) == ((us.length : Nat) : Int)) = true := by rw [he]; exact beq_self_eq_true _
    have hgl : (-9223372036854775808 : Int) ≤ ((total (⟨xi, .slice (some ⟨xi, xo, some 1⟩) us.length xc, us⟩ :: ps) : Nat) : Int) - ((us.length : Nat) : Int) := by rw [hTx]; omega
    have hgh : ((total (⟨xi, .slice (some ⟨xi, xo, some 1⟩) us.length xc, us⟩ :: ps) : Nat) : Int) - ((us.length : Nat) : Int) ≤ 9223372036854775807 := by rw [hTx] at hT ⊢; omega
    obtain ⟨rv4, A4, g1, g2, g3, g4, g5, g6⟩ := fifo_get hb m hw3 hf3 hr3 hgl hgh
    have hp4 : A4.get p = some (.arr 131 [ptr f, .int .i64 ((g + kN : Nat) : Int)] .own) := by rw [g6 p (fun e => hfp e.symm) hiop, hp3]
    have hn4 : A4.next = A2.next := by rw [g3, hn3]
    have hg4 : ∀ j, j < A.next → j ≠ p → j ≠ f → io ≠ some j → pio ≠ some j → A4.get j = A.get j := fun j hj hjp hjf hji hjq => by rw [g6 j hjf hji, hg3 j hj hjp hjq]
    have htl : ((total (⟨xi, .slice (some ⟨xi, xo, some 1⟩) us.length xc, us⟩ :: ps) : Nat) : Int) - ((us.length : Nat) : Int) = ((total ps : Nat) : Int) := by rw [hTx]; omega
    refine ⟨?s2, A4.set p (some (.arr 131 [ptr f, .int .i64 0] .own)), ps, 0, pv', some pi', kexec_run ?run, ?kp, g2.put hp4 _, by rw [Hp.next_set, hn4]; exact a3, ?ip, ?sl, ?fr, ⟨pi', rfl, e2, by rw [Hp.next_set, hn4]; exact e3⟩, .inl ⟨he, rfl, rfl⟩⟩
    case run =>
      conv => lhs; whnf
      rw [kdec d1]
      conv => lhs; whnf
      rw [hlen]
      conv => lhs; whnf
      rw [kdec d2]
      conv => lhs; whnf
      rw [cellsAt_of h.hp]
      conv => lhs; whnf
      rw [hhead]
      conv => lhs; whnf
      rw [cellsAt_of h.hp]
      conv => lhs; whnf
      rw [hwx, ← hk]
      conv => lhs; whnf
      rw [cellsAt_of h.hp]
      conv => lhs; whnf
      rw [cellsAt_of h.hp]
      conv => lhs; whnf
      rw [hwg, kdec d3]
      conv => lhs; whnf
      rw [kdec d4]
      conv => lhs; whnf
      rw [kdec d5]
      conv => lhs; whnf
      refine bind_of a1 ?_
      conv => lhs; whnf
      rw [cellsAt_of hp2]
      conv => lhs; whnf
      refine bind_of (dstore_of hp2 (t := 3) (o := 1) (cs' := [ptr f, .int .i64 (IntKind.i64.wrap ((g : Int) + (kN : Int)))]) rfl) ?_
      conv => lhs; whnf
      rw [cellsAt_of (Hp.get_set_same _ _ _)]
      conv => lhs; whnf
      rw [hwg]
      rw [heq]
      conv => lhs; whnf
      rw [cellsAt_of hp3]
      conv => lhs; whnf
      refine bind_of g1 ?_
      conv => lhs; whnf
      refine bind_of (dstore_of hp4 (t := 3) (o := 1) (cs' := [ptr f, .int .i64 0]) rfl) ?_
      conv => lhs; whnf
    case kp =>
      show [_, _, _, _] = [_, _, _, _]
      rw [hwn]
    case ip =>
      refine ⟨Hp.get_set_same _ _ _, ⟨rv4, by rw [Hp.get_set_ne _ _ hfp, g4, htl]; rfl, g5.keep fun i hi => ?_⟩, fun y hy => ⟨(h.hx y (List.mem_cons_of_mem _ hy)).1.keep fun i hi => ?_, (h.hx y (List.mem_cons_of_mem _ hy)).2⟩, .inl rfl⟩
      · exact Hp.get_set_ne _ _ (hriolt i hi).2.1
      · cases hi
        obtain ⟨q1, q2, q3, q4, q5⟩ := hyk y hy
        rw [Hp.get_set_ne _ _ q2, hg4 y.i q1 q2 q3 q5 q4]
    case sl =>
      rw [hlen2]
      refine a2.keep fun i hi => ?_
      cases hi
      have hir : io ≠ some pi' := fun e => by have := (hriolt pi' e).1; omega
      have q1 : pi' ≠ p := by omega
      have q2 : pi' ≠ f := by omega
      rw [Hp.get_set_ne _ _ q1, g6 pi' q2 hir]
      exact Hp.get_set_ne _ _ q1
    case fr =>
      intro j hj hjp hjf hji hjq
      rw [Hp.get_set_ne _ _ hjp, hg4 j hj hjp hjf hji hjq]
  · have hne : (((g + kN : Nat) : Int) == ((us.length : Nat) : Int)) = false := by
      rw [beq_eq_false_iff_ne]; omega
    have hlt : g + kN < us.length := Nat.lt_of_le_of_ne (nle hkl.1 hgx) he
    refine ⟨?s, A3, _, g + kN, pv', some pi', kexec_run ?run, ?kp, hw3, by rw [hn3]; exact a3, ?ip, ?sl, fun j hj hjp hjf hji hjq => hg3 j hj hjp hjq, ⟨pi', rfl, e2, by rw [hn3]; exact e3⟩, .inr ⟨hlt, rfl, rfl⟩⟩
    case run =>
      conv => lhs; whnf
      rw [kdec d1]
      conv => lhs; whnf
      rw [hlen]
      conv => lhs; whnf
      rw [kdec d2]
      conv => lhs; whnf
      rw [cellsAt_of h.hp]
      conv => lhs; whnf
      rw [hhead]
      conv => lhs; whnf
      rw [cellsAt_of h.hp]
      conv => lhs; whnf
      rw [hwx, ← hk]
      conv => lhs; whnf
      rw [cellsAt_of h.hp]
      conv => lhs; whnf
      rw [cellsAt_of h.hp]
      conv => lhs; whnf
      rw [hwg, kdec d3]
      conv => lhs; whnf
      rw [kdec d4]
      conv => lhs; whnf
      rw [kdec d5]
      conv => lhs; whnf
      refine bind_of a1 ?_
      conv => lhs; whnf
      rw [cellsAt_of hp2]
      conv => lhs; whnf
      refine bind_of (dstore_of hp2 (t := 3) (o := 1) (cs' := [ptr f, .int .i64 (IntKind.i64.wrap ((g : Int) + (kN : Int)))]) rfl) ?_
      conv => lhs; whnf
      rw [cellsAt_of (Hp.get_set_same _ _ _)]
      conv => lhs; whnf
      rw [hwg]
      rw [hne]
    case kp =>
      show [_, _, _, _] = [_, _, _, _]
      rw [hwn]
    case ip =>
      refine ⟨hp3, ⟨rv, hf3, h2.keep fun i hi => hg3 i (hriolt i hi).1 (hriolt i hi).2.1 (hriolt i hi).2.2⟩, fun y hy => ⟨(h.hx y hy).1.keep fun i hi => ?_, (h.hx y hy).2⟩, .inr ⟨_, _, rfl, hlt⟩⟩
      cases hi
      rcases List.mem_cons.1 hy with rfl | hy
      · exact hg3 _ hxl hxp fun e => (hpio _ e).2.2.2 _ (by simp) rfl
      · obtain ⟨q1, q2, q3, q4, q5⟩ := hyk y hy
        exact hg3 y.i q1 q2 q4
    case sl =>
      rw [hlen2]
      refine a2.keep fun i hi => ?_
      cases hi
      have q1 : pi' ≠ p := by omega
      exact Hp.get_set_ne _ _ q1
end Go.Dn.Pipe
end

section
/-
  Take
-/
namespace Go.Dn.Pipe
open Go.Proofs
set_option maxHeartbeats 4000000
set_option maxRecDepth 100000
attribute [local irreducible] Hp.get Hp.set Hp.push dappend dcopy dstore cellsAt callD loopD exec

/-- what is left of each frame -/
def rem (ps : List Pc) (g : Nat) : List (List Value) := match ps with
  | [] => []
  | x :: l => x.us.drop g :: l.map (·.us)
/-- n bytes taken off -/
def dropF : Nat → List (List Value) → List (List Value)
  | _, [] => []
  | n, x :: l => if n < x.length then x.drop n :: l else dropF (n - x.length) l

theorem dropF_zero {fs : List (List Value)} (h : ∀ x ∈ fs, x ≠ []) : dropF 0 fs = fs := by
  cases fs with
  | nil => rfl
  | cons x l =>
    have : 0 < x.length := List.length_pos_iff.2 (h x (by simp))
    simp [dropF, this]

theorem IsOut.rem_ne {A : Hp} {p f : Nat} {io : Option Nat} {ps : List Pc} {g : Nat} (h : IsOut A p f io ps g) : ∀ x ∈ rem ps g, x ≠ [] := by
  cases ps with
  | nil => simp [rem]
  | cons y l =>
    intro x hx
    simp only [rem, List.mem_cons, List.mem_map] at hx
    rcases hx with rfl | ⟨z, hz, rfl⟩
    · have hgy : g < y.us.length := by
        rcases h.hg with e | ⟨y', ps', e1, e2⟩
        · subst e
          exact List.length_pos_iff.2 (h.hx y (by simp)).2
        · cases e1; exact e2
      intro e
      have := congrArg List.length e
      simp at this
      omega
    · exact (h.hx z (by simp [hz])).2

theorem rem_flat (ps : List Pc) (g : Nat) (h : g = 0 ∨ ∃ x ps', ps = x :: ps' ∧ g < x.us.length) : (rem ps g).flatten.length = total ps - g := by
  cases ps with
  | nil =>
    rcases h with e | ⟨x, ps', e, _⟩
    · simp [rem, total]
    · cases e
  | cons x l =>
    have hg : g ≤ x.us.length := by
      rcases h with e | ⟨y, ps', e, h2⟩
      · omega
      · cases e; omega
    have hl := flow_len l
    simp only [rem, List.flatten_cons, List.length_append, List.length_drop, total]
    rw [show (l.map (·.us)).flatten = l.flatMap (·.us) from rfl, hl]
    omega

structure TS where
  n : Int
  pv : Value
  pio : Option Nat
  out : List Value
  ps : List Pc
  g : Nat

structure TI (A0 : Hp) (p f : Nat) (io : Option Nat) (ps0 : List Pc) (g0 : Nat) (n0 : Int) (st : TS) (A : Hp) : Prop where
  wf : A.wf
  next : A0.next ≤ A.next
  isout : IsOut A p f io st.ps st.g
  acc : CanAt 5 1 A st.pv st.pio st.out st.out.length
  pid : ∀ i, st.pio = some i → A0.next ≤ i
  fr : ∀ j, j < A0.next → j ≠ p → j ≠ f → io ≠ some j → A.get j = A0.get j
  eq1 : st.out ++ (rem st.ps st.g).flatten.take st.n.toNat = (rem ps0 g0).flatten.take n0.toNat
  eq2 : dropF st.n.toNat (rem st.ps st.g) = dropF n0.toNat (rem ps0 g0)
  sub : st.ps <:+ ps0
  le : st.n ≤ n0

def muT (st : TS) : Nat := if 0 < st.n then st.ps.length * 2 + (if 0 < st.n then 1 else 0) else 0

variable {base : CallT} (hb : ∀ f args A, f ∉ [61, 12, 20, 38, 27] → base f args A = none)
include hb

theorem take_round (m : Nat) {A0 : Hp} {p f : Nat} {io : Option Nat} {ps0 : List Pc} {g0 : Nat} {n0 : Int} (hn0 : n0 ≤ 9223372036854775807) (hT : total ps0 ≤ 1000000000) (hw0 : A0.wf) (h0 : IsOut A0 p f io ps0 g0)
    {st : TS} {A : Hp} (hI : TI A0 p f io ps0 g0 n0 st A) (hn : 0 < st.n) (hps : st.ps ≠ []) :
    ∃ σ1 A1 st', exec Tryd.bk.E (callD Tryd.bk base (m + 3)) Tryd.f44.ntmps (Tryd.bk.inf 44) (m + 3) (loopOf Tryd.f44 0) [(0, ptr p), (1, .int .i64 st.n), (4, .slice none 0 0), (5, st.pv)] A = some (.normal, σ1, A1) ∧
      keepSl (some [0, 1, 4, 5]) σ1 = [(0, ptr p), (1, .int .i64 st'.n), (4, .slice none 0 0), (5, st'.pv)] ∧ TI A0 p f io ps0 g0 n0 st' A1 ∧ (st'.ps.length < st.ps.length ∨ st'.n ≤ 0) ∧ st'.ps.length ≤ st.ps.length := by
  obtain ⟨n, pv, pio, out, ps, g⟩ := st
  obtain ⟨i1, i2, i3, i4, i5, i6, i7, i8, i9, i10⟩ := hI
  simp only at *
  cases ps with
  | nil => exact absurd rfl hps
  | cons x ps =>
  have hgx : g < x.us.length := by
    rcases i3.hg with e | ⟨y, ps', e1, e2⟩
    · subst e
      exact List.length_pos_iff.2 (i3.hx x (by simp)).2
    · cases e1; exact e2
  have htot := total_suffix i9
  have hxt : x.us.length ≤ total (x :: ps) := mem_total (List.mem_cons_self (a := x))
  have hout : out.length ≤ 1000000000 := by
    have h1 := congrArg List.length i7
    rw [List.length_append] at h1
    have h2 : ((rem ps0 g0).flatten.take n0.toNat).length ≤ (rem ps0 g0).flatten.length := by simp; omega
    rw [rem_flat _ _ h0.hg] at h2
    omega
  obtain ⟨kN, hk⟩ : ∃ kN : Nat, (kN : Int) = if ((x.us.length - g : Nat) : Int) < n then ((x.us.length - g : Nat) : Int) else n := by
    split
    · exact ⟨_, rfl⟩
    · exact ⟨n.toNat, by omega⟩
  have hkl : kN ≤ x.us.length - g ∧ (kN : Int) ≤ n ∧ 0 < kN := by split at hk <;> omega
  obtain ⟨rv, r1, r2⟩ := h0.hf
  obtain ⟨rv', r1', r2'⟩ := i3.hf
  have hpio : ∀ i, pio = some i → i ≠ p ∧ i ≠ f ∧ io ≠ some i ∧ ∀ y ∈ x :: ps, y.i ≠ i := by
    intro i hi
    have hge := i5 i hi
    have l1 := hw0.lt h0.hp
    have l2 := hw0.lt r1
    refine ⟨by omega, by omega, ?_, fun y hy => ?_⟩
    · rintro rfl
      obtain ⟨cs, hcs⟩ := r2.lt
      have := hw0.lt hcs
      omega
    · obtain ⟨cs, hcs⟩ := (h0.hx y (i9.mem hy)).1.lt
      have := hw0.lt hcs
      omega
  obtain ⟨σ1, A1, ps', g', pv', pio', e1, e2, e3, e4, e5, e6, e7, ⟨pi', e8, e9, e10⟩, e11⟩ := take_step hb m i3 i1 hgx hn (by omega) (by omega) i4 (by omega) hpio hk (by omega)
  have hseg : ((x.us.drop g).take kN).length = kN := by rw [List.length_take, List.length_drop]; omega
  have hnk : (n - kN).toNat = n.toNat - kN := by omega
  have hrem : rem (x :: ps) g = x.us.drop g :: ps.map (·.us) := rfl
  have hdl : (x.us.drop g).length = x.us.length - g := List.length_drop
  refine ⟨σ1, A1, ⟨n - kN, pv', pio', out ++ (x.us.drop g).take kN, ps', g'⟩, e1, e2, ⟨e3, by omega, e5, e6, fun i hi => ?_, fun j hj hjp hjf hji => ?_, ?_, ?_, ?_, by simp only; omega⟩, ?_, ?_⟩
  · simp only at hi
    rw [e8] at hi; cases hi
    omega
  · rw [e7 j (by omega) hjp hjf hji (fun e => by have := i5 j e; omega), i6 j hj hjp hjf hji]
  · simp only
    rw [← i7, List.append_assoc, hnk]
    congr 1
    rw [hrem, List.flatten_cons]
    rcases e11 with ⟨q1, rfl, rfl⟩ | ⟨q1, rfl, rfl⟩
    · have hkk : kN = (x.us.drop g).length := by omega
      have hre : (rem ps' 0).flatten = (ps'.map (·.us)).flatten := by
        cases ps' with
        | nil => rfl
        | cons y l => simp [rem]
      have c1 : (x.us.drop g).length ≤ n.toNat := by omega
      have c2 : (x.us.drop g).length ≤ kN := by omega
      rw [hre, List.take_append (l₁ := x.us.drop g), List.take_of_length_le c1, List.take_of_length_le c2, ← hkk]
    · have hkn : kN = n.toNat := by split at hk <;> omega
      rw [show n.toNat - kN = 0 by omega, List.take_zero, List.append_nil, hkn, List.take_append_of_le_length (by omega)]
  · simp only
    rw [← i8, hnk, hrem]
    rcases e11 with ⟨q1, rfl, rfl⟩ | ⟨q1, rfl, rfl⟩
    · have hkk : kN = (x.us.drop g).length := by omega
      have hre : rem ps' 0 = ps'.map (·.us) := by
        cases ps' with
        | nil => rfl
        | cons y l => simp [rem]
      rw [hre]
      simp only [dropF]
      rw [if_neg (by omega), hkk]
    · have hkn : kN = n.toNat := by split at hk <;> omega
      rw [show n.toNat - kN = 0 by omega]
      show dropF 0 (x.us.drop (g + kN) :: ps.map (·.us)) = dropF n.toNat (x.us.drop g :: ps.map (·.us))
      simp only [dropF]
      rw [if_pos (by rw [List.length_drop]; omega), if_pos (by omega), List.drop_zero, List.drop_drop, hkn]
  · rcases e11 with ⟨q1, rfl, rfl⟩ | ⟨q1, rfl, rfl⟩
    · exact (List.suffix_cons x ps').trans i9
    · exact i9
  · simp only
    rcases e11 with ⟨q1, rfl, rfl⟩ | ⟨q1, rfl, rfl⟩
    · left; simp
    · right
      split at hk <;> omega
  · simp only
    rcases e11 with ⟨q1, rfl, rfl⟩ | ⟨q1, rfl, rfl⟩
    · simp
    · exact Nat.le_refl _

theorem out_take (m : Nat) {A : Hp} {p f : Nat} {io : Option Nat} {ps : List Pc} {g : Nat} {n : Int} (h : IsOut A p f io ps g) (hw : A.wf) (hn : n ≤ 9223372036854775807) (hT : total ps ≤ 1000000000) (hm : ps.length ≤ m) :
    ∃ v iv A' ps' g', callD Tryd.bk base (m + 4) 44 [ptr p, .int .i64 n] A = some (v, A') ∧ CanAt 5 1 A' v iv ((rem ps g).flatten.take n.toNat) ((rem ps g).flatten.take n.toNat).length ∧ rem ps' g' = dropF n.toNat (rem ps g) ∧
      IsOut A' p f io ps' g' ∧ A'.wf ∧ A.next ≤ A'.next ∧ (∀ i, iv = some i → A.next ≤ i) ∧ (∀ j, j < A.next → j ≠ p → j ≠ f → io ≠ some j → A'.get j = A.get j) ∧ ps' <:+ ps := by
  have key := loop_rule (ks := some [0, 1, 4, 5]) (f := exec Tryd.bk.E (callD Tryd.bk base (m + 3)) Tryd.f44.ntmps (Tryd.bk.inf 44) (m + 3) (loopOf Tryd.f44 0)) (S := TS)
    (fun st => [(0, ptr p), (1, .int .i64 st.n), (4, .slice none 0 0), (5, st.pv)]) (fun st A' => TI A p f io ps g n st A') (fun st => if 0 < st.n then st.ps.length + 1 else 0)
    (fun e σ A1 => e = .exit 0 ∧ ∃ st', σ = [(0, ptr p), (1, .int .i64 st'.n), (4, .slice none 0 0), (5, st'.pv)] ∧ TI A p f io ps g n st' A1 ∧ (st'.n ≤ 0 ∨ st'.ps = [])) (fun st A' hI => ?_)
    (m + 3) ⟨n, .slice none 0 0, none, [], ps, g⟩ A ⟨hw, Nat.le_refl _, h, .nil, by simp, fun _ _ _ _ _ => rfl, by simp, rfl, List.suffix_refl _, Int.le_refl _⟩ (by simp only; split <;> omega)
  · obtain ⟨e, σ1, A1, k1, rfl, st, rfl, hI, hend⟩ := key
    have hz : rem st.ps st.g = dropF n.toNat (rem ps g) ∧ st.out = (rem ps g).flatten.take n.toNat := by
      rcases hend with hz | hz
      · have h0 : st.n.toNat = 0 := by omega
        have q1 := hI.eq1
        have q2 := hI.eq2
        rw [h0] at q1 q2
        rw [List.take_zero, List.append_nil] at q1
        rw [dropF_zero hI.isout.rem_ne] at q2
        exact ⟨q2, q1⟩
      · have q1 := hI.eq1
        have q2 := hI.eq2
        rw [hz] at q1 q2 ⊢
        simp only [rem, List.flatten_nil, List.take_nil, List.append_nil, dropF] at q1 q2 ⊢
        exact ⟨q2, q1⟩
    refine ⟨st.pv, st.pio, A1, st.ps, st.g, callD_of (hb _ _ _ (by decide)) (fn := Tryd.f44) rfl ?run, by rw [← hz.2]; exact hI.acc, hz.1, hI.isout, hI.wf, hI.next, hI.pid, hI.fr, hI.sub⟩
    case run =>
      conv => lhs; whnf
      refine bind_of k1 ?_
      conv => lhs; whnf
      rfl
  · by_cases hn1 : 0 < st.n
    · by_cases hps : st.ps = []
      · obtain ⟨n1, pv, pio, out, ps1, g1⟩ := st
        simp only at hps hn1 ⊢
        subst hps
        have hg : g1 = 0 := by
          rcases hI.isout.hg with e | ⟨y, ps', e1, e2⟩
          · exact e
          · cases e1
        obtain ⟨rv, r1, r2⟩ := hI.isout.hf
        have hfp := hI.isout.ne
        simp only at r1 hg
        subst hg
        have hn' : n1 > 0 := hn1
        have hl := out_len hb (m + 1) hI.isout.hp r1 hfp
        refine ⟨.exit 0, ?s, A', kexec_run ?run, .inr ⟨(by simp), rfl, ⟨n1, pv, pio, out, [], 0⟩, ?kp, hI, .inr rfl⟩⟩
        case run =>
          conv => lhs; whnf
          rw [kdec hn']
          conv => lhs; whnf
          rw [hl]
          conv => lhs; whnf
        case kp => rfl
      · obtain ⟨σ1, A1, st', h1, h2, h3, h4, h5⟩ := take_round hb m hn hT hw h hI hn1 hps
        refine ⟨.normal, σ1, A1, h1, .inl ⟨rfl, st', h2, h3, ?_⟩⟩
        rw [if_pos hn1]
        split <;> omega
    · obtain ⟨n1, pv, pio, out, ps1, g1⟩ := st
      simp only at hn1 ⊢
      have hn' : ¬ n1 > 0 := hn1
      refine ⟨.exit 0, ?s2, A', kexec_run ?run, .inr ⟨(by simp), rfl, ⟨n1, pv, pio, out, ps1, g1⟩, ?kp, hI, .inl (by simp only; omega)⟩⟩
      case run =>
        conv => lhs; whnf
        rw [kdecn hn']
        conv => lhs; whnf
      case kp => rfl
end Go.Dn.Pipe
end

section
/-
  readable bytes as a string
-/
namespace Go.Dn

structure StrT (E : Env) (s d : TypeId) : Prop where
  ex : ∃ i j e k, E.T s = some i ∧ i.d = .slice e ∧ E.T d = some j ∧ j.d = .string ∧ E.T e = some k ∧ k.d = .int .u8

theorem bytesOf_some : ∀ {us : List Value}, (∀ (j : Nat) x, us[j]? = some x → ∃ n, x = .int .u8 n) → ∃ ns, bytesOf us = some ns
  | [], _ => ⟨[], rfl⟩
  | u :: us, h => by
    obtain ⟨n, rfl⟩ := h 0 u rfl
    obtain ⟨ns, h2⟩ := bytesOf_some (us := us) fun j x hx => h (j + 1) x (by simpa using hx)
    exact ⟨n :: ns, by simp [bytesOf, h2]⟩

/-- the block that is looked at -/
def blkOf : Value → List Nat
  | .slice (some ⟨b, _, some _⟩) _ _ => [b]
  | _ => []

theorem dstring_bs {E : Env} {s d : TypeId} (hE : StrT E s d) {A : Hp} {v : Value} {us : List Value} {ns : List Int} (h : BsAt A v us) (hb : bytesOf us = some ns) : dstring E s d A v = some (.string (pushBytes ns), blkOf v) := by
  obtain ⟨i, j, e, k, h1, h2, h3, h4, h5, h6⟩ := hE.ex
  unfold dstring
  rw [h1, h3]
  simp only [Option.bind_some]
  cases h with
  | nil c hc =>
    simp only [bytesOf, Option.some.injEq] at hb
    subst hb
    match c, hc with
    | 0, _ => rw [h2, h4]; simp only [h5, Option.bind_some, h6]; rfl
    | 1, _ => rw [h2, h4]; simp only [h5, Option.bind_some, h6]; rfl
  | «at» b o n c T cs _ md hg hl hu hc =>
    rw [h2, h4]
    simp only [h5, Option.bind_some, h6]
    have hlen : us.length = n := by rw [← hu]; simp; omega
    cases hn : Nat.beq n 0 with
    | true =>
      have : n = 0 := by simpa using hn
      subst this
      have : us = [] := List.eq_nil_of_length_eq_zero hlen
      subst this
      simp only [bytesOf, Option.some.injEq] at hb
      subst hb
      rfl
    | false =>
      simp only [cond_false]
      rw [cellsAt_of hg, cellsIn_of hl hu]
      simp only [Option.bind_some, hb]
      rfl
end Go.Dn
namespace Go.Dn
theorem all_blk {A : Hp} {v : Value} {us : List Value} (h : BsAt A v us) {q : Nat → Bool} (hq : ∀ i, q i = true) : (blkOf v).all (fun y => (A.get y).isSome && q y) = true := by
  cases h with
  | nil c hc => rfl
  | «at» i o n c T cs _ md hg hl hu hc => simp [blkOf, hg, hq]
theorem bif_of {α : Type} {c : Bool} {a b r : α} (h : c = true) (h2 : a = r) : (bif c then a else b) = r := by
  rw [h]; exact h2
end Go.Dn
namespace Go.Dn
theorem drd_convert {E : Env} {σ : Sl} {o : Oper} {A : Hp} {s d : TypeId} {x : Operand} {v : Value} {r : Value × List Nat} (ho : o.op = .convert s d x) (hv : evO E σ x = some v) (h : dstring E s d A v = some r) : drd E σ o A = some r := by
  unfold drd
  rw [ho]
  simp only [hv, Option.bind_some, h]
end Go.Dn
end
