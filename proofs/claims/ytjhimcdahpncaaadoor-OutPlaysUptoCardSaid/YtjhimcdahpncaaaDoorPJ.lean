/-
  Part of the abstract machine for this program.
-/
import Derived.Test.YtjhimcdahpncaaaDoorPG
import Derived.Test.YtjhimcdahpncaaaDoorPH
import Derived.Test.YtjhimcdahpncaaaDoorPD
import Derived.Test.YtjhimcdahpncaaaDoorPI

section
/-
  'OutPieces': the frames go in
-/
namespace Go.Dn.Pipe
open Go.Proofs
set_option maxHeartbeats 4000000
set_option maxRecDepth 100000
attribute [local irreducible] Hp.get Hp.set Hp.push dappend dcopy dstore cellsAt callD loopD guardL hideL backL

theorem elI : ElT Tryd.bk.E 23 3 1 8 := ⟨⟨_, rfl, rfl⟩, ⟨_, _, rfl, rfl, rfl, rfl, rfl⟩, by decide⟩
theorem elI2 : ∃ i e2, Tryd.bk.E.T 23 = some i ∧ i.d = .slice e2 := ⟨_, _, rfl, rfl⟩

/-- one frame of the argument -/
structure FrX where
  ver : Int
  typ : Int
  fl : Int
  st : Int
  ln : Int
  us : List Value
  a : Option Addr
  c : Nat
def FrX.cells (o : FrX) : List Value := [.int .u8 o.ver, .int .u8 o.typ, .int .u16 o.fl, .int .u32 o.st, .int .u32 o.ln, .slice o.a o.us.length o.c]
structure FrX.ok (A : Hp) (o : FrX) : Prop where
  bs : BsAt A (.slice o.a o.us.length o.c) o.us
  bytes : IsB o.us
def sumF (frs : List FrX) : Nat := (frs.map fun o => o.us.length + 12).sum

/-- where each frame ends -/
def endsN : Nat → List (List Value) → List Nat
  | _, [] => []
  | s, x :: l => (s + x.length) :: endsN (s + x.length) l
def endsV (fs : List (List Value)) : List Value := (endsN 0 fs).map fun n => .int .i64 (n : Nat)

theorem endsN_len : ∀ (s : Nat) (fs : List (List Value)), (endsN s fs).length = fs.length
  | _, [] => rfl
  | s, x :: l => by simp [endsN, endsN_len (s + x.length) l]
theorem endsN_plus : ∀ (s : Nat) (fs : List (List Value)) (y : List Value), endsN s (fs ++ [y]) = endsN s fs ++ [s + fs.flatten.length + y.length]
  | s, [], y => by simp [endsN]
  | s, x :: l, y => by
    simp only [List.cons_append, endsN, endsN_plus (s + x.length) l y, List.flatten_cons, List.length_append]
    rw [show s + x.length + l.flatten.length + y.length = s + (x.length + l.flatten.length) + y.length by omega]

structure OI (A0 : Hp) (P : Nat) (fs : List (List Value)) (n : Nat) (V6 V7 : Value) (A : Hp) : Prop where
  kp : KP P A0 A
  obj : A.get P = some (.abs 2 (OX.dat ⟨fs, n⟩))
  o6 : ∃ io, CanAt 5 1 A V6 io fs.flatten fs.flatten.length ∧ ∀ i, io = some i → A0.next ≤ i
  o7 : ∃ io, CanAt 3 1 A V7 io (endsV fs) fs.length ∧ ∀ i, io = some i → A0.next ≤ i
  ne : ∀ x ∈ fs, x ≠ []
  bytes : IsB fs.flatten
  few : fs.flatten.length ≤ n

theorem KP.setO {P : Nat} {A B : Hp} (h : KP P A B) {o : Ob} (hg : B.get P = some o) (o' : Ob) : KP P A (B.set P (some o')) :=
  ⟨h.wf.put hg _, by rw [Hp.next_set]; exact h.nx, fun j hj hp => by rw [Hp.get_set_ne _ _ hp, h.old j hj hp]⟩

theorem can_keep {e : TypeId} {A A' : Hp} {P : Nat} {v : Value} {io : Option Nat} {us : List Value} {n : Nat} (h : CanAt e 1 A v io us n) (hw : A.wf) (hk : KP P A A') (hP : io ≠ some P) : CanAt e 1 A' v io us n :=
  h.keep fun i hi => by subst hi; exact hk.old i (h.lt hw) fun e => hP (by rw [e])

theorem can_ne {e e' : TypeId} {A : Hp} {v v' : Value} {io io' : Option Nat} {us us' : List Value} {n n' : Nat} (h : CanAt e 1 A v io us n) (h' : CanAt e' 1 A v' io' us' n') (hne : e ≠ e') : ∀ j, io = some j → io' ≠ some j := by
  intro j hj hj'
  subst hj
  subst hj'
  cases h with
  | «at» _ _ _ hg _ _ =>
    cases h' with
    | «at» _ _ _ hg' _ _ =>
      rw [hg] at hg'
      cases hg'
      exact hne rfl

section
variable {call : CallT} (h : OutFns call) {A0 : Hp} {P : Nat} (hPl : P < A0.next) (hw0 : A0.wf) {frs : List FrX} (hfrs : ∀ o ∈ frs, o.ok A0) {ib : Nat} (hib : A0.get ib = some (.arr 86 (frs.map FrX.cells).flatten .sh)) (hibP : ib ≠ P) {X : Dat} (hP0 : A0.get P = some (.abs 2 X)) (h5 : A0.get 5 = some (er 5))
include h hPl hw0 hfrs hib hibP hP0 h5

theorem op_round (lf : Nat) {A : Hp} {fs : List (List Value)} {n : Nat} {V1 V6 V7 : Value} {c : Nat} {i : Nat} (hI : OI A0 P fs n V6 V7 A) (hi : i < frs.length) (hm : frs.length ≤ 1048576) (hfm : fs.length ≤ 1048576) (hb : n + sumF (frs.drop i) ≤ 100000000) :
    ∃ σ1 A1 fs' n' V6' V7', exec Tryd.bk.E call Tryd.f11.ntmps (Tryd.bk.inf 11) lf (loopOf Tryd.f11 0) [(0, .slice (some ⟨ib, 0, some 6⟩) frs.length c), (1, V1), (4, .bool false), (5, ptr P), (6, V6), (7, V7), (8, .int .i64 (i : Nat))] A = some (.normal, σ1, A1) ∧
      keepSl (some [0, 1, 4, 5, 6, 7, 8]) σ1 = [(0, .slice (some ⟨ib, 0, some 6⟩) frs.length c), (1, V1), (4, .bool false), (5, ptr P), (6, V6'), (7, V7'), (8, .int .i64 (i + 1 : Nat))] ∧ OI A0 P fs' n' V6' V7' A1 ∧ n' + sumF (frs.drop (i + 1)) ≤ n + sumF (frs.drop i) ∧ fs'.length ≤ fs.length + 1 := by
  obtain ⟨o, ho⟩ : ∃ o, frs[i]? = some o := ⟨_, List.getElem?_eq_getElem hi⟩
  have hok := hfrs o (List.mem_of_getElem? ho)
  obtain ⟨f1, f2⟩ := flat_row (css := frs.map FrX.cells) (sz := 6) (fun k c hc => by
    rw [List.getElem?_map] at hc
    cases hh : frs[k]? with
    | none => rw [hh] at hc; cases hc
    | some x => rw [hh] at hc; cases hc; rfl) i o.cells (by rw [List.getElem?_map, ho]; rfl)
  have hcell : cellsIn (frs.map FrX.cells).flatten (0 + i * 6) 6 = some o.cells := cellsIn_of (by omega) (by rw [Nat.zero_add]; exact f2)
  have e1 : ((i : Nat) : Int) < ((frs.length : Nat) : Int) := by omega
  obtain ⟨ver, typ, fl, st, ln, us, a, c2⟩ := o
  have hsum : sumF (frs.drop i) = us.length + 12 + sumF (frs.drop (i + 1)) := by
    rw [List.drop_eq_getElem_cons hi]
    have : frs[i] = ⟨ver, typ, fl, st, ln, us, a, c2⟩ := by
      rw [List.getElem?_eq_getElem hi] at ho
      exact Option.some.inj ho
    rw [this]
    rfl
  have hokB : IsB us := hok.bytes
  have hkw := hI.kp.wf
  have hfew := hI.few
  have hnx := hI.kp.nx
  have hPA : P < A.next := by have := hI.kp.nx; omega
  have hBu : BsAt A (.slice a us.length c2) us := hI.kp.bs hw0 hP0 hok.bs
  obtain ⟨i1, c1, A1, p1, p2, p3, p4, p5⟩ := h.copied ver typ fl st ln hkw hBu (by omega)
  have hB1 : BsAt A1 (.slice (some ⟨i1, 0, some 1⟩) us.length c1) us := .at i1 0 us.length c1 5 us us .own p3 (by omega) (by rw [List.drop_zero, List.take_of_length_le (Nat.le_refl _)]) p4
  have hw2 : IntKind.i64.wrap ((i : Int) + 1) = ((i + 1 : Nat) : Int) := by rw [wrap64 (by omega) (by omega)]; omega
  have hgi : A.get ib = some (.arr 86 (frs.map FrX.cells).flatten .sh) := by rw [hI.kp.old ib (hw0.lt hib) hibP]; exact hib
  by_cases hsz : (us.length : Int) = szOf typ ln
  · obtain ⟨V, A2, io, q1, q2, q3, q4⟩ := h.bytes ver typ fl st ln p2.wf hB1 (by omega) hsz
    have k2 : Kp A A2 := p2.trans q2
    have hgi2 : A2.get ib = some (.arr 86 (frs.map FrX.cells).flatten .sh) := by rw [k2.old ib (hkw.lt hgi)]; exact hgi
    obtain ⟨i3, c3, A3, r1, r2, r3, r4, r5⟩ := h.copied ver typ fl st ln k2.wf (hBu.old hkw k2.old) (by omega)
    have k3 : Kp A A3 := k2.trans r2
    have hB3 : BsAt A3 (.slice (some ⟨i3, 0, some 1⟩) us.length c3) us := .at i3 0 us.length c3 5 us us .own r3 (by omega) (by rw [List.drop_zero, List.take_of_length_le (Nat.le_refl _)]) r4
    have hP3 : A3.get P = some (.abs 2 (OX.dat ⟨fs, n⟩)) := by rw [k3.old P hPA]; exact hI.obj
    have s1 := h.put (PutOR.put A3 P ⟨fs, n⟩ hP3 ver typ fl st ln i3 0 us.length c3 us us .own r3 hokB.plain hokB.plain hB3 hsz (by show n + 12 + us.length ≤ _; omega))
    let A4 : Hp := A3.set P (some (.abs 2 (OX.dat ⟨fs ++ [hdrOf ver typ fl st ln ++ us], n + 12 + us.length⟩)))
    have k4 : KP P A A4 := (k3.toP P).setO hP3 _
    obtain ⟨io6, v1, v2⟩ := hI.o6
    obtain ⟨io7, u1, u2⟩ := hI.o7
    have hV4 : BsAt A4 V (hdrOf ver typ fl st ln ++ us) := by
      refine (q3.bs).keep fun j ob hj hh => ?_
      have hjP : j ≠ P := by
        obtain ⟨b, o', s', m', c', e, rfl⟩ := hh
        subst e
        cases q3 with
        | «at» => have := p2.nx; omega
      rw [show A4.get j = A3.get j from Hp.get_set_ne _ _ hjP, r2.old j (q2.wf.lt hj)]
    have c6 := can_keep v1 hkw k4 (fun e => by have := v2 P e; omega)
    obtain ⟨V6', A5, io6', w1, w2, w3, w4, w5, w6⟩ := append_can elB elB2 c6 hV4.elems (by simp) (by rw [List.length_append, hdr_len]; omega) (by rw [List.length_append, hdr_len]; unfold maxLen; omega)
    have hfl : (fs ++ [hdrOf ver typ fl st ln ++ us]).flatten = fs.flatten ++ (hdrOf ver typ fl st ln ++ us) := by simp
    have hyl : (hdrOf ver typ fl st ln ++ us).length = 12 + us.length := by rw [List.length_append, hdr_len]
    rw [← hfl] at w2
    have hL : (fs ++ [hdrOf ver typ fl st ln ++ us]).flatten.length = fs.flatten.length + (hdrOf ver typ fl st ln ++ us).length := by rw [hfl, List.length_append]
    rw [← hL] at w2
    obtain ⟨a6, c6', rfl⟩ := w2.slAt.bs.form
    have hP4 : A4.get P = some (.abs 2 (OX.dat ⟨fs ++ [hdrOf ver typ fl st ln ++ us], n + 12 + us.length⟩)) := Hp.get_set_same _ _ _
    generalize hY : hdrOf ver typ fl st ln ++ us = ys at hP4 w1 w2 hfl hyl hL
    let L : Value := .int .i64 ((fs ++ [ys]).flatten.length : Nat)
    have k4w := k4.wf
    have h6 : ∀ j, io6 = some j → A0.next ≤ j ∧ j < A.next := fun j hj => ⟨v2 j hj, by subst hj; exact v1.lt hkw⟩
    have h7 : ∀ j, io7 = some j → A0.next ≤ j ∧ j < A.next := fun j hj => ⟨u2 j hj, by subst hj; exact u1.lt hkw⟩
    have n4 : A.next ≤ A4.next := k4.nx
    have w5' : ∀ j, j < A0.next → A5.get j = A4.get j := fun j hj => w5 j (by omega) fun e => by have := (h6 j e).1; omega
    have k5 : KP P A0 A5 := ⟨w4 k4w, by omega, fun j hj hjP => by rw [w5' j hj, k4.old j (by omega) hjP, hI.kp.old j hj hjP]⟩
    have hP5 : A5.get P = some (.abs 2 (OX.dat ⟨fs ++ [ys], n + 12 + us.length⟩)) := by rw [w5' P hPl]; exact hP4
    have c7 : CanAt 3 1 A5 V7 io7 (endsV fs) fs.length := (can_keep u1 hkw k4 (fun e => by have := (h7 P e).1; omega)).keep fun j hj => w5 j (by have := (h7 j hj).2; omega) fun e => can_ne v1 u1 (by decide) j e hj
    have h6' : ∀ j, io6' = some j → A0.next ≤ j ∧ j < A5.next := fun j hj => by
      refine ⟨?_, by subst hj; exact w2.lt k5.wf⟩
      rcases w6 with ⟨e, _⟩ | ⟨j', e, e2, _⟩
      · rw [e] at hj; exact (h6 j hj).1
      · rw [e] at hj; cases hj; omega
    let E5 : Hp := A5.push (.arr 3 [L] .own)
    have c7' : CanAt 3 1 E5 V7 io7 (endsV fs) fs.length := c7.keep fun j hj => Hp.get_push_ne _ _ (by have := (h7 j hj).2; omega)
    have hx7 : elemsOf E5 1 (.slice (some ⟨A5.next, 0, some 1⟩) 1 3) = some (1, [L]) := (BsAt.at A5.next 0 1 3 3 [L] [L] .own (Hp.get_push_same _ _) (by simp) rfl (by omega)).elems
    obtain ⟨V7', A6, io7', x1, x2, x3, x4, x5, x6⟩ := append_can elI elI2 c7' hx7 (by simp) (by omega) (by unfold maxLen; omega)
    simp only [E5, Hp.next_push] at x3 x5 x6
    have hE5w : E5.wf := k5.wf.push _
    have x5' : ∀ j, j < A0.next → A6.get j = A5.get j := fun j hj => by
      rw [x5 j (by omega) (fun e => by have := (h7 j e).1; omega)]
      exact Hp.get_push_ne _ _ (by omega)
    have k6 : KP P A0 A6 := ⟨x4 hE5w, by omega, fun j hj hjP => by rw [x5' j hj]; exact k5.old j hj hjP⟩
    have d6' : CanAt 5 1 A6 _ io6' _ _ := w2.keep fun j hj => by
      rw [x5 j (by have := (h6' j hj).2; omega) (fun e => can_ne w2 c7 (by decide) j hj e)]
      exact Hp.get_push_ne _ _ (by have := (h6' j hj).2; omega)
    have hends : endsV fs ++ [L] = endsV (fs ++ [ys]) := by
      unfold endsV
      rw [endsN_plus, List.map_append]
      simp only [List.map_cons, List.map_nil, L]
      rw [hL]
      congr 5
      omega
    rw [hends] at x2
    have h7' : ∀ j, io7' = some j → A0.next ≤ j := fun j hj => by
      rcases x6 with ⟨e, _⟩ | ⟨j', e, e2, _⟩
      · rw [e] at hj; exact (h7 j hj).1
      · rw [e] at hj; cases hj; omega
    have hysn : ys ≠ [] := by
      intro e
      rw [e] at hyl
      simp at hyl
      omega
    have hOI : OI A0 P (fs ++ [ys]) (n + 12 + us.length) (.slice a6 (fs ++ [ys]).flatten.length c6') V7' A6 := by
      refine ⟨k6, (x5' P hPl).trans hP5, ⟨io6', d6', fun j hj => (h6' j hj).1⟩, ⟨io7', by rw [List.length_append]; exact x2, h7'⟩, ?ne, ?byt, ?few⟩
      case ne =>
        intro x hx
        rcases List.mem_append.1 hx with hx | hx
        · exact hI.ne x hx
        · simp only [List.mem_singleton] at hx
          subst hx
          exact hysn
      case byt =>
        rw [hfl]
        refine hI.bytes.append ?_
        rw [← hY]
        refine IsB.append (fun j x hx => ?_) hokB
        match j, hx with
        | 0, hx => simp [hdrOf] at hx; exact ⟨_, hx.symm⟩
        | 1, hx => simp [hdrOf] at hx; exact ⟨_, hx.symm⟩
        | 2, hx => simp [hdrOf, e16] at hx; exact ⟨_, hx.symm⟩
        | 3, hx => simp [hdrOf, e16] at hx; exact ⟨_, hx.symm⟩
        | 4, hx => simp [hdrOf, e16, e32] at hx; exact ⟨_, hx.symm⟩
        | 5, hx => simp [hdrOf, e16, e32] at hx; exact ⟨_, hx.symm⟩
        | 6, hx => simp [hdrOf, e16, e32] at hx; exact ⟨_, hx.symm⟩
        | 7, hx => simp [hdrOf, e16, e32] at hx; exact ⟨_, hx.symm⟩
        | 8, hx => simp [hdrOf, e16, e32] at hx; exact ⟨_, hx.symm⟩
        | 9, hx => simp [hdrOf, e16, e32] at hx; exact ⟨_, hx.symm⟩
        | 10, hx => simp [hdrOf, e16, e32] at hx; exact ⟨_, hx.symm⟩
        | 11, hx => simp [hdrOf, e16, e32] at hx; exact ⟨_, hx.symm⟩
        | j + 12, hx => simp [hdrOf, e16, e32] at hx
      case few => rw [hL]; omega
    have hs' : n + 12 + us.length + sumF (frs.drop (i + 1)) ≤ n + sumF (frs.drop i) := by omega
    have hs2 : (fs ++ [ys]).length ≤ fs.length + 1 := by simp
    refine ⟨?sg, A6, fs ++ [ys], n + 12 + us.length, .slice a6 (fs ++ [ys]).flatten.length c6', V7', kexec_run ?run, ?kp, hOI, hs', hs2⟩
    case run =>
      conv => lhs; whnf
      rw [kdec e1]
      conv => lhs; whnf
      rw [kdec e1]
      conv => lhs; whnf
      refine bind_of ((cellsAt_of hgi _ _).trans hcell) ?_
      conv => lhs; whnf
      refine bind_of p1 ?_
      conv => lhs; whnf
      refine bind_of q1 ?_
      conv => lhs; whnf
      rw [kdec e1]
      conv => lhs; whnf
      refine bind_of ((cellsAt_of hgi2 _ _).trans hcell) ?_
      conv => lhs; whnf
      refine bind_of r1 ?_
      conv => lhs; whnf
      refine bind_of s1 ?_
      conv => lhs; whnf
      refine bind_of (h.code0 _) ?_
      conv => lhs; whnf
      refine bind_of (h.code0 _) ?_
      conv => lhs; whnf
      refine bind_of w1 ?_
      conv => lhs; whnf
      refine bind_of x1 ?_
      conv => lhs; whnf
    case kp =>
      show [_, _, _, _, _, _, (8, Value.int .i64 (IntKind.i64.wrap ((i : Int) + 1)))] = _
      rw [hw2]
  · obtain ⟨A2, q1, q2⟩ := h.nobytes ver typ fl st ln (a := some ⟨i1, 0, some 1⟩) (c := c1) p2.wf (by
      have hl5 := hw0.lt h5
      have : (5 : Nat) ≠ P := by rintro rfl; rw [hP0] at h5; cases h5
      rw [p2.old 5 (by omega), hI.kp.old 5 hl5 this]; exact h5) hsz
    have k2 : Kp A A2 := p2.trans q2
    have hgi2 : A2.get ib = some (.arr 86 (frs.map FrX.cells).flatten .sh) := by rw [k2.old ib (hkw.lt hgi)]; exact hgi
    obtain ⟨i3, c3, A3, r1, r2, r3, r4, r5⟩ := h.copied ver typ fl st ln k2.wf (hBu.old hkw k2.old) (by omega)
    have k3 : Kp A A3 := k2.trans r2
    have hP3 : A3.get P = some (.abs 2 (OX.dat ⟨fs, n⟩)) := by rw [k3.old P hPA]; exact hI.obj
    have s1 := h.put (PutOR.bad A3 P ⟨fs, n⟩ hP3 ver typ fl st ln i3 0 us.length c3 us .own r3 hokB.plain hsz)
    let A4 : Hp := A3.set P (some (.abs 2 (OX.dat ⟨fs, n⟩)))
    have k4 : KP P A A4 := (k3.toP P).setO hP3 _
    obtain ⟨io6, v1, v2⟩ := hI.o6
    obtain ⟨io7, u1, u2⟩ := hI.o7
    refine ⟨?sg2, A4, fs, n, V6, V7, kexec_run ?run2, ?kp2, ⟨hI.kp.trans k4, Hp.get_set_same _ _ _, ⟨io6, can_keep v1 hkw k4 (fun e => by have := v2 P e; omega), v2⟩, ⟨io7, can_keep u1 hkw k4 (fun e => by have := u2 P e; omega), u2⟩, hI.ne, hI.bytes, hI.few⟩, by omega, by omega⟩
    case run2 =>
      conv => lhs; whnf
      rw [kdec e1]
      conv => lhs; whnf
      rw [kdec e1]
      conv => lhs; whnf
      refine bind_of ((cellsAt_of hgi _ _).trans hcell) ?_
      conv => lhs; whnf
      refine bind_of p1 ?_
      conv => lhs; whnf
      refine bind_of q1 ?_
      conv => lhs; whnf
      rw [kdec e1]
      conv => lhs; whnf
      refine bind_of ((cellsAt_of hgi2 _ _).trans hcell) ?_
      conv => lhs; whnf
      refine bind_of r1 ?_
      conv => lhs; whnf
      refine bind_of s1 ?_
      conv => lhs; whnf
      refine bind_of (h.code48 _) ?_
      conv => lhs; whnf
      refine bind_of (h.code48 _) ?_
      conv => lhs; whnf
    case kp2 =>
      show [_, _, _, _, _, _, (8, Value.int .i64 (IntKind.i64.wrap ((i : Int) + 1)))] = _
      rw [hw2]
end
end Go.Dn.Pipe
end

section
/-
  'OutPieces': what is taken, and the frames counted
-/
namespace Go.Dn.Pipe
open Go.Proofs
set_option maxHeartbeats 4000000
set_option maxRecDepth 100000

theorem dropF_flat : ∀ (n : Nat) (fs : List (List Value)), (dropF n fs).flatten = fs.flatten.drop n
  | _, [] => by simp [dropF]
  | n, x :: l => by
    simp only [dropF]
    split
    · rename_i h
      rw [List.flatten_cons, List.flatten_cons, List.drop_append_of_le_length (by omega)]
    · rename_i h
      rw [dropF_flat (n - x.length) l, List.flatten_cons, List.drop_append]
      rw [List.drop_eq_nil_of_le (show x.length ≤ n by omega), List.nil_append]

theorem dropF_add : ∀ (m n : Nat) (fs : List (List Value)), dropF m (dropF n fs) = dropF (n + m) fs
  | _, _, [] => rfl
  | m, n, x :: l => by
    by_cases h : n < x.length
    · simp only [dropF, h, if_true, List.length_drop]
      by_cases h2 : n + m < x.length
      · rw [if_pos (by omega), if_pos h2, List.drop_drop]
      · rw [if_neg (by omega), if_neg h2]
        congr 1
        omega
    · have e1 : dropF n (x :: l) = dropF (n - x.length) l := by simp only [dropF, if_neg h]
      have e2 : dropF (n + m) (x :: l) = dropF (n + m - x.length) l := by simp only [dropF]; rw [if_neg (by omega)]
      rw [e1, e2, dropF_add m (n - x.length) l]
      congr 1
      omega

theorem dropF_all : ∀ (n : Nat) (fs : List (List Value)), fs.flatten.length ≤ n → dropF n fs = []
  | _, [], _ => rfl
  | n, x :: l, h => by
    rw [List.flatten_cons, List.length_append] at h
    have e : dropF n (x :: l) = dropF (n - x.length) l := by simp only [dropF]; rw [if_neg (by omega)]
    rw [e]
    exact dropF_all _ l (by omega)

theorem dropF_min (n : Nat) (fs : List (List Value)) : dropF (min n fs.flatten.length) fs = dropF n fs := by
  by_cases h : n ≤ fs.flatten.length
  · rw [Nat.min_eq_left h]
  · rw [dropF_all n fs (by omega), dropF_all _ fs (by omega)]

theorem count_high (a : Nat) : ∀ (s : Nat) (fs : List (List Value)), a < s → (endsN s fs).countP (fun e => decide (a < e)) = fs.length
  | _, [], _ => rfl
  | s, x :: l, h => by
    simp only [endsN, List.countP_cons, List.length_cons]
    rw [count_high a (s + x.length) l (by omega), if_pos (by simp; omega)]

theorem count_ends (a : Nat) : ∀ (s : Nat) (fs : List (List Value)), s ≤ a → (endsN s fs).countP (fun e => decide (a < e)) = (dropF (a - s) fs).length
  | _, [], _ => rfl
  | s, x :: l, h => by
    simp only [endsN, List.countP_cons, dropF]
    by_cases h2 : a - s < x.length
    · rw [if_pos h2, count_high a _ l (by omega), if_pos (by simp; omega)]
      rfl
    · rw [if_neg h2, count_ends a (s + x.length) l (by omega), if_neg (by simp; omega)]
      rw [show a - (s + x.length) = a - s - x.length by omega]
      rfl

theorem count_succ {α : Type} (p : α → Bool) (l : List α) (i : Nat) (x : α) (h : l[i]? = some x) : (l.take (i + 1)).countP p = (l.take i).countP p + (if p x then 1 else 0) := by
  rw [List.take_add_one, h, List.countP_append]
  simp [List.countP_cons]

/-- a part of what was read -/
theorem part_of {A : Hp} {V : Value} {io : Option Nat} {us : List Value} {n : Nat} (h : CanAt 5 1 A V io us n) {i j : Nat} (h1 : i ≤ j) (h2 : j ≤ n) :
    ∃ w, (∀ {R : Type} (K : Value → Option R), kslice Tryd.bk.E 22 V (some (.int .i64 (i : Nat))) (some (.int .i64 (j : Nat))) none K = K w) ∧ BsAt A w ((us.drop i).take (j - i)) := by
  cases h with
  | nil =>
    obtain rfl : j = 0 := by omega
    obtain rfl : i = 0 := by omega
    exact ⟨.slice none 0 0, fun _ => rfl, .nil 0 (by omega)⟩
  | «at» b _ _ hg hl hp =>
    rw [Nat.mul_one] at hl
    refine ⟨.slice (some ⟨b, 0 + i * 1, some 1⟩) (j - i) (2 * (2 * n / 2 - i) + 2 * n % 2), fun {R} K => ?_, .at b (0 + i * 1) (j - i) _ 5 us _ .own hg (by omega) (by simp) (by omega)⟩
    have e1 : ((j : Nat) : Int) ≤ ((2 * n / 2 : Nat) : Int) := by omega
    have e2 : ((i : Nat) : Int) ≤ (((j : Nat) : Int).toNat : Int) := by omega
    conv => lhs; whnf
    rw [kdec e1]
    conv => lhs; whnf
    rw [kdec e2]
    conv => lhs; whnf
    rfl

theorem part_end {A : Hp} {V : Value} {io : Option Nat} {us : List Value} {n : Nat} (h : CanAt 5 1 A V io us n) {i : Nat} (h1 : i ≤ n) :
    ∃ w, (∀ {R : Type} (K : Value → Option R), kslice Tryd.bk.E 22 V (some (.int .i64 (i : Nat))) none none K = K w) ∧ BsAt A w (us.drop i) := by
  cases h with
  | nil =>
    obtain rfl : i = 0 := by omega
    exact ⟨.slice none 0 0, fun _ => rfl, .nil 0 (by omega)⟩
  | «at» b _ _ hg hl hp =>
    rw [Nat.mul_one] at hl
    refine ⟨.slice (some ⟨b, 0 + i * 1, some 1⟩) (n - i) (2 * (2 * n / 2 - i) + 2 * n % 2), fun {R} K => ?_, .at b (0 + i * 1) (n - i) _ 5 us _ .own hg (by omega) (by simp; rw [List.take_of_length_le (by simp; omega)]) (by omega)⟩
    have e2 : ((i : Nat) : Int) ≤ ((n : Nat) : Int) := by omega
    conv => lhs; whnf
    rw [kdec e2]
    conv => lhs; whnf
    rfl

attribute [local irreducible] Hp.get Hp.set Hp.push dappend dcopy dstore cellsAt callD loopD guardL hideL backL

theorem count_step {call : CallT} (lf : Nat) {A : Hp} {i7 n7 c7 : Nat} {us7 : List Value} {md : Md} (hg : A.get i7 = some (.arr 3 us7 md)) {i e a : Nat} (hi : i < n7) (hm : n7 ≤ 1048576) (he : us7[i]? = some (.int .i64 (e : Nat))) {cnt : Nat} (hcn : cnt ≤ i) (V1 V5 V6 J : Value) :
    ∃ σ1, exec Tryd.bk.E call Tryd.f11.ntmps (Tryd.bk.inf 11) lf (loopOf Tryd.f11 2) [(1, V1), (4, .bool false), (5, V5), (6, V6), (7, .slice (some ⟨i7, 0, some 1⟩) n7 c7), (12, .int .i64 (a : Nat)), (13, J), (15, .int .i64 (cnt : Nat)), (16, .int .i64 (i : Nat))] A = some (.normal, σ1, A) ∧
      keepSl (some [1, 4, 5, 6, 7, 12, 13, 15, 16]) σ1 = [(1, V1), (4, .bool false), (5, V5), (6, V6), (7, .slice (some ⟨i7, 0, some 1⟩) n7 c7), (12, .int .i64 (a : Nat)), (13, J), (15, .int .i64 (cnt + (if a < e then 1 else 0) : Nat)), (16, .int .i64 (i + 1 : Nat))] := by
  have e1 : ((i : Nat) : Int) < ((n7 : Nat) : Int) := by omega
  have hcell : cellsIn us7 (0 + i * 1) 1 = some [.int .i64 (e : Nat)] := by
    have hlt : i < us7.length := (List.getElem?_eq_some_iff.1 he).1
    refine cellsIn_of (by omega) ?_
    rw [Nat.zero_add, Nat.mul_one, List.drop_eq_getElem_cons hlt, List.take_succ_cons, List.take_zero]
    rw [List.getElem?_eq_getElem hlt] at he
    rw [Option.some.inj he]
  have hw2 : IntKind.i64.wrap ((i : Int) + 1) = ((i + 1 : Nat) : Int) := by rw [wrap64 (by omega) (by omega)]; omega
  have hw3 : IntKind.i64.wrap ((cnt : Int) + 1) = ((cnt + 1 : Nat) : Int) := by rw [wrap64 (by omega) (by omega)]; omega
  by_cases h : a < e
  · have e2 : ((a : Nat) : Int) < ((e : Nat) : Int) := by omega
    refine ⟨?sg, kexec_run ?run, ?kp⟩
    case run =>
      conv => lhs; whnf
      rw [kdec e1]
      conv => lhs; whnf
      rw [kdec e1]
      conv => lhs; whnf
      refine bind_of ((cellsAt_of hg _ _).trans hcell) ?_
      conv => lhs; whnf
      rw [kdec e2]
      conv => lhs; whnf
    case kp =>
      show [_, _, _, _, _, _, _, (15, Value.int .i64 (IntKind.i64.wrap ((cnt : Int) + 1))), (16, Value.int .i64 (IntKind.i64.wrap ((i : Int) + 1)))] = _
      rw [hw2, hw3, if_pos h]
  · have e2 : ¬ ((a : Nat) : Int) < ((e : Nat) : Int) := by omega
    refine ⟨?sg2, kexec_run ?run2, ?kp2⟩
    case run2 =>
      conv => lhs; whnf
      rw [kdec e1]
      conv => lhs; whnf
      rw [kdec e1]
      conv => lhs; whnf
      refine bind_of ((cellsAt_of hg _ _).trans hcell) ?_
      conv => lhs; whnf
      rw [kdecn e2]
      conv => lhs; whnf
    case kp2 =>
      show [_, _, _, _, _, _, _, (15, Value.int .i64 (cnt : Nat)), (16, Value.int .i64 (IntKind.i64.wrap ((i : Int) + 1)))] = _
      rw [hw2, if_neg h]
      rfl

theorem count_end {call : CallT} (lf : Nat) {A : Hp} {n7 c7 : Nat} {a7 : Option Addr} {i : Nat} (hi : ¬ i < n7) (V1 V5 V6 V12 J C : Value) :
    ∃ σ1, exec Tryd.bk.E call Tryd.f11.ntmps (Tryd.bk.inf 11) lf (loopOf Tryd.f11 2) [(1, V1), (4, .bool false), (5, V5), (6, V6), (7, .slice a7 n7 c7), (12, V12), (13, J), (15, C), (16, .int .i64 (i : Nat))] A = some (.exit 4, σ1, A) ∧
      keepSl (some [1, 4, 5, 6, 7, 12, 13, 15, 16]) σ1 = [(1, V1), (4, .bool false), (5, V5), (6, V6), (7, .slice a7 n7 c7), (12, V12), (13, J), (15, C), (16, .int .i64 (i : Nat))] := by
  have e1 : ¬ ((i : Nat) : Int) < ((n7 : Nat) : Int) := by omega
  refine ⟨?sg, kexec_run ?run, ?kp⟩
  case run =>
    conv => lhs; whnf
    rw [kdecn e1]
  case kp => rfl

theorem count_loop {call : CallT} (lf : Nat) {A : Hp} {V7 : Value} {io7 : Option Nat} {fs : List (List Value)} (hV : CanAt 3 1 A V7 io7 (endsV fs) fs.length) (hm : fs.length ≤ 1048576) (hlf : fs.length < lf) (a : Nat) (V1 V5 V6 J : Value) :
    ∃ L, loopD (some [1, 4, 5, 6, 7, 12, 13, 15, 16]) (exec Tryd.bk.E call Tryd.f11.ntmps (Tryd.bk.inf 11) lf (loopOf Tryd.f11 2)) lf [(1, V1), (4, .bool false), (5, V5), (6, V6), (7, V7), (12, .int .i64 (a : Nat)), (13, J), (15, .int .i64 ((0 : Nat) : Int)), (16, .int .i64 ((0 : Nat) : Int))] A =
      some (.exit 4, [(1, V1), (4, .bool false), (5, V5), (6, V6), (7, V7), (12, .int .i64 (a : Nat)), (13, J), (15, .int .i64 ((dropF a fs).length : Nat)), (16, L)], A) := by
  have hfin : (endsN 0 fs).countP (fun e => decide (a < e)) = (dropF a fs).length := count_ends a 0 fs (Nat.zero_le _)
  obtain ⟨a7, c7, rfl⟩ : ∃ a7 c7, V7 = .slice a7 fs.length c7 := by
    have hlen : (endsV fs).length = fs.length := by simp [endsV, endsN_len]
    obtain ⟨a, c, e⟩ := hV.slAt.bs.form
    rw [hlen] at e
    exact ⟨a, c, e⟩
  have key := loop_rule (ks := some [1, 4, 5, 6, 7, 12, 13, 15, 16]) (f := exec Tryd.bk.E call Tryd.f11.ntmps (Tryd.bk.inf 11) lf (loopOf Tryd.f11 2)) (S := Nat)
    (fun i => [(1, V1), (4, .bool false), (5, V5), (6, V6), (7, .slice a7 fs.length c7), (12, .int .i64 (a : Nat)), (13, J), (15, .int .i64 (((endsN 0 fs).take i).countP (fun e => decide (a < e)) : Nat)), (16, .int .i64 (i : Nat))])
    (fun i B => i ≤ fs.length ∧ B = A) (fun i => fs.length - i)
    (fun e σ A1 => e = .exit 4 ∧ A1 = A ∧ ∃ L, σ = [(1, V1), (4, .bool false), (5, V5), (6, V6), (7, .slice a7 fs.length c7), (12, .int .i64 (a : Nat)), (13, J), (15, .int .i64 ((dropF a fs).length : Nat)), (16, L)]) (fun i B hs => ?_)
    lf 0 A ⟨Nat.zero_le _, rfl⟩ (by omega)
  · obtain ⟨e, σ1, A1, k1, rfl, rfl, L, rfl⟩ := key
    exact ⟨L, k1⟩
  · obtain ⟨z1, rfl⟩ := hs
    by_cases him : i < fs.length
    · have hex : (endsN 0 fs)[i]? = some ((endsN 0 fs)[i]'(by rw [endsN_len]; exact him)) := List.getElem?_eq_getElem _
      generalize (endsN 0 fs)[i]'(by rw [endsN_len]; exact him) = e at hex
      have hev : (endsV fs)[i]? = some (.int .i64 (e : Nat)) := by
        unfold endsV
        rw [List.getElem?_map, hex]
        rfl
      generalize hEV : endsV fs = EV at hV hev
      generalize hFL : fs.length = FL at hV him z1 hm
      cases hV with
      | nil => simp at him
      | «at» i7 _ _ hg _ _ =>
        obtain ⟨σ1, r1, r2⟩ := count_step (call := call) lf hg (c7 := 2 * FL) (a := a) him hm hev (cnt := ((endsN 0 fs).take i).countP (fun e => decide (a < e))) (by
          refine Nat.le_trans (List.countP_le_length) ?_
          simp; omega) V1 V5 V6 J
        refine ⟨.normal, σ1, B, r1, .inl ⟨rfl, i + 1, ?_, ⟨him, rfl⟩, by omega⟩⟩
        rw [r2, count_succ _ _ _ _ hex]
        simp only [decide_eq_true_eq]
    · have hi : i = fs.length := by omega
      obtain ⟨σ1, r1, r2⟩ := count_end (call := call) lf (A := B) (a7 := a7) (c7 := c7) him V1 V5 V6 (.int .i64 (a : Nat)) J (.int .i64 (((endsN 0 fs).take i).countP (fun e => decide (a < e)) : Nat))
      refine ⟨.exit 4, σ1, B, r1, .inr ⟨by simp, rfl, rfl, .int .i64 (i : Nat), ?_⟩⟩
      rw [r2, hi, List.take_of_length_le (by rw [endsN_len]; omega), hfin]
end Go.Dn.Pipe
end

section
/-
  'step' of culvertlaw06: one call on both
-/
namespace Go.Dn.Pipe
open Go.Proofs
set_option maxHeartbeats 4000000
set_option maxRecDepth 100000
attribute [local irreducible] Hp.get Hp.set Hp.push dappend dcopy dstore cellsAt callD loopD dstring guardL hideL backL

/-- the document's functions too -/
structure OStep (call : CallT) (N : Nat) : Prop extends OutFns call where
  rput : ∀ {A : Hp} {V : Value} {fs : List (List Value)}, A.wf → RF A V fs → fs.length ≤ 1048576 → fs.length < N → ∀ (ver typ : Int) {fl st ln : Int}, 0 ≤ fl → fl ≤ 4294967295 → 0 ≤ st → st ≤ 4294967295 → 0 ≤ ln → ln ≤ 4294967295 →
    ∀ {a : Option Addr} {c : Nat} {us : List Value}, BsAt A (.slice a us.length c) us → us.length ≤ 100000000 → (us.length : Int) = szOf typ ln →
    ∃ V' A', call 63 [.agg #[V], frm ver typ fl st ln (.slice a us.length c)] A = some (.tuple #[.agg #[V'], .int .i64 0], A') ∧ Kp A A' ∧ RF A' V' (fs ++ [hdrOf ver typ fl st ln ++ us])
  rbad : ∀ {A : Hp}, A.wf → ∀ {va : Option Addr} {vn vc : Nat} (ver typ fl st ln : Int) {a : Option Addr} {c m : Nat}, (m : Int) ≠ szOf typ ln →
    ∃ A', call 63 [.agg #[.slice va vn vc], frm ver typ fl st ln (.slice a m c)] A = some (.tuple #[.agg #[.slice va vn vc], .int .i64 15], A') ∧ Kp A A'
  rtake : ∀ {A : Hp} {V : Value} {fs : List (List Value)}, A.wf → RF A V fs → fs.length ≤ 1048576 → (∀ us ∈ fs, us ≠ []) → IsB fs.flatten → fs.flatten.length ≤ 400000000 → fs.flatten.length < N → ∀ n : Int,
    ∃ V' Vo A', call 64 [.agg #[V], .int .i64 n] A = some (.tuple #[.agg #[V'], Vo], A') ∧ Kp A A' ∧ RF A' V' (dropF n.toNat fs) ∧ BsAt A' Vo (fs.flatten.take n.toNat) ∧ Typ5 A' Vo
  rlen : ∀ {A : Hp} {V : Value} {fs : List (List Value)}, A.wf → RF A V fs → fs.length ≤ 1048576 → fs.flatten.length ≤ 1000000000 → fs.length < N → ∃ A', call 65 [.agg #[V]] A = some (.int .i64 (fs.flatten.length : Nat), A') ∧ Kp A A'

/-- the document's buffer as a value, and the buffer beside it -/
structure OW (P : Nat) (fs : List (List Value)) (n : Nat) (V : Value) (A : Hp) : Prop where
  rf : RF A V fs
  ne : ∀ us ∈ fs, us ≠ []
  bytes : IsB fs.flatten
  few : fs.flatten.length ≤ n
  buf : A.get P = some (.abs 2 (OX.dat ⟨fs, n⟩))

theorem RF.kp {P : Nat} {A A' : Hp} {V : Value} {fs : List (List Value)} (h : RF A V fs) (hw : A.wf) (hk : KP P A A') {k : Nat} {x : Dat} (hP : A.get P = some (.abs k x)) : RF A' V fs :=
  h.keep fun j T cs md hg => hk.old j (hw.lt hg) (by rintro rfl; rw [hP] at hg; cases hg)
theorem RF.set {A : Hp} {V : Value} {fs : List (List Value)} (h : RF A V fs) {q : Nat} (hq : ∀ T cs, A.get q = some (.arr T cs .own) → T ≠ 5 ∧ T ≠ 22) (o : Option Ob) : RF (A.set q o) V fs := by
  obtain ⟨vs, io, h1, h2⟩ := h
  exact ⟨vs, io, h1.keep fun j hj => by subst hj; exact Hp.get_set_ne _ _ (by rintro rfl; exact (hq _ _ h1.some_form.2.1).2 rfl), h2.keep5 fun j cs hj _ => Hp.get_set_ne _ _ (by rintro rfl; exact (hq _ _ hj).1 rfl)⟩

theorem RF.keep2 {A A' : Hp} {V : Value} {fs : List (List Value)} (h : RF A V fs) (hk : ∀ j T cs, A.get j = some (.arr T cs .own) → (T = 5 ∨ T = 22) → A'.get j = A.get j) : RF A' V fs := by
  obtain ⟨vs, io, h1, h2⟩ := h
  exact ⟨vs, io, h1.keep fun j hj => by subst hj; exact hk _ _ _ h1.some_form.2.1 (.inr rfl), h2.keep5 fun j cs hj _ => hk _ _ _ hj (.inl rfl)⟩

def obox (A : Hp) (V : Value) (o : List Value) : Hp := ((A.push (.arr 79 [V] .own)).push (.arr 88 o .own)).push (.arr 79 [.slice none 0 0] .own)

theorem obox_ok {A : Hp} (hw : A.wf) (V : Value) (o : List Value) : Kp A (obox A V o) ∧ (obox A V o).next = A.next + 3 ∧ (obox A V o).get A.next = some (.arr 79 [V] .own) ∧ (obox A V o).get (A.push (.arr 79 [V] .own)).next = some (.arr 88 o .own) ∧
    (obox A V o).get ((A.push (.arr 79 [V] .own)).push (.arr 88 o .own)).next = some (.arr 79 [.slice none 0 0] .own) := by
  refine ⟨((Kp.push hw _).trans (Kp.push (hw.push _) _)).trans (Kp.push ((hw.push _).push _) _), by simp [obox], ?_, ?_, ?_⟩
  · unfold obox
    rw [Hp.get_push_ne _ _ (by simp; omega), Hp.get_push_ne _ _ (by simp)]
    exact Hp.get_push_same _ _
  · unfold obox
    rw [Hp.get_push_ne _ _ (by simp)]
    exact Hp.get_push_same _ _
  · exact Hp.get_push_same _ _

def opv (k ver typ fl st ln : Int) (v : Value) (n : Int) : List Value := [.int .i64 k, .int .u8 ver, .int .u8 typ, .int .u16 fl, .int .u32 st, .int .u32 ln, v, .int .i64 n]

theorem hdr_bytes (ver typ fl st ln : Int) : IsB (hdrOf ver typ fl st ln) := fun j x hx => by
  match j, hx with
  | 0, hx => simp [hdrOf] at hx; exact ⟨_, hx.symm⟩
  | 1, hx => simp [hdrOf] at hx; exact ⟨_, hx.symm⟩
  | 2, hx => simp [hdrOf, e16] at hx; exact ⟨_, hx.symm⟩
  | 3, hx => simp [hdrOf, e16] at hx; exact ⟨_, hx.symm⟩
  | 4, hx => simp [hdrOf, e16, e32] at hx; exact ⟨_, hx.symm⟩
  | 5, hx => simp [hdrOf, e16, e32] at hx; exact ⟨_, hx.symm⟩
  | 6, hx => simp [hdrOf, e16, e32] at hx; exact ⟨_, hx.symm⟩
  | 7, hx => simp [hdrOf, e16, e32] at hx; exact ⟨_, hx.symm⟩
  | 8, hx => simp [hdrOf, e16, e32] at hx; exact ⟨_, hx.symm⟩
  | 9, hx => simp [hdrOf, e16, e32] at hx; exact ⟨_, hx.symm⟩
  | 10, hx => simp [hdrOf, e16, e32] at hx; exact ⟨_, hx.symm⟩
  | 11, hx => simp [hdrOf, e16, e32] at hx; exact ⟨_, hx.symm⟩
  | j + 12, hx => simp [hdrOf, e16, e32] at hx

section
variable {call : CallT} {N : Nat} (h : OStep call N) {P : Nat} {A : Hp} (hw : A.wf) {fs : List (List Value)} {n : Nat} {V : Value} (hI : OW P fs n V A)
include h hw hI

theorem ostep_put (lf : Nat) (ver typ : Int) {fl st ln : Int} (f0 : 0 ≤ fl) (f1 : fl ≤ 4294967295) (s0 : 0 ≤ st) (s1 : st ≤ 4294967295) (l0 : 0 ≤ ln) (l1 : ln ≤ 4294967295) {a : Option Addr} {c : Nat} {us : List Value} (hus : IsB us) (hB : BsAt A (.slice a us.length c) us) (hsz : (us.length : Int) = szOf typ ln) (k : Int)
    (hn : n + 12 + us.length ≤ 100000000) (hfl : fs.length ≤ 1048576) (hN : fs.length < N) :
    ∃ V' A', kfn Tryd.bk.E call (Tryd.bk.inf 40) lf Tryd.f40 [ptr P, .agg #[V], .agg (opv 1 ver typ fl st ln (.slice a us.length c) k).toArray] A = some (.tuple #[.agg #[V'], .bool true], A') ∧ KP P A A' ∧
      OW P (fs ++ [hdrOf ver typ fl st ln ++ us]) (n + 12 + us.length) V' A' := by
  obtain ⟨va, vc, rfl⟩ := hI.rf.sl
  let o : List Value := opv 1 ver typ fl st ln (.slice a us.length c) k
  obtain ⟨b1, b2, b3, b4, b5⟩ := obox_ok hw (.slice va fs.length vc) o
  have hPl := hw.lt hI.buf
  obtain ⟨V4, A4, p1, p2, p3⟩ := h.rput b1.wf (hI.rf.old hw b1) hfl hN ver typ f0 f1 s0 s1 l0 l1 (hB.old hw b1.old) (by omega) hsz
  obtain ⟨av, cv, rfl⟩ := p3.sl
  rw [List.length_append, List.length_singleton] at p1 p3
  let W : Value := .slice av (fs.length + 1) cv
  let A5 : Hp := (A4.push (.arr 79 [.slice none 0 0] .own)).set A4.next (some (.arr 79 [W] .own))
  have k04 : Kp A A4 := b1.trans p2
  have hlt4 : A.next + 3 ≤ A4.next := by have := p2.nx; omega
  have k45 : Kp A4 A5 := (Kp.push p2.wf (.arr 79 [.slice none 0 0] .own)).set (Hp.get_push_same _ _) (Nat.le_refl _) _
  have n5 : A5.next = A4.next + 1 := by simp [A5]
  have k05 : Kp A A5 := k04.trans k45
  let q5 := (A.push (.arr 79 [.slice va fs.length vc] .own)).next
  let q6 := ((A.push (.arr 79 [.slice va fs.length vc] .own)).push (.arr 88 o .own)).next
  have hq5 : q5 = A.next + 1 := by simp [q5]
  have hq6 : q6 = A.next + 2 := by simp [q6]
  have g5 : A5.get q5 = some (.arr 88 o .own) := by rw [k45.old _ (by omega), p2.old _ (by omega)]; exact b4
  have g6 : A5.get q6 = some (.arr 79 [.slice none 0 0] .own) := by rw [k45.old _ (by omega), p2.old _ (by omega)]; exact b5
  have g8 : A5.get A4.next = some (.arr 79 [W] .own) := Hp.get_set_same _ _ _
  have hl1 : ∀ j ∈ [A4.next], j < A5.next := fun j hj => by simp only [List.mem_singleton] at hj; omega
  have hG5 : ∀ j, j < A.next → (guardL (hideL A5 []) [A4.next]).get j = A.get j := fun j hj => by
    rw [guard_get (by simp only [List.mem_singleton]; omega), k05.old j hj]
  obtain ⟨i3, c3, C, r1, r2, r3, r4, r5⟩ := h.copied ver typ fl st ln (guard_wf k45.wf [A4.next]) (hB.old hw hG5) (by omega)
  rw [guard_next] at r5
  let A6 : Hp := backL A5 (backL A5 C [A4.next]) []
  obtain ⟨k56, n6, o6⟩ := guarded_kp (D := A5) (l := [A4.next]) hl1 r2
  have k06 : Kp A A6 := k05.trans k56
  have n56 := k56.nx
  have r3' : A6.get i3 = some (.arr 5 us .own) := (o6 i3 r5).trans r3
  have hi3 : i3 < A6.next := k56.wf.lt r3'
  have hP6 : A6.get P = some (.abs 2 (OX.dat ⟨fs, n⟩)) := by rw [k06.old P hPl]; exact hI.buf
  obtain ⟨f1, f2, f3, f4, f5⟩ := guarded_store (D := A6) (o' := .abs 2 (OX.dat ⟨fs ++ [hdrOf ver typ fl st ln ++ us], n + 12 + us.length⟩)) k56.wf hP6 [A4.next] (fun j hj => by
    simp only [List.mem_singleton] at hj
    subst hj
    exact ⟨by omega, by omega⟩)
  have r3'' : (guardL (hideL A6 []) [A4.next]).get i3 = some (.arr 5 us .own) := by rw [guard_get (by simp only [List.mem_singleton]; omega)]; exact r3'
  have hB6 : BsAt (guardL (hideL A6 []) [A4.next]) (.slice (some ⟨i3, 0, some 1⟩) us.length c3) us := .at i3 0 us.length c3 5 us us .own r3'' (by omega) (by rw [List.drop_zero, List.take_of_length_le (Nat.le_refl _)]) r4
  have s1' := h.put (PutOR.put _ P ⟨fs, n⟩ f1 ver typ fl st ln i3 0 us.length c3 us us .own r3'' hus.plain hus.plain hB6 hsz (by show n + 12 + us.length ≤ _; omega))
  let A7 : Hp := backL A6 (backL A6 ((guardL (hideL A6 []) [A4.next]).set P (some (.abs 2 (OX.dat ⟨fs ++ [hdrOf ver typ fl st ln ++ us], n + 12 + us.length⟩)))) [A4.next]) []
  have g86 : A6.get A4.next = some (.arr 79 [W] .own) := by rw [k56.old _ (by omega)]; exact g8
  have g87 : A7.get A4.next = some (.arr 79 [W] .own) := (f5 _ (by omega)).trans g86
  have g66 : A6.get q6 = some (.arr 79 [.slice none 0 0] .own) := by rw [k56.old _ (by omega)]; exact g6
  have g67 : A7.get q6 = some (.arr 79 [.slice none 0 0] .own) := (f5 _ (by omega)).trans g66
  have k7 : KP P A A7 := ⟨f2, by rw [show A7.next = A6.next from f3]; exact k06.nx, fun j hj hjP => (f5 j hjP).trans (k06.old j hj)⟩
  let A8 : Hp := backL A7 (backL A7 (guardL (hideL A7 []) [A4.next]) [A4.next]) []
  have hA8 : A8 = A7 := back1 g87
  have g68 : A8.get q6 = some (.arr 79 [.slice none 0 0] .own) := by rw [hA8]; exact g67
  have k8 : KP P A (A8.set q6 (some (.arr 79 [W] .own))) := by
    rw [hA8]
    exact k7.set g67 (by omega) (.arr 79 [W] .own)
  refine ⟨W, A8.set q6 (some (.arr 79 [W] .own)), ?run, k8, ?ow⟩
  case ow =>
    rw [hA8]
    have hrf6 : RF A6 W (fs ++ [hdrOf ver typ fl st ln ++ us]) := by
      have := p3.old p2.wf (k45.trans k56)
      exact this
    have hrf7 : RF A7 W (fs ++ [hdrOf ver typ fl st ln ++ us]) := hrf6.keep fun j T cs md hg => f5 j (by rintro rfl; rw [hP6] at hg; cases hg)
    refine ⟨hrf7.set (q := q6) (fun T cs hh => by rw [g67] at hh; cases hh; decide) _, fun x hx => ?_, ?_, ?_, by rw [Hp.get_set_ne _ _ (by omega)]; exact f4⟩
    · rcases List.mem_append.1 hx with hx | hx
      · exact hI.ne x hx
      · simp only [List.mem_singleton] at hx
        subst hx
        intro e
        have := congrArg List.length e
        rw [List.length_append, hdr_len] at this
        simp at this
    · rw [List.flatten_append]
      refine hI.bytes.append ?_
      simp only [List.flatten_cons, List.flatten_nil, List.append_nil]
      exact (hdr_bytes _ _ _ _ _).append hus
    · have := hI.few
      rw [List.flatten_append, List.length_append]
      simp only [List.flatten_cons, List.flatten_nil, List.append_nil, List.length_append, hdr_len]
      omega
  case run =>
    conv => lhs; whnf
    refine bind_of (cellsAt_of b4 _ _) ?_
    conv => lhs; whnf
    refine bind_of (cellsAt_of b3 _ _) ?_
    conv => lhs; whnf
    refine bind_of (cellsAt_of b4 _ _) ?_
    conv => lhs; whnf
    refine bind_of p1 ?_
    conv => lhs; whnf
    refine bind_of (dstore_of (Hp.get_push_same _ _) (t := 79) (o := 0) (cs' := [W]) rfl) ?_
    conv => lhs; whnf
    refine bind_of (cellsAt_of g8 _ _) ?_
    conv => lhs; whnf
    refine bind_of (cellsAt_of g5 _ _) ?_
    conv => lhs; whnf
    refine bind_of r1 ?_
    conv => lhs; whnf
    refine bind_of s1' ?_
    conv => lhs; whnf
    refine bind_of (h.code0 _) ?_
    conv => lhs; whnf
    refine bind_of (dstore_of g68 (t := 79) (o := 0) (cs' := [W]) rfl) ?_
    conv => lhs; whnf
    refine bind_of (cellsAt_of (A := A8.set q6 (some (.arr 79 [W] .own))) (i := q6) (Hp.get_set_same _ _ _) 0 1) ?_
    conv => lhs; whnf
    rfl

theorem ostep_bad (lf : Nat) (ver typ fl st ln : Int) {a : Option Addr} {c : Nat} {us : List Value} (hus : IsB us) (hB : BsAt A (.slice a us.length c) us) (hsz : (us.length : Int) ≠ szOf typ ln) (k : Int) (hul : us.length ≤ 100000000) :
    ∃ A', kfn Tryd.bk.E call (Tryd.bk.inf 40) lf Tryd.f40 [ptr P, .agg #[V], .agg (opv 1 ver typ fl st ln (.slice a us.length c) k).toArray] A = some (.tuple #[.agg #[V], .bool true], A') ∧ KP P A A' ∧ OW P fs n V A' := by
  obtain ⟨va, vc, rfl⟩ := hI.rf.sl
  let o : List Value := opv 1 ver typ fl st ln (.slice a us.length c) k
  obtain ⟨b1, b2, b3, b4, b5⟩ := obox_ok hw (.slice va fs.length vc) o
  have hPl := hw.lt hI.buf
  obtain ⟨A4, p1, p2⟩ := h.rbad b1.wf (va := va) (vn := fs.length) (vc := vc) ver typ fl st ln (a := a) (c := c) hsz
  let W : Value := .slice va fs.length vc
  let A5 : Hp := (A4.push (.arr 79 [.slice none 0 0] .own)).set A4.next (some (.arr 79 [W] .own))
  have k04 : Kp A A4 := b1.trans p2
  have hlt4 : A.next + 3 ≤ A4.next := by have := p2.nx; omega
  have k45 : Kp A4 A5 := (Kp.push p2.wf (.arr 79 [.slice none 0 0] .own)).set (Hp.get_push_same _ _) (Nat.le_refl _) _
  have n5 : A5.next = A4.next + 1 := by simp [A5]
  have k05 : Kp A A5 := k04.trans k45
  let q5 := (A.push (.arr 79 [.slice va fs.length vc] .own)).next
  let q6 := ((A.push (.arr 79 [.slice va fs.length vc] .own)).push (.arr 88 o .own)).next
  have hq5 : q5 = A.next + 1 := by simp [q5]
  have hq6 : q6 = A.next + 2 := by simp [q6]
  have g5 : A5.get q5 = some (.arr 88 o .own) := by rw [k45.old _ (by omega), p2.old _ (by omega)]; exact b4
  have g6 : A5.get q6 = some (.arr 79 [.slice none 0 0] .own) := by rw [k45.old _ (by omega), p2.old _ (by omega)]; exact b5
  have g8 : A5.get A4.next = some (.arr 79 [W] .own) := Hp.get_set_same _ _ _
  have hl1 : ∀ j ∈ [A4.next], j < A5.next := fun j hj => by simp only [List.mem_singleton] at hj; omega
  have hG5 : ∀ j, j < A.next → (guardL (hideL A5 []) [A4.next]).get j = A.get j := fun j hj => by
    rw [guard_get (by simp only [List.mem_singleton]; omega), k05.old j hj]
  obtain ⟨i3, c3, C, r1, r2, r3, r4, r5⟩ := h.copied ver typ fl st ln (guard_wf k45.wf [A4.next]) (hB.old hw hG5) (by omega)
  rw [guard_next] at r5
  let A6 : Hp := backL A5 (backL A5 C [A4.next]) []
  obtain ⟨k56, n6, o6⟩ := guarded_kp (D := A5) (l := [A4.next]) hl1 r2
  have k06 : Kp A A6 := k05.trans k56
  have n56 := k56.nx
  have r3' : A6.get i3 = some (.arr 5 us .own) := (o6 i3 r5).trans r3
  have hi3 : i3 < A6.next := k56.wf.lt r3'
  have hP6 : A6.get P = some (.abs 2 (OX.dat ⟨fs, n⟩)) := by rw [k06.old P hPl]; exact hI.buf
  obtain ⟨f1, f2, f3, f4, f5⟩ := guarded_store (D := A6) (o' := .abs 2 (OX.dat ⟨fs, n⟩)) k56.wf hP6 [A4.next] (fun j hj => by
    simp only [List.mem_singleton] at hj
    subst hj
    exact ⟨by omega, by omega⟩)
  have r3'' : (guardL (hideL A6 []) [A4.next]).get i3 = some (.arr 5 us .own) := by rw [guard_get (by simp only [List.mem_singleton]; omega)]; exact r3'
  have s1' := h.put (PutOR.bad _ P ⟨fs, n⟩ f1 ver typ fl st ln i3 0 us.length c3 us .own r3'' hus.plain hsz)
  let A7 : Hp := backL A6 (backL A6 ((guardL (hideL A6 []) [A4.next]).set P (some (.abs 2 (OX.dat ⟨fs, n⟩)))) [A4.next]) []
  have g86 : A6.get A4.next = some (.arr 79 [W] .own) := by rw [k56.old _ (by omega)]; exact g8
  have g87 : A7.get A4.next = some (.arr 79 [W] .own) := (f5 _ (by omega)).trans g86
  have g66 : A6.get q6 = some (.arr 79 [.slice none 0 0] .own) := by rw [k56.old _ (by omega)]; exact g6
  have g67 : A7.get q6 = some (.arr 79 [.slice none 0 0] .own) := (f5 _ (by omega)).trans g66
  have k7 : KP P A A7 := ⟨f2, by rw [show A7.next = A6.next from f3]; exact k06.nx, fun j hj hjP => (f5 j hjP).trans (k06.old j hj)⟩
  let A8 : Hp := backL A7 (backL A7 (guardL (hideL A7 []) [A4.next]) [A4.next]) []
  have hA8 : A8 = A7 := back1 g87
  have g68 : A8.get q6 = some (.arr 79 [.slice none 0 0] .own) := by rw [hA8]; exact g67
  have k8 : KP P A (A8.set q6 (some (.arr 79 [W] .own))) := by
    rw [hA8]
    exact k7.set g67 (by omega) (.arr 79 [W] .own)
  refine ⟨A8.set q6 (some (.arr 79 [W] .own)), ?run, k8, hI.rf.kp hw k8 hI.buf, hI.ne, hI.bytes, hI.few, by rw [hA8, Hp.get_set_ne _ _ (by omega)]; exact f4⟩
  case run =>
    conv => lhs; whnf
    refine bind_of (cellsAt_of b4 _ _) ?_
    conv => lhs; whnf
    refine bind_of (cellsAt_of b3 _ _) ?_
    conv => lhs; whnf
    refine bind_of (cellsAt_of b4 _ _) ?_
    conv => lhs; whnf
    refine bind_of p1 ?_
    conv => lhs; whnf
    refine bind_of (dstore_of (Hp.get_push_same _ _) (t := 79) (o := 0) (cs' := [W]) rfl) ?_
    conv => lhs; whnf
    refine bind_of (cellsAt_of g8 _ _) ?_
    conv => lhs; whnf
    refine bind_of (cellsAt_of g5 _ _) ?_
    conv => lhs; whnf
    refine bind_of r1 ?_
    conv => lhs; whnf
    refine bind_of s1' ?_
    conv => lhs; whnf
    refine bind_of (h.code48 _) ?_
    conv => lhs; whnf
    refine bind_of (dstore_of g68 (t := 79) (o := 0) (cs' := [W]) rfl) ?_
    conv => lhs; whnf
    refine bind_of (cellsAt_of (A := A8.set q6 (some (.arr 79 [W] .own))) (i := q6) (Hp.get_set_same _ _ _) 0 1) ?_
    conv => lhs; whnf
    rfl

omit h in
theorem ostep_none (lf : Nat) (k ver typ fl st ln : Int) {a : Option Addr} {m c : Nat} (t : Int) (h1 : k ≠ 1) (h2 : k ≠ 2) (h3 : k ≠ 3) (h4 : k ≠ 4) :
    ∃ A', kfn Tryd.bk.E call (Tryd.bk.inf 40) lf Tryd.f40 [ptr P, .agg #[V], .agg (opv k ver typ fl st ln (.slice a m c) t).toArray] A = some (.tuple #[.agg #[V], .bool true], A') ∧ KP P A A' ∧ OW P fs n V A' := by
  obtain ⟨va, vc, rfl⟩ := hI.rf.sl
  let o : List Value := opv k ver typ fl st ln (.slice a m c) t
  obtain ⟨b1, b2, b3, b4, b5⟩ := obox_ok hw (.slice va fs.length vc) o
  have hPl := hw.lt hI.buf
  let q6 := ((A.push (.arr 79 [.slice va fs.length vc] .own)).push (.arr 88 o .own)).next
  have hq6 : q6 = A.next + 2 := by simp [q6]
  have k8 := (b1.toP P).set b5 (by simp; omega) (.arr 79 [.slice va fs.length vc] .own)
  have e1 : (k == 1) = false := beq_eq_false_iff_ne.2 h1
  have e2 : (k == 2) = false := beq_eq_false_iff_ne.2 h2
  have e3 : (k == 3) = false := beq_eq_false_iff_ne.2 h3
  have e4 : (k == 4) = false := beq_eq_false_iff_ne.2 h4
  have hPq : P ≠ q6 := by omega
  refine ⟨_, ?run, k8, hI.rf.kp hw k8 hI.buf, hI.ne, hI.bytes, hI.few, by rw [Hp.get_set_ne _ _ hPq, b1.old P hPl]; exact hI.buf⟩
  case run =>
    conv => lhs; whnf
    refine bind_of (cellsAt_of b4 _ _) ?_
    conv => lhs; whnf
    rw [e1]
    conv => lhs; whnf
    rw [e2]
    conv => lhs; whnf
    rw [e3]
    conv => lhs; whnf
    rw [e4]
    conv => lhs; whnf
    refine bind_of (cellsAt_of b3 _ _) ?_
    conv => lhs; whnf
    refine bind_of (dstore_of b5 (t := 79) (o := 0) (cs' := [.slice va fs.length vc]) rfl) ?_
    conv => lhs; whnf
    refine bind_of (cellsAt_of (A := (obox A (.slice va fs.length vc) o).set q6 (some (.arr 79 [.slice va fs.length vc] .own))) (i := q6) (Hp.get_set_same _ _ _) 0 1) ?_
    conv => lhs; whnf
    rfl
end
end Go.Dn.Pipe
end
