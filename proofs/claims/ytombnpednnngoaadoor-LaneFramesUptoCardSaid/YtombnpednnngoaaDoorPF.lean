/-
  Part of the abstract machine for this program.
-/
import Derived.Test.YtombnpednnngoaaDoorPE

section
/-
  'LaneDrains', run
-/
namespace Go.Dn.Ln
open Go.Proofs
set_option maxHeartbeats 4000000
set_option maxRecDepth 100000
attribute [local irreducible] Hp.get Hp.set Hp.push dappend dcopy dstore cellsAt callD loopD

/-- older objects but one stay -/
structure KP (P : Nat) (A A' : Hp) : Prop where
  wf : A'.wf
  nx : A.next ≤ A'.next
  old : ∀ j, j < A.next → j ≠ P → A'.get j = A.get j
theorem KP.refl {P : Nat} {A : Hp} (hw : A.wf) : KP P A A := ⟨hw, Nat.le_refl _, fun _ _ _ => rfl⟩
theorem KP.trans {P : Nat} {A B C : Hp} (h : KP P A B) (k : KP P B C) : KP P A C := ⟨k.wf, Nat.le_trans h.nx k.nx, fun j hj hp => by have := h.nx; rw [k.old j (by omega) hp, h.old j hj hp]⟩
theorem Kp.toP {A A' : Hp} (h : Kp A A') (P : Nat) : KP P A A' := ⟨h.wf, h.nx, fun j hj _ => h.old j hj⟩
theorem KP.set {P : Nat} {A B : Hp} (h : KP P A B) {i : Nat} {o : Ob} (hg : B.get i = some o) (hi : A.next ≤ i) (o' : Ob) : KP P A (B.set i (some o')) :=
  ⟨h.wf.put hg _, by rw [Hp.next_set]; exact h.nx, fun j hj hp => by rw [Hp.get_set_ne _ _ (by omega), h.old j hj hp]⟩
theorem KP.setO {P : Nat} {A B : Hp} (h : KP P A B) {o : Ob} (hg : B.get P = some o) (o' : Ob) : KP P A (B.set P (some o')) :=
  ⟨h.wf.put hg _, by rw [Hp.next_set]; exact h.nx, fun j hj hp => by rw [Hp.get_set_ne _ _ hp, h.old j hj hp]⟩

def tkc (t : Tk) : List Value := [.int .i64 (t.1 : Nat), .int .u32 t.2.1, .int .u32 t.2.2]
theorem tick_row {T : List Tk} {i : Nat} {t : Tk} (h : T[i]? = some t) : cellsIn (T.map tkc).flatten (0 + i * 3) 3 = some (tkc t) := by
  obtain ⟨f1, f2⟩ := flat_row (css := T.map tkc) (sz := 3) (fun k c hc => by
    rw [List.getElem?_map] at hc
    cases hh : T[k]? with
    | none => rw [hh] at hc; cases hc
    | some x => rw [hh] at hc; cases hc; rfl) i (tkc t) (by rw [List.getElem?_map, h]; rfl)
  exact cellsIn_of (by omega) (by rw [Nat.zero_add]; exact f2)
theorem elT : ElT Tryd.bk.E 22 29 3 16 := ⟨⟨_, rfl, rfl⟩, ⟨_, _, rfl, rfl, rfl, rfl, rfl⟩, by decide⟩
theorem elT2 : ∃ i e2, Tryd.bk.E.T 22 = some i ∧ i.d = .slice e2 := ⟨_, _, rfl, rfl⟩

/-- a ticket behind a list of one's own -/
theorem app_tick {A : Hp} (hw : A.wf) {V : Value} {io : Option Nat} {T : List Tk} (hc : CanAt 29 3 A V io (T.map tkc).flatten T.length) (t : Tk) (hn : T.length ≤ 100000000) :
    ∃ V' A' io', dappend Tryd.bk.E 22 22 (A.push (.arr 29 (tkc t) .own)) V (.slice (some ⟨A.next, 0, some 3⟩) 1 3) = some (V', A') ∧ CanAt 29 3 A' V' (some io') ((T ++ [t]).map tkc).flatten (T ++ [t]).length ∧ A.next ≤ io' ∧ A'.wf ∧ A.next ≤ A'.next ∧ (∀ j, j < A.next → io ≠ some j → A'.get j = A.get j) := by
  let B : Hp := A.push (.arr 29 (tkc t) .own)
  have hcB : SlAt 29 3 B V io (T.map tkc).flatten T.length := (hc.keep fun j hj => Hp.get_push_ne _ _ (by subst hj; have := hc.lt hw; omega)).slAt
  have hx : elemsOf B 3 (.slice (some ⟨A.next, 0, some 3⟩) 1 3) = some (1, tkc t) := (SlAt.at (e := 29) (sz := 3) A.next 0 1 3 (tkc t) (tkc t) (.inr rfl) (Hp.get_push_same _ _) (by simp [tkc]) rfl).elems
  obtain ⟨v', A', i', a1, a2, a3, a4, a5, a6⟩ := append_sl elT elT2 hcB hx rfl (by omega) (by omega) (by unfold maxLen; omega)
  have n1 : B.next = A.next + 1 := by simp [B]
  refine ⟨v', A', i', a1, ?_, by omega, a5 (hw.push _), by omega, fun j hj hji => by rw [a6 j (by omega) hji]; exact Hp.get_push_ne _ _ (by omega)⟩
  rw [List.map_append, List.flatten_append, List.length_append]
  simpa using a2

/-- a ticket of the argument -/
structure TkA where
  k : Int
  s : Int
  v : Int
def TkA.cells (t : TkA) : List Value := [.int .i64 t.k, .int .u32 t.s, .int .u32 t.v]

/-- the first loop: what went in -/
structure DI (A0 : Hp) (P : Nat) (T : List Tk) (n : Nat) (V4 : Value) (A : Hp) : Prop where
  kp : KP P A0 A
  obj : A.get P = some (.abs 3 (LX.dat ⟨mg T, n⟩))
  o4 : ∃ io, CanAt 29 3 A V4 io (T.map tkc).flatten T.length ∧ ∀ j, io = some j → A0.next ≤ j
  ok : ∀ t ∈ T, 0 ≤ t.2.2 ∧ t.2.2 ≤ 4294967295

section
variable {call : CallT} (h : LaneFns call) {A0 : Hp} {P : Nat} (hPl : P < A0.next) (hw0 : A0.wf) {ta : List TkA} (hta : ∀ t ∈ ta, 0 ≤ t.v ∧ t.v ≤ 4294967295) {ib : Nat} (hib : A0.get ib = some (.arr 29 (ta.map TkA.cells).flatten .sh)) (hibP : ib ≠ P)
include h hPl hw0 hta hib hibP

theorem drain_put (lf : Nat) {A : Hp} {T : List Tk} {n : Nat} {V4 : Value} {m c : Nat} {i : Nat} (hI : DI A0 P T n V4 A) (hi : i < m) (hm : m ≤ ta.length) (hm2 : m ≤ 2000) (hn : n ≤ 100000) (hT : T.length ≤ 100000) :
    ∃ σ1 A1 T' V4', exec Tryd.bk.E call Tryd.f3.ntmps (Tryd.bk.inf 3) lf (loopOf Tryd.f3 0) [(2, .bool false), (3, ptr P), (4, V4), (24, .slice (some ⟨ib, 0, some 3⟩) m c), (25, .int .i64 (m : Nat)), (26, .int .i64 (i : Nat))] A = some (.normal, σ1, A1) ∧
      keepSl (some [2, 3, 4, 24, 25, 26]) σ1 = [(2, .bool false), (3, ptr P), (4, V4'), (24, .slice (some ⟨ib, 0, some 3⟩) m c), (25, .int .i64 (m : Nat)), (26, .int .i64 (i + 1 : Nat))] ∧ DI A0 P T' (n + 1) V4' A1 ∧ T'.length ≤ T.length + 1 := by
  obtain ⟨t, ht⟩ : ∃ t, ta[i]? = some t := ⟨_, List.getElem?_eq_getElem (by omega)⟩
  have hok := hta t (List.mem_of_getElem? ht)
  obtain ⟨f1, f2⟩ := flat_row (css := ta.map TkA.cells) (sz := 3) (fun k c hc => by
    rw [List.getElem?_map] at hc
    cases hh : ta[k]? with
    | none => rw [hh] at hc; cases hc
    | some x => rw [hh] at hc; cases hc; rfl) i t.cells (by rw [List.getElem?_map, ht]; rfl)
  have hcell : cellsIn (ta.map TkA.cells).flatten (0 + i * 3) 3 = some t.cells := cellsIn_of (by omega) (by rw [Nat.zero_add]; exact f2)
  obtain ⟨k, s, v⟩ := t
  simp only at hok
  have e1 : ((i : Nat) : Int) < ((m : Nat) : Int) := by omega
  have hw2 : IntKind.i64.wrap ((i : Int) + 1) = ((i + 1 : Nat) : Int) := by rw [w64 (by omega) (by omega)]; omega
  have hkw := hI.kp.wf
  have hnx := hI.kp.nx
  have hgi : A.get ib = some (.arr 29 (ta.map TkA.cells).flatten .sh) := by rw [hI.kp.old ib (hw0.lt hib) hibP]; exact hib
  let C : List Value := [.int .i64 k, .int .u32 s, .int .u32 v]
  let Z : List Value := [.int .i64 0, .int .u32 0, .int .u32 0]
  let A1 : Hp := (A.push (.arr 29 Z .own)).set A.next (some (.arr 29 C .own))
  have k1 : Kp A A1 := (Kp.push hkw (.arr 29 Z .own)).set (Hp.get_push_same _ _) (Nat.le_refl _) _
  have n1 : A1.next = A.next + 1 := by simp [A1]
  have q1 : A1.get A.next = some (.arr 29 C .own) := Hp.get_set_same _ _ _
  have hPA : P < A.next := by omega
  have hP1 : A1.get P = some (.abs 3 (LX.dat ⟨mg T, n⟩)) := by rw [k1.old P hPA]; exact hI.obj
  have hput := h.put (PutR.mk A1 P ⟨mg T, n⟩ hP1 k s v hok.1 hok.2 (show n ≤ _ by omega))
  let A2 : Hp := A1.set P (some (.abs 3 (LX.dat ⟨(putT (mg T) k s v).2, n + 1⟩)))
  have k2 : KP P A0 A2 := (hI.kp.trans (k1.toP P)).setO hP1 _
  have q2 : A2.get A.next = some (.arr 29 C .own) := by rw [show A2.get A.next = A1.get A.next from Hp.get_set_ne _ _ (by omega)]; exact q1
  have n2 : A2.next = A.next + 1 := by rw [show A2.next = A1.next from Hp.next_set _ _ _]; exact n1
  have o2 : ∀ j, j < A.next → j ≠ P → A2.get j = A.get j := fun j hj hp => by rw [show A2.get j = A1.get j from Hp.get_set_ne _ _ hp, k1.old j hj]
  obtain ⟨io, c4, c5⟩ := hI.o4
  have hio : io ≠ some P := fun e => by have := c5 P e; omega
  have c4' : CanAt 29 3 A2 V4 io (T.map tkc).flatten T.length := c4.keep fun j hj => o2 j (by subst hj; exact c4.lt hkw) (fun e => hio (by rw [hj, e]))
  cases hpt : (putT (mg T) k s v).1 with
  | some g =>
    have hmg : (putT (mg T) k s v).2 = mg T := by
      revert hpt
      unfold putT
      split
      · intro; rfl
      · split
        · intro; rfl
        · split
          · split
            · intro; rfl
            · split
              · intro; rfl
              · intro hh; cases hh
          · intro hh; cases hh
    rw [hpt] at hput
    refine ⟨?sg, A2, T, V4, kexec_run ?run, ?kp, ⟨k2, by rw [← hmg]; exact Hp.get_set_same _ _ _, ⟨io, c4', c5⟩, hI.ok⟩, by omega⟩
    case run =>
      conv => lhs; whnf
      rw [kdec e1]
      conv => lhs; whnf
      rw [kdec e1]
      conv => lhs; whnf
      refine bind_of ((cellsAt_of hgi _ _).trans hcell) ?_
      conv => lhs; whnf
      refine bind_of (dstore_of (Hp.get_push_same _ _) (t := 29) (o := 0) (cs' := C) rfl) ?_
      conv => lhs; whnf
      refine bind_of (cellsAt_of q1 _ _) ?_
      conv => lhs; whnf
      refine bind_of hput ?_
      conv => lhs; whnf
    case kp =>
      show [_, _, _, _, _, (26, Value.int .i64 (IntKind.i64.wrap ((i : Int) + 1)))] = _
      rw [hw2]
  | none =>
    obtain ⟨kn, rfl, hk1, hk7, hmg⟩ := mg_put (T := T) (k := k) (s := s) (v := v) (ts' := (putT (mg T) k s v).2) (by rw [← hpt])
    rw [hpt] at hput
    obtain ⟨V4', A3, io', d1, d2, d3, d4, d5, d6⟩ := app_tick k2.wf c4' (kn, s, v) (by omega)
    have k3 : KP P A0 A3 := ⟨d4, by have := k2.nx; omega, fun j hj hp => by rw [d6 j (by have := k2.nx; omega) (fun e => by have := c5 j e; omega), k2.old j hj hp]⟩
    refine ⟨?sg2, A3, T ++ [(kn, s, v)], V4', kexec_run ?run2, ?kp2, ⟨k3, ?ob2, ⟨some io', d2, fun j hj => by cases hj; have := k2.nx; omega⟩, ?ok2⟩, by simp⟩
    case run2 =>
      conv => lhs; whnf
      rw [kdec e1]
      conv => lhs; whnf
      rw [kdec e1]
      conv => lhs; whnf
      refine bind_of ((cellsAt_of hgi _ _).trans hcell) ?_
      conv => lhs; whnf
      refine bind_of (dstore_of (Hp.get_push_same _ _) (t := 29) (o := 0) (cs' := C) rfl) ?_
      conv => lhs; whnf
      refine bind_of (cellsAt_of q1 _ _) ?_
      conv => lhs; whnf
      refine bind_of hput ?_
      conv => lhs; whnf
      refine bind_of (cellsAt_of q2 _ _) ?_
      conv => lhs; whnf
      refine bind_of d1 ?_
      conv => lhs; whnf
    case kp2 =>
      show [_, _, _, _, _, (26, Value.int .i64 (IntKind.i64.wrap ((i : Int) + 1)))] = _
      rw [hw2]
    case ob2 =>
      rw [d6 P (by omega) hio, show A2.get P = _ from Hp.get_set_same _ _ _, hmg]
    case ok2 =>
      intro t ht
      rcases List.mem_append.1 ht with ht | ht
      · exact hI.ok t ht
      · simp only [List.mem_singleton] at ht
        subst ht
        exact hok
end
end Go.Dn.Ln
end

section
/-
  layer 11 (lane): List
-/
namespace Go.Dn.Ln
open Go.Proofs
set_option maxHeartbeats 4000000
set_option maxRecDepth 100000
attribute [local irreducible] Hp.get Hp.set Hp.push dappend dcopy dstore cellsAt callD loopD dlookup dmapUpdate ddelete

theorem tks_map (es : List En) : (tks es).length = (live es).length := by unfold tks; rw [List.length_map]

structure LI (A0 : Hp) (es : List En) (i : Nat) (V : Value) (A : Hp) : Prop where
  kp : Kp A0 A
  acc : ∃ io, CanAt 29 3 A V io ((tks (es.take i)).map tkc).flatten (tks (es.take i)).length ∧ ∀ j, io = some j → A0.next ≤ j

theorem list_loop {call : CallT} (lf : Nat) {A0 : Hp} (hw : A0.wf) {io : Option Nat} {lv : Value} {es : List En} (hl : SlAt 112 1 A0 lv io (es.map fun e => ptr e.id) es.length) (he : ∀ e ∈ es, A0.get e.id = some (.arr 117 e.cells .own)) (hlen : es.length ≤ 100000000) (hlf : es.length < lf) (V2 : Value) :
    ∃ A1 V L, loopD (some [2, 3, 11, 12, 13]) (exec Tryd.bk.E call Tryd.f20.ntmps (Tryd.bk.inf 20) lf (loopOf Tryd.f20 0)) lf [(2, V2), (3, .slice none 0 0), (11, lv), (12, .int .i64 (es.length : Nat)), (13, .int .i64 ((0 : Nat) : Int))] A0 =
      some (.exit 0, [(2, V2), (3, V), (11, lv), (12, .int .i64 (es.length : Nat)), (13, L)], A1) ∧ LI A0 es es.length V A1 := by
  obtain ⟨a, c, rfl⟩ := hl.sl3
  have key := loop_rule (ks := some [2, 3, 11, 12, 13]) (f := exec Tryd.bk.E call Tryd.f20.ntmps (Tryd.bk.inf 20) lf (loopOf Tryd.f20 0)) (S := Nat × Value)
    (fun s => [(2, V2), (3, s.2), (11, .slice a es.length c), (12, .int .i64 (es.length : Nat)), (13, .int .i64 (s.1 : Nat))])
    (fun s A => s.1 ≤ es.length ∧ LI A0 es s.1 s.2 A) (fun s => es.length - s.1)
    (fun e σ A1 => e = .exit 0 ∧ ∃ V L, σ = [(2, V2), (3, V), (11, .slice a es.length c), (12, .int .i64 (es.length : Nat)), (13, L)] ∧ LI A0 es es.length V A1) (fun s A hs => ?_)
    lf (0, .slice none 0 0) A0 ⟨Nat.zero_le _, Kp.refl hw, none, .nil, by simp⟩ (by simp only; omega)
  · obtain ⟨e, σ1, A1, r1, rfl, V, L, rfl, r2⟩ := key
    exact ⟨A1, V, L, r1, r2⟩
  · obtain ⟨i, V⟩ := s
    obtain ⟨z1, z2, io5, z3, z4⟩ := hs
    simp only at z1 z2 z3 z4 ⊢
    by_cases him : i < es.length
    · have hx : es[i]? = some es[i] := List.getElem?_eq_getElem him
      generalize es[i] = e at hx
      have hem := List.mem_of_getElem? hx
      have e1 : ((i : Nat) : Int) < ((es.length : Nat) : Int) := by omega
      have hw2 : IntKind.i64.wrap ((i : Int) + 1) = ((i + 1 : Nat) : Int) := by rw [w64 (by omega) (by omega)]; omega
      obtain ⟨il, ol, cs, rfl, rfl, hg, hc, _⟩ := list_cell hl (j := i) (x := ptr e.id) (by rw [List.getElem?_map, hx]; rfl)
      have hgA : A.get il = some (.arr 112 cs .own) := by rw [z2.old _ (hw.lt hg)]; exact hg
      have heA : A.get e.id = some (.arr 117 e.cells .own) := by rw [z2.old _ (hw.lt (he e hem))]; exact he e hem
      have htk := take_succ hx
      obtain ⟨id, ek, esx, ev, eg⟩ := e
      have hlv := live_le (es.take i)
      rw [List.length_take] at hlv
      have htl := tks_map (es.take i)
      cases eg with
      | true =>
        have hl2 : tks (es.take (i + 1)) = tks (es.take i) := by
          unfold tks live
          rw [htk, List.filter_append]; simp
        refine ⟨.normal, ?s1, A, kexec_run ?run1, .inl ⟨rfl, (i + 1, V), ?kp1, ⟨him, z2, io5, by rw [hl2]; exact z3, z4⟩, by simp only; omega⟩⟩
        case run1 =>
          conv => lhs; whnf
          rw [kdec e1]
          conv => lhs; whnf
          rw [kdec e1]
          conv => lhs; whnf
          refine bind_of ((cellsAt_of hgA _ _).trans hc) ?_
          conv => lhs; whnf
          refine bind_of (cellsAt_of heA _ _) ?_
          conv => lhs; whnf
        case kp1 =>
          show [_, _, _, _, (13, Value.int .i64 (IntKind.i64.wrap ((i : Int) + 1)))] = _
          rw [hw2]
      | false =>
        have hl2 : tks (es.take (i + 1)) = tks (es.take i) ++ [(ek, esx, ev)] := by rw [htk]; exact tks_snoc _ _ _ _ _
        obtain ⟨V', A1, i5, a1, a2, a3, a4, a5, a6⟩ := app_tick z2.wf z3 (ek, esx, ev) (by omega)
        have hC1 : LI A0 es (i + 1) V' A1 := by
          have hnx := z2.nx
          refine ⟨⟨a4, by omega, fun j hj => by rw [a6 j (by omega) (fun e => by have := z4 j e; omega), z2.old j hj]⟩, some i5, ?_, fun j hj => by cases hj; omega⟩
          rw [hl2]
          exact a2
        refine ⟨.normal, ?s2, A1, kexec_run ?run2, .inl ⟨rfl, (i + 1, V'), ?kp2, ⟨him, hC1⟩, by simp only; omega⟩⟩
        case run2 =>
          conv => lhs; whnf
          rw [kdec e1]
          conv => lhs; whnf
          rw [kdec e1]
          conv => lhs; whnf
          refine bind_of ((cellsAt_of hgA _ _).trans hc) ?_
          conv => lhs; whnf
          refine bind_of (cellsAt_of heA _ _) ?_
          conv => lhs; whnf
          refine bind_of (cellsAt_of heA _ _) ?_
          conv => lhs; whnf
          refine bind_of a1 ?_
          conv => lhs; whnf
        case kp2 =>
          show [_, _, _, _, (13, Value.int .i64 (IntKind.i64.wrap ((i : Int) + 1)))] = _
          rw [hw2]
    · obtain rfl : i = es.length := by omega
      have e1 : ¬ ((es.length : Nat) : Int) < ((es.length : Nat) : Int) := by omega
      refine ⟨.exit 0, ?s3, A, kexec_run ?run3, .inr ⟨by simp, rfl, V, ?L3, ?kp3, z2, io5, z3, z4⟩⟩
      case run3 =>
        conv => lhs; whnf
        rw [kdecn e1]
      case kp3 => rfl

theorem lane_list {call : CallT} (lf : Nat) {A : Hp} (hw : A.wf) {p : Nat} {S : Nat → Prop} {ts : List Tk} {N : Nat} (h : Lx A p S ts N) (hN : N ≤ 100000000) (hlf : N < lf) :
    ∃ V io A', kfn Tryd.bk.E call (Tryd.bk.inf 20) lf Tryd.f20 [ptr p] A = some (V, A') ∧ Kp A A' ∧ CanAt 29 3 A' V io (ts.map tkc).flatten ts.length ∧ ∀ j, io = some j → A.next ≤ j := by
  obtain ⟨mi, io, lv, es, M, h1, rfl, h3, h4, h5, h6⟩ := h
  obtain ⟨a, c, rfl⟩ := h1.hl.sl3
  obtain ⟨A1, V, L, r1, r2, io5, r3, r4⟩ := list_loop (call := call) lf hw h1.hl h1.he (by omega) (by omega) (.slice none 0 0)
  rw [List.take_of_length_le (Nat.le_refl _)] at r3
  refine ⟨V, io5, A1, ?run, r2, r3, r4⟩
  case run =>
    conv => lhs; whnf
    refine bind_of (cellsAt_of h1.hp _ _) ?_
    conv => lhs; whnf
    refine bind_of r1 ?_
    conv => lhs; whnf
    try rfl
end Go.Dn.Ln
end

section
/-
  layer 11 (lane): Withdraw
-/
namespace Go.Dn.Ln
open Go.Proofs
set_option maxHeartbeats 4000000
set_option maxRecDepth 100000
attribute [local irreducible] Hp.get Hp.set Hp.push dappend dcopy dstore cellsAt callD loopD dlookup dmapUpdate ddelete

/-- is it that kind, that stream? -/
def wm (k s : Int) (t : Tk) : Bool := ((t.1 : Nat) : Int) == k && t.2.1 == s

theorem die_none {i : Nat} {es : List En} (h : ∀ x ∈ es, x.id ≠ i) : die i es = es := by
  unfold die
  conv => rhs; rw [← List.map_id es]
  refine List.map_congr_left fun x hx => ?_
  rw [if_neg (h x hx)]; rfl
theorem live_app (a b : List En) : live (a ++ b) = live a ++ live b := by unfold live; rw [List.filter_append]
theorem die_app (i : Nat) (a b : List En) : die i (a ++ b) = die i a ++ die i b := by unfold die; rw [List.map_append]

theorem split_at {es : List En} {i : Nat} {e : En} (h : es[i]? = some e) : es = es.take i ++ e :: es.drop (i + 1) := by
  obtain ⟨h1, h2⟩ := List.getElem?_eq_some_iff.1 h
  rw [← h2, ← List.drop_eq_getElem_cons h1, List.take_append_drop]

theorem out_at {es : List En} (hnd : (es.map (·.id)).Nodup) {i : Nat} {e : En} (h : es[i]? = some e) (hg : e.gone = false) : live es = live (es.take i) ++ e :: live (es.drop (i + 1)) ∧ live (die e.id es) = live (es.take i) ++ live (es.drop (i + 1)) := by
  have hs := split_at h
  generalize es.take i = L1 at hs ⊢
  generalize es.drop (i + 1) = L2 at hs ⊢
  subst hs
  have hl : live (e :: L2) = e :: live L2 := by unfold live; rw [List.filter_cons]; simp [hg]
  refine ⟨by rw [live_app, hl], ?_⟩
  rw [List.map_append, List.map_cons] at hnd
  have hn1 : ∀ x ∈ L1, x.id ≠ e.id := fun x hx hid => (List.nodup_append.1 hnd).2.2 x.id (List.mem_map.2 ⟨x, hx, rfl⟩) e.id (by simp) hid
  have hn2 : ∀ x ∈ L2, x.id ≠ e.id := fun x hx hid => (List.nodup_cons.1 (List.nodup_append.1 hnd).2.1).1 (List.mem_map.2 ⟨x, hx, hid⟩)
  have hd : die e.id (e :: L2) = { e with gone := true } :: L2 := by
    have := die_none hn2
    unfold die at this ⊢
    rw [List.map_cons, this, if_pos rfl]
  rw [die_app, die_none hn1, hd, live_app]
  congr 1

section
variable {call call0 : CallT} {lf0 : Nat} (hd : ∀ args A r, kfn Tryd.bk.E call0 (Tryd.bk.inf 64) lf0 Tryd.f64 args A = some r → call 64 args A = some r)
include hd

theorem wd_loop (lf : Nat) {A : Hp} (hw : A.wf) {p mi : Nat} {io : Option Nat} {a : Option Addr} {c : Nat} {es : List En} {M : List (Nat × Int × Nat)} (h : IsLane A p mi io (.slice a es.length c) es M) (k s : Int) (hlen : es.length ≤ 100000000) (hlf : es.length < lf) (hlf0 : es.length < lf0) :
    ∃ A1 e, ∃ L : Value, loopD (some [0, 1, 2, 6, 14, 15, 16]) (exec Tryd.bk.E call Tryd.f22.ntmps (Tryd.bk.inf 22) lf (loopOf Tryd.f22 0)) lf [(0, ptr p), (1, .int .i64 k), (2, .int .u32 s), (6, .bool false), (14, .slice a es.length c), (15, .int .i64 (es.length : Nat)), (16, .int .i64 ((0 : Nat) : Int))] A =
      some (e, [(0, ptr p), (1, .int .i64 k), (2, .int .u32 s), (6, .bool ((tks es).any (wm k s))), (14, .slice a es.length c), (15, .int .i64 (es.length : Nat)), (16, L)], A1) ∧
      ((e = .exit 0 ∧ (tks es).any (wm k s) = false ∧ A1 = A) ∨ (e = .ret ∧ (tks es).any (wm k s) = true ∧ A1.wf ∧ A.next ≤ A1.next ∧ (∀ j, j < A.next → j ≠ p → j ≠ mi → (∀ e ∈ es, e.id ≠ j) → A1.get j = A.get j) ∧
        ∃ io' lv' es' M', IsLane A1 p mi io' lv' es' M' ∧ tks es' = (tks es).eraseP (wm k s) ∧ (io' = io ∨ ∀ j, io' = some j → A.next ≤ j) ∧ (∀ x ∈ es', ∃ y ∈ es, y.id = x.id) ∧ es'.length ≤ es.length)) := by
  have key := loop_rule (ks := some [0, 1, 2, 6, 14, 15, 16]) (f := exec Tryd.bk.E call Tryd.f22.ntmps (Tryd.bk.inf 22) lf (loopOf Tryd.f22 0)) (S := Nat)
    (fun i => [(0, ptr p), (1, .int .i64 k), (2, .int .u32 s), (6, .bool false), (14, .slice a es.length c), (15, .int .i64 (es.length : Nat)), (16, .int .i64 (i : Nat))])
    (fun i B => i ≤ es.length ∧ B = A ∧ (tks (es.take i)).any (wm k s) = false) (fun i => es.length - i)
    (fun e σ A1 => ∃ L, σ = [(0, ptr p), (1, .int .i64 k), (2, .int .u32 s), (6, .bool ((tks es).any (wm k s))), (14, .slice a es.length c), (15, .int .i64 (es.length : Nat)), (16, L)] ∧
      ((e = .exit 0 ∧ (tks es).any (wm k s) = false ∧ A1 = A) ∨ (e = .ret ∧ (tks es).any (wm k s) = true ∧ A1.wf ∧ A.next ≤ A1.next ∧ (∀ j, j < A.next → j ≠ p → j ≠ mi → (∀ e ∈ es, e.id ≠ j) → A1.get j = A.get j) ∧
        ∃ io' lv' es' M', IsLane A1 p mi io' lv' es' M' ∧ tks es' = (tks es).eraseP (wm k s) ∧ (io' = io ∨ ∀ j, io' = some j → A.next ≤ j) ∧ (∀ x ∈ es', ∃ y ∈ es, y.id = x.id) ∧ es'.length ≤ es.length))) (fun i B hs => ?_)
    lf 0 A ⟨Nat.zero_le _, rfl, by simp [tks, live]⟩ (by omega)
  · obtain ⟨e, σ1, A1, r1, L, rfl, r2⟩ := key
    exact ⟨A1, e, L, r1, r2⟩
  · obtain ⟨z1, rfl, z3⟩ := hs
    by_cases him : i < es.length
    · obtain ⟨e, hx⟩ : ∃ e, es[i]? = some e := ⟨_, List.getElem?_eq_getElem him⟩
      have hem := List.mem_of_getElem? hx
      have e1 : ((i : Nat) : Int) < ((es.length : Nat) : Int) := by omega
      have hw2 : IntKind.i64.wrap ((i : Int) + 1) = ((i + 1 : Nat) : Int) := by rw [w64 (by omega) (by omega)]; omega
      obtain ⟨il, ol, cs, rfl, rfl, hgA, hc, _⟩ := list_cell h.hl (j := i) (x := ptr e.id) (by rw [List.getElem?_map, hx]; rfl)
      have heA := h.he e hem
      have hok := h.ok e hem
      have htk := take_succ hx
      have hgo : (tks (es.take i) ++ tks [e]).any (wm k s) = false → ∃ s', [(0, ptr p), (1, Value.int .i64 k), (2, Value.int .u32 s), (6, Value.bool false), (14, Value.slice (some ⟨il, ol, some 1⟩) es.length c), (15, Value.int .i64 (es.length : Nat)), (16, Value.int .i64 (IntKind.i64.wrap ((i : Int) + 1)))] =
          [(0, ptr p), (1, Value.int .i64 k), (2, Value.int .u32 s), (6, Value.bool false), (14, Value.slice (some ⟨il, ol, some 1⟩) es.length c), (15, Value.int .i64 (es.length : Nat)), (16, Value.int .i64 ((s' : Nat) : Int))] ∧ (s' ≤ es.length ∧ B = B ∧ (tks (es.take s')).any (wm k s) = false) ∧ es.length - s' < es.length - i := fun hh =>
        ⟨i + 1, by rw [hw2], ⟨him, rfl, by rw [htk]; unfold tks at hh ⊢; rw [live_app, List.map_append]; exact hh⟩, by omega⟩
      obtain ⟨id, ek, esx, ev, eg⟩ := e
      cases eg with
      | true =>
        obtain ⟨s', g1, g2⟩ := hgo (by rw [List.any_append, z3]; rfl)
        refine ⟨.normal, ?s1, B, kexec_run ?run1, .inl ⟨rfl, s', ?kp1, g2⟩⟩
        case run1 =>
          conv => lhs; whnf
          rw [kdec e1]
          conv => lhs; whnf
          rw [kdec e1]
          conv => lhs; whnf
          refine bind_of ((cellsAt_of hgA _ _).trans hc) ?_
          conv => lhs; whnf
          refine bind_of (cellsAt_of heA _ _) ?_
          conv => lhs; whnf
        case kp1 => exact g1
      | false =>
        have htk1 : tks [⟨id, ek, esx, ev, false⟩] = [(ek, esx, ev)] := rfl
        by_cases h1 : ((ek : Nat) : Int) = k
        · by_cases h2 : esx = s
          · have hm : wm k s (ek, esx, ev) = true := by simp [wm, h1, h2]
            obtain ⟨l1, l2⟩ := out_at h.nd hx rfl
            obtain ⟨A2, io2, lv2, es2, r, a1, a2, a3, a4, a5, a6, a7, a8, a9, a10⟩ := drop_step (call := call0) lf0 hw (al := es) (es := es) h.hp h.hl h.hm h.he h.nd h.mp h.ok (e := ⟨id, ek, esx, ev, false⟩) hem rfl l1 (fun x hx => hx) l2 h.nd (by omega) (by omega) (by omega)
            have hda := hd _ _ _ a1
            have hT : tks es = tks (es.take i) ++ (ek, esx, ev) :: (live (es.drop (i + 1))).map En.tk := by
              show (live es).map En.tk = _
              rw [l1, List.map_append, List.map_cons]
              rfl
            have hany : (tks es).any (wm k s) = true := by
              rw [hT, List.any_append, List.any_cons, hm]; simp
            have her : tks es2 = (tks es).eraseP (wm k s) := by
              rw [hT, List.eraseP_append_right _ (fun b hb => by
                have := List.any_eq_false.1 z3 b hb
                simpa using this), List.eraseP_cons_of_pos hm]
              show (live es2).map En.tk = _
              rw [a6, List.map_append]
              rfl
            refine ⟨.ret, ?s2, A2, kexec_run ?run2, .inr ⟨by simp, ?L2, ?kp2, .inr ⟨rfl, hany, a2, a3, fun j hj j1 j2 j3 => a4 j hj j1 j2 (fun e => j3 _ hem e.symm), io2, lv2, es2, _, a5, her, a7, a8, a9⟩⟩⟩
            case run2 =>
              conv => lhs; whnf
              rw [kdec e1]
              conv => lhs; whnf
              rw [kdec e1]
              conv => lhs; whnf
              refine bind_of ((cellsAt_of hgA _ _).trans hc) ?_
              conv => lhs; whnf
              refine bind_of (cellsAt_of heA _ _) ?_
              conv => lhs; whnf
              refine bind_of (cellsAt_of heA _ _) ?_
              conv => lhs; whnf
              rw [show (((ek : Nat) : Int) == k) = true from beq_iff_eq.2 h1]
              conv => lhs; whnf
              refine bind_of (cellsAt_of heA _ _) ?_
              conv => lhs; whnf
              rw [show (esx == s) = true from beq_iff_eq.2 h2]
              conv => lhs; whnf
              refine bind_of hda ?_
              conv => lhs; whnf
            case kp2 => rw [hany]; rfl
          · obtain ⟨s', g1, g2⟩ := hgo (by rw [List.any_append, z3, htk1]; simp [wm, h2])
            refine ⟨.normal, ?s3, B, kexec_run ?run3, .inl ⟨rfl, s', ?kp3, g2⟩⟩
            case run3 =>
              conv => lhs; whnf
              rw [kdec e1]
              conv => lhs; whnf
              rw [kdec e1]
              conv => lhs; whnf
              refine bind_of ((cellsAt_of hgA _ _).trans hc) ?_
              conv => lhs; whnf
              refine bind_of (cellsAt_of heA _ _) ?_
              conv => lhs; whnf
              refine bind_of (cellsAt_of heA _ _) ?_
              conv => lhs; whnf
              rw [show (((ek : Nat) : Int) == k) = true from beq_iff_eq.2 h1]
              conv => lhs; whnf
              refine bind_of (cellsAt_of heA _ _) ?_
              conv => lhs; whnf
              rw [show (esx == s) = false from beq_eq_false_iff_ne.2 h2]
              conv => lhs; whnf
            case kp3 => exact g1
        · obtain ⟨s', g1, g2⟩ := hgo (by rw [List.any_append, z3, htk1]; simp [wm, h1])
          refine ⟨.normal, ?s4, B, kexec_run ?run4, .inl ⟨rfl, s', ?kp4, g2⟩⟩
          case run4 =>
            conv => lhs; whnf
            rw [kdec e1]
            conv => lhs; whnf
            rw [kdec e1]
            conv => lhs; whnf
            refine bind_of ((cellsAt_of hgA _ _).trans hc) ?_
            conv => lhs; whnf
            refine bind_of (cellsAt_of heA _ _) ?_
            conv => lhs; whnf
            refine bind_of (cellsAt_of heA _ _) ?_
            conv => lhs; whnf
            rw [show (((ek : Nat) : Int) == k) = false from beq_eq_false_iff_ne.2 h1]
            conv => lhs; whnf
          case kp4 => exact g1
    · obtain rfl : i = es.length := by omega
      have e1 : ¬ ((es.length : Nat) : Int) < ((es.length : Nat) : Int) := by omega
      rw [List.take_of_length_le (Nat.le_refl _)] at z3
      refine ⟨.exit 0, ?s5, B, kexec_run ?run5, .inr ⟨by simp, ?L5, ?kp5, .inl ⟨rfl, z3, rfl⟩⟩⟩
      case run5 =>
        conv => lhs; whnf
        rw [kdecn e1]
      case kp5 => rw [z3]; rfl

/-- Withdraw -/
theorem lane_withdraw (lf : Nat) {A : Hp} (hw : A.wf) {p : Nat} {S : Nat → Prop} {ts : List Tk} {N : Nat} (h : Lx A p S ts N) (k s : Int) (hN : N ≤ 100000000) (hN2 : N < lf0) (hN3 : N < lf) :
    ∃ A' S', kfn Tryd.bk.E call (Tryd.bk.inf 22) lf Tryd.f22 [ptr p, .int .i64 k, .int .u32 s] A = some (.bool (ts.any (wm k s)), A') ∧ St A A' p S S' ∧ Lx A' p S' (ts.eraseP (wm k s)) N := by
  obtain ⟨mi, io, lv, es, M, h1, rfl, h3, h4, h5, h6⟩ := h
  obtain ⟨a, c, rfl⟩ := h1.hl.sl3
  obtain ⟨A1, e, L, r1, r2⟩ := wd_loop hd lf hw h1 k s (by omega) (by omega) (by omega)
  rcases r2 with ⟨rfl, g1, rfl⟩ | ⟨rfl, g1, g2, g3, g4, io', lv', es', M', g5, g6, g7, g8, g9⟩
  · rw [g1] at r1 ⊢
    refine ⟨A1, S, ?run, St.refl hw, ⟨mi, io, _, es, M, h1, ?er, h3, h4, h5, h6⟩⟩
    case er =>
      rw [List.eraseP_of_forall_not]
      intro t ht
      have := List.any_eq_false.1 g1 t ht
      simpa using this
    case run =>
      conv => lhs; whnf
      refine bind_of (cellsAt_of h1.hp _ _) ?_
      conv => lhs; whnf
      refine bind_of r1 ?_
      conv => lhs; whnf
      try rfl
  · rw [g1] at r1 ⊢
    refine ⟨A1, fun j => S j ∨ A.next ≤ j, ?run2, ⟨g2, g3, fun j hj hjp hjS => g4 j hj hjp (fun e => hjS (by rw [e]; exact h3)) (fun x hx e => hjS (by rw [← e]; exact h5 x hx)), fun _ h => h⟩, ⟨mi, io', lv', es', M', g5, g6, .inl h3, ?io2, ?ids2, by omega⟩⟩
    case io2 =>
      intro i hi
      rcases g7 with e | e
      · exact .inl (h4 i (by rw [← e]; exact hi))
      · exact .inr (e i hi)
    case ids2 =>
      intro x hx
      obtain ⟨y, hy, hid⟩ := g8 x hx
      rw [← hid]
      exact .inl (h5 y hy)
    case run2 =>
      conv => lhs; whnf
      refine bind_of (cellsAt_of h1.hp _ _) ?_
      conv => lhs; whnf
      refine bind_of r1 ?_
      conv => lhs; whnf
      try rfl
end
end Go.Dn.Ln
end

section
/-
  layer 11 (lane): Forget, Clear
-/
namespace Go.Dn.Ln
open Go.Proofs
set_option maxHeartbeats 4000000
set_option maxRecDepth 100000
attribute [local irreducible] Hp.get Hp.set Hp.push dappend dcopy dstore cellsAt callD loopD dlookup dmapUpdate ddelete

/-- what a lane owns, and no more -/
theorem Lx.tight {A : Hp} {p : Nat} {S : Nat → Prop} {ts : List Tk} {N : Nat} (h : Lx A p S ts N) (hw : A.wf) : ∃ S', Lx A p S' ts N ∧ ∀ j, S' j → S j ∧ j < A.next ∧ j ≠ p := by
  obtain ⟨mi, io, lv, es, M, h1, h2, h3, h4, h5, h6⟩ := h
  obtain ⟨p1, p2, p3, p4, p5⟩ := h1.pl hw
  refine ⟨fun j => j = mi ∨ io = some j ∨ ∃ x ∈ es, x.id = j, ⟨mi, io, lv, es, M, h1, h2, .inl rfl, fun i hi => .inr (.inl hi), fun e he => .inr (.inr ⟨e, he, rfl⟩), h6⟩, ?_⟩
  rintro j (rfl | e | ⟨x, hx, rfl⟩)
  · exact ⟨h3, p2, p3.symm⟩
  · exact ⟨h4 j e, (p4 j e).1, (p4 j e).2.1⟩
  · exact ⟨h5 x hx, (p5 x hx).1, (p5 x hx).2.1⟩
theorem Lx.root {A : Hp} {p : Nat} {S : Nat → Prop} {ts : List Tk} {N : Nat} (h : Lx A p S ts N) : ∃ cs, A.get p = some (.arr 109 cs .own) := by
  obtain ⟨mi, io, lv, es, M, h1, _⟩ := h
  exact ⟨_, h1.hp⟩

def ListOK (call : CallT) (NN : Nat) : Prop := ∀ {A : Hp}, A.wf → ∀ {p : Nat} {S : Nat → Prop} {ts : List Tk} {N : Nat}, Lx A p S ts N → N ≤ NN →
  ∃ V io A', call 20 [ptr p] A = some (V, A') ∧ Kp A A' ∧ CanAt 29 3 A' V io (ts.map tkc).flatten ts.length ∧ ∀ j, io = some j → A.next ≤ j
def WdOK (call : CallT) (NN : Nat) : Prop := ∀ {A : Hp}, A.wf → ∀ {p : Nat} {S : Nat → Prop} {ts : List Tk} {N : Nat}, Lx A p S ts N → ∀ k s : Int, N ≤ NN →
  ∃ A' S', call 22 [ptr p, .int .i64 k, .int .u32 s] A = some (.bool (ts.any (wm k s)), A') ∧ St A A' p S S' ∧ Lx A' p S' (ts.eraseP (wm k s)) N
def NewOK (call : CallT) : Prop := ∀ {A : Hp}, A.wf → ∃ A', call 16 [] A = some (ptr (A.next + 1), A') ∧ Kp A A' ∧ A'.next = A.next + 2 ∧ Lx A' (A.next + 1) (fun j => j = A.next) [] 0

def isS (s : Int) (t : Tk) : Bool := t.2.1 == s
def fgT (ts : List Tk) (s : Int) (i : Nat) : List Tk := (ts.take i).filter (fun t => !isS s t) ++ ts.drop i
def fgN (ts : List Tk) (s : Int) (i : Nat) : Nat := (ts.take i).countP (isS s)

theorem fg_step {ts : List Tk} {s : Int} {i : Nat} {t : Tk} (h : ts[i]? = some t) :
    (isS s t = true → (fgT ts s i).any (wm (t.1 : Nat) s) = true ∧ (fgT ts s i).eraseP (wm (t.1 : Nat) s) = fgT ts s (i + 1) ∧ fgN ts s (i + 1) = fgN ts s i + 1) ∧ (isS s t = false → fgT ts s (i + 1) = fgT ts s i ∧ fgN ts s (i + 1) = fgN ts s i) := by
  obtain ⟨h1, h2⟩ := List.getElem?_eq_some_iff.1 h
  have hd : ts.drop i = t :: ts.drop (i + 1) := by rw [List.drop_eq_getElem_cons h1, h2]
  unfold fgT fgN
  rw [take_succ h, List.filter_append, List.countP_append]
  constructor
  · intro hs
    have hm : wm (t.1 : Nat) s t = true := by
      unfold isS at hs
      simp only [beq_iff_eq] at hs
      simp [wm, hs]
    refine ⟨by rw [hd, List.any_append, List.any_cons, hm]; simp, ?_, by simp [hs]⟩
    rw [List.eraseP_append_right, hd, List.eraseP_cons_of_pos hm]
    · simp [hs]
    · intro b hb
      have := (List.mem_filter.1 hb).2
      unfold isS at this
      simp only [Bool.not_eq_true', beq_eq_false_iff_ne] at this
      simp [wm, this]
  · intro hs
    refine ⟨?_, by simp [hs]⟩
    rw [hd]
    simp [hs]
theorem fg_zero (ts : List Tk) (s : Int) : fgT ts s 0 = ts ∧ fgN ts s 0 = 0 := ⟨rfl, rfl⟩
theorem fg_end (ts : List Tk) (s : Int) : fgT ts s ts.length = ts.filter (fun t => !isS s t) ∧ fgN ts s ts.length = ts.countP (isS s) := by
  unfold fgT fgN
  rw [List.take_length, List.drop_length, List.append_nil]
  exact ⟨rfl, rfl⟩
theorem fgN_le (ts : List Tk) (s : Int) (i : Nat) : fgN ts s i ≤ i := by
  unfold fgN
  exact Nat.le_trans List.countP_le_length (by rw [List.length_take]; omega)

theorem forget_end {call : CallT} (lf : Nat) {A : Hp} (p m i : Nat) (s : Int) (V5 V11 : Value) (hi : ¬ i < m) :
    ∃ σ1, exec Tryd.bk.E call Tryd.f23.ntmps (Tryd.bk.inf 23) lf (loopOf Tryd.f23 0) [(0, ptr p), (1, .int .u32 s), (4, .int .i64 0), (5, V5), (11, V11), (12, .int .i64 (m : Nat)), (13, .int .i64 (i : Nat))] A = some (.exit 0, σ1, A) ∧
      keepSl (some [0, 1, 4, 5, 11, 12, 13]) σ1 = [(0, ptr p), (1, .int .u32 s), (4, .int .i64 0), (5, V5), (11, V11), (12, .int .i64 (m : Nat)), (13, .int .i64 (i : Nat))] := by
  have e1 : ¬ ((i : Nat) : Int) < ((m : Nat) : Int) := by omega
  refine ⟨?s, kexec_run ?run, ?kp⟩
  case run =>
    conv => lhs; whnf
    rw [kdecn e1]
  case kp => rfl

theorem loop_out' {ks : Option (List Nat)} {f : Sl → Hp → Option (Ex × Sl × Hp)} {σ σ1 : Sl} {A A1 : Hp} {e : Ex} (h : f σ A = some (e, σ1, A1)) (he : e ≠ .normal) {n : Nat} (hn : 0 < n) : loopD ks f n σ A = some (e, keepSl ks σ1, A1) := by
  obtain ⟨k, rfl⟩ : ∃ k, n = k + 1 := ⟨n - 1, by omega⟩
  exact loopD_end h he

structure FS where
  i : Nat
  S : Nat → Prop

theorem forget_loop {call : CallT} {NN : Nat} (hwd : WdOK call NN) (lf : Nat) {A : Hp} (hw : A.wf) {p : Nat} {S : Nat → Prop} {ts : List Tk} {N : Nat} (h : Lx A p S ts N) (hN : N ≤ NN) {V : Value} {io : Option Nat} (hc : CanAt 29 3 A V io (ts.map tkc).flatten ts.length) (hio : ∀ j, io = some j → j ≠ p ∧ ¬ S j) (s : Int) (hl : ts.length ≤ 100000000) (hlf : ts.length < lf) :
    ∃ A1 S1 L, loopD (some [0, 1, 4, 5, 11, 12, 13]) (exec Tryd.bk.E call Tryd.f23.ntmps (Tryd.bk.inf 23) lf (loopOf Tryd.f23 0)) lf [(0, ptr p), (1, .int .u32 s), (4, .int .i64 0), (5, .int .i64 ((0 : Nat) : Int)), (11, V), (12, .int .i64 (ts.length : Nat)), (13, .int .i64 ((0 : Nat) : Int))] A =
      some (.exit 0, [(0, ptr p), (1, .int .u32 s), (4, .int .i64 0), (5, .int .i64 (ts.countP (isS s) : Nat)), (11, V), (12, .int .i64 (ts.length : Nat)), (13, L)], A1) ∧ St A A1 p S S1 ∧ Lx A1 p S1 (ts.filter (fun t => !isS s t)) N := by
  generalize hfl : (ts.map tkc).flatten = fl at hc
  generalize hol : ts.length = ol at hc hlf hl ⊢
  cases hc with
  | nil =>
    obtain rfl : ts = [] := List.length_eq_zero_iff.1 hol
    obtain ⟨σ1, r1, r2⟩ := forget_end (call := call) lf (A := A) p 0 0 s (.int .i64 ((0 : Nat) : Int)) (.slice none 0 0) (by omega)
    have := loop_out' (ks := some [0, 1, 4, 5, 11, 12, 13]) r1 (by simp) (n := lf) (by omega)
    rw [r2] at this
    exact ⟨A, S, _, this, St.refl hw, h⟩
  | «at» it _ _ hg hll hp =>
    subst hol hfl
    obtain ⟨g1, g2⟩ := hio it rfl
    have hitl := hw.lt hg
    obtain ⟨rc, hrc⟩ := h.root
    have hpl := hw.lt hrc
    have key := loop_rule (ks := some [0, 1, 4, 5, 11, 12, 13]) (f := exec Tryd.bk.E call Tryd.f23.ntmps (Tryd.bk.inf 23) lf (loopOf Tryd.f23 0)) (S := FS)
      (fun q => [(0, ptr p), (1, .int .u32 s), (4, .int .i64 0), (5, .int .i64 (fgN ts s q.i : Nat)), (11, .slice (some ⟨it, 0, some 3⟩) ts.length (2 * ts.length)), (12, .int .i64 (ts.length : Nat)), (13, .int .i64 (q.i : Nat))])
      (fun q B => q.i ≤ ts.length ∧ St A B p S q.S ∧ Lx B p q.S (fgT ts s q.i) N) (fun q => ts.length - q.i)
      (fun e σ B => e = .exit 0 ∧ ∃ S1 L, σ = [(0, ptr p), (1, .int .u32 s), (4, .int .i64 0), (5, .int .i64 (ts.countP (isS s) : Nat)), (11, .slice (some ⟨it, 0, some 3⟩) ts.length (2 * ts.length)), (12, .int .i64 (ts.length : Nat)), (13, L)] ∧ St A B p S S1 ∧ Lx B p S1 (ts.filter (fun t => !isS s t)) N) (fun q B hs => ?_)
      lf ⟨0, S⟩ A ⟨Nat.zero_le _, St.refl hw, h⟩ (by simp only; omega)
    · obtain ⟨e, σ1, A1, r1, rfl, S1, L, rfl, r2⟩ := key
      exact ⟨A1, S1, L, r1, r2⟩
    · obtain ⟨i, Si⟩ := q
      obtain ⟨z1, z2, z3⟩ := hs
      simp only at z1 z2 z3 ⊢
      by_cases him : i < ts.length
      · obtain ⟨t, ht⟩ : ∃ t, ts[i]? = some t := ⟨_, List.getElem?_eq_getElem him⟩
        have hcell := tick_row ht
        obtain ⟨f1, f2⟩ := fg_step (s := s) ht
        have hn := fgN_le ts s i
        obtain ⟨tk, tss, tv⟩ := t
        have e1 : ((i : Nat) : Int) < ((ts.length : Nat) : Int) := by omega
        have hw2 : IntKind.i64.wrap ((i : Int) + 1) = ((i + 1 : Nat) : Int) := by rw [w64 (by omega) (by omega)]; omega
        have hw3 : IntKind.i64.wrap ((fgN ts s i : Nat) + 1) = ((fgN ts s i + 1 : Nat) : Int) := by rw [w64 (by omega) (by omega)]; omega
        have hgB : B.get it = some (.arr 29 (ts.map tkc).flatten .own) := by rw [z2.old it hitl g1 g2]; exact hg
        let Z : List Value := [.int .i64 0, .int .u32 0, .int .u32 0]
        let C : List Value := [.int .i64 (tk : Nat), .int .u32 tss, .int .u32 tv]
        have hcell2 : cellsIn (ts.map tkc).flatten (0 + i * 3) 3 = some C := hcell
        let B1 : Hp := (B.push (.arr 29 Z .own)).set B.next (some (.arr 29 C .own))
        have k1 : Kp B B1 := (Kp.push z2.wf (.arr 29 Z .own)).set (Hp.get_push_same _ _) (Nat.le_refl _) _
        have q1 : B1.get B.next = some (.arr 29 C .own) := Hp.get_set_same _ _ _
        have hL1 := z3.kp z2.wf k1
        by_cases h5 : tss = s
        · obtain ⟨u1, u2, u3⟩ := f1 (by simp [isS, h5])
          obtain ⟨B2, S2, d1, d2, d3⟩ := hwd k1.wf hL1 (tk : Nat) s hN
          rw [u1] at d1
          rw [u2] at d3
          refine ⟨.normal, ?s1, B2, kexec_run ?run1, .inl ⟨rfl, ⟨i + 1, S2⟩, ?kp1, ⟨him, (z2.trans k1.st).trans d2, d3⟩, by simp only; omega⟩⟩
          case run1 =>
            conv => lhs; whnf
            rw [kdec e1]
            conv => lhs; whnf
            rw [kdec e1]
            conv => lhs; whnf
            refine bind_of ((cellsAt_of hgB _ _).trans hcell2) ?_
            conv => lhs; whnf
            refine bind_of (dstore_of (Hp.get_push_same _ _) (t := 29) (o := 0) (cs' := C) rfl) ?_
            conv => lhs; whnf
            refine bind_of (cellsAt_of q1 _ _) ?_
            conv => lhs; whnf
            rw [show (tss == s) = true from beq_iff_eq.2 h5]
            conv => lhs; whnf
            refine bind_of (cellsAt_of q1 _ _) ?_
            conv => lhs; whnf
            refine bind_of d1 ?_
            conv => lhs; whnf
          case kp1 =>
            show [_, _, _, (5, Value.int .i64 (IntKind.i64.wrap ((fgN ts s i : Nat) + 1))), _, _, (13, Value.int .i64 (IntKind.i64.wrap ((i : Int) + 1)))] = _
            rw [hw2, hw3, u3]
        · obtain ⟨u1, u2⟩ := f2 (by simp [isS, h5])
          refine ⟨.normal, ?s2, B1, kexec_run ?run2, .inl ⟨rfl, ⟨i + 1, Si⟩, ?kp2, ⟨him, z2.trans k1.st, by rw [u1]; exact hL1⟩, by simp only; omega⟩⟩
          case run2 =>
            conv => lhs; whnf
            rw [kdec e1]
            conv => lhs; whnf
            rw [kdec e1]
            conv => lhs; whnf
            refine bind_of ((cellsAt_of hgB _ _).trans hcell2) ?_
            conv => lhs; whnf
            refine bind_of (dstore_of (Hp.get_push_same _ _) (t := 29) (o := 0) (cs' := C) rfl) ?_
            conv => lhs; whnf
            refine bind_of (cellsAt_of q1 _ _) ?_
            conv => lhs; whnf
            rw [show (tss == s) = false from beq_eq_false_iff_ne.2 h5]
            conv => lhs; whnf
            try rfl
          case kp2 =>
            show [_, _, _, _, _, _, (13, Value.int .i64 (IntKind.i64.wrap ((i : Int) + 1)))] = _
            rw [hw2, u2]
      · obtain rfl : i = ts.length := by omega
        obtain ⟨σ1, r1, r2⟩ := forget_end (call := call) lf (A := B) p ts.length ts.length s (.int .i64 (fgN ts s ts.length : Nat)) (.slice (some ⟨it, 0, some 3⟩) ts.length (2 * ts.length)) him
        obtain ⟨w1, w2⟩ := fg_end ts s
        rw [w2] at r1 r2
        rw [w1] at z3
        rw [w2]
        exact ⟨.exit 0, σ1, B, r1, .inr ⟨by simp, rfl, Si, _, r2, z2, z3⟩⟩

/-- Forget -/
theorem lane_forget {call : CallT} {NN : Nat} (hls : ListOK call NN) (hwd : WdOK call NN) (lf : Nat) {A : Hp} (hw : A.wf) {p : Nat} {S : Nat → Prop} {ts : List Tk} {N : Nat} (h : Lx A p S ts N) (s : Int) (hN : N ≤ NN) (hNN : NN ≤ 100000000) (hl : ts.length ≤ N) (hlf : N < lf) :
    ∃ A' S', kfn Tryd.bk.E call (Tryd.bk.inf 23) lf Tryd.f23 [ptr p, .int .u32 s] A = some (.int .i64 (ts.countP (isS s) : Nat), A') ∧ St A A' p S S' ∧ Lx A' p S' (ts.filter (fun t => !isS s t)) N := by
  obtain ⟨S0, h0, hS0⟩ := h.tight hw
  obtain ⟨rc, hrc⟩ := h.root
  have hpl := hw.lt hrc
  obtain ⟨V, io, A1, l1, k1, hc, hio⟩ := hls hw h0 hN
  obtain ⟨A2, S2, L, r1, r2, r3⟩ := forget_loop hwd lf k1.wf (h0.kp hw k1) hN hc (fun j hj => ⟨by have := hio j hj; omega, fun e => by have := hio j hj; have := (hS0 j e).2.1; omega⟩) s (by omega) (by omega)
  obtain ⟨a, c, rfl⟩ := hc.sl3
  refine ⟨A2, S2, ?run, ⟨r2.wf, Nat.le_trans k1.nx r2.nx, ?old, ?own⟩, r3⟩
  case old =>
    intro j hj hjp hjS
    rw [r2.old j (by have := k1.nx; omega) hjp (fun e => hjS (hS0 j e).1), k1.old j hj]
  case own =>
    intro j hj
    rcases r2.own j hj with e | e
    · exact .inl (hS0 j e).1
    · exact .inr (Nat.le_trans k1.nx e)
  case run =>
    conv => lhs; whnf
    refine bind_of l1 ?_
    conv => lhs; whnf
    refine bind_of r1 ?_
    conv => lhs; whnf
    try rfl

/-- Clear -/
theorem lane_clear {call : CallT} (hnew : NewOK call) (lf : Nat) {A : Hp} (hw : A.wf) {p : Nat} {S : Nat → Prop} {ts : List Tk} {N : Nat} (h : Lx A p S ts N) :
    ∃ A' S', kfn Tryd.bk.E call (Tryd.bk.inf 24) lf Tryd.f24 [ptr p] A = some (.int .i64 (ts.length : Nat), A') ∧ St A A' p S S' ∧ Lx A' p S' [] N := by
  obtain ⟨mi, io, lv, es, M, h1, rfl, h3, h4, h5, h6⟩ := h
  obtain ⟨A1, n1, k1, n2, mi2, io2, lv2, es2, M2, g1, g2, g3, g4, g5, g6⟩ := hnew hw
  obtain rfl : es2 = [] := List.length_eq_zero_iff.1 (by omega)
  obtain ⟨sa, sc, rfl⟩ := h1.hl.sl3
  obtain ⟨sa2, sc2, rfl⟩ := g1.hl.sl3
  have hpl := hw.lt h1.hp
  have hp1 : A1.get p = some (.arr 109 (laneC (.slice sa es.length sc) mi (fun j => (cnt es j : Nat)) ((live es).length : Nat)) .own) := by rw [k1.old p hpl]; exact h1.hp
  have gp := g1.hp
  let A2 : Hp := A1.set p (some (.arr 109 (laneC (.slice sa2 0 sc2) mi2 (fun j => (cnt [] j : Nat)) ((live []).length : Nat)) .own))
  have g3' : mi2 = A.next := g3
  have o2 : ∀ j, j ≠ p → A2.get j = A1.get j := fun j hj => Hp.get_set_ne _ _ hj
  refine ⟨A2, fun j => S j ∨ A.next ≤ j, ?run, ⟨k1.wf.put hp1 _, by rw [Hp.next_set]; exact k1.nx, ?old, fun _ h => h⟩, ⟨mi2, io2, _, [], M2, ⟨Hp.get_set_same _ _ _, ?sl, ?mm, by simp, by simp, g1.mp, by simp⟩, rfl, .inr (by omega), ?ii, by simp, Nat.zero_le _⟩⟩
  case old =>
    intro j hj hjp _
    rw [o2 j hjp, k1.old j hj]
  case sl => exact g1.hl.keep fun i hi => o2 i (by have : i = A.next := g4 i hi; omega)
  case mm => rw [o2 mi2 (by omega)]; exact g1.hm
  case ii =>
    intro i hi
    have : i = A.next := g4 i hi
    exact .inr (by omega)
  case run =>
    conv => lhs; whnf
    refine bind_of (cellsAt_of h1.hp _ _) ?_
    conv => lhs; whnf
    refine bind_of n1 ?_
    conv => lhs; whnf
    refine bind_of (cellsAt_of gp _ _) ?_
    conv => lhs; whnf
    refine bind_of (dstore_of hp1 (t := 109) (o := 0) (cs' := laneC (.slice sa2 0 sc2) mi2 (fun j => (cnt [] j : Nat)) ((live []).length : Nat)) rfl) ?_
    conv => lhs; whnf
    rw [tks_map]
    try rfl
end Go.Dn.Ln
end

section
/-
  layer 11 (lane): Count; List, Withdraw, Forget, Clear, Count by their contracts
-/
namespace Go.Dn.Ln
open Go.Proofs
set_option maxHeartbeats 4000000
set_option maxRecDepth 100000
attribute [local irreducible] Hp.get Hp.set Hp.push dappend dcopy dstore cellsAt callD loopD

theorem Lx.len {A : Hp} {p : Nat} {S : Nat → Prop} {ts : List Tk} {N : Nat} (h : Lx A p S ts N) : ts.length ≤ N := by
  obtain ⟨mi, io, lv, es, M, h1, rfl, h3, h4, h5, h6⟩ := h
  rw [tks_map]
  exact Nat.le_trans (live_le es) h6

/-- so many of a kind -/
def cntT (ts : List Tk) (k : Int) : Nat := if k < 1 ∨ 7 < k then 0 else ts.countP fun t => t.1 == k.toNat

theorem lane_count {call : CallT} (lf : Nat) {A : Hp} {p : Nat} {S : Nat → Prop} {ts : List Tk} {N : Nat} (h : Lx A p S ts N) (k : Int) :
    kfn Tryd.bk.E call (Tryd.bk.inf 41) lf Tryd.f41 [ptr p, .int .i64 k] A = some (.int .i64 (cntT ts k : Nat), A) := by
  obtain ⟨mi, io, lv, es, M, h1, rfl, _⟩ := h
  unfold cntT
  by_cases hk : k < 1 ∨ 7 < k
  · rw [if_pos hk]
    by_cases h2 : k < 1
    · conv => lhs; whnf
      rw [kdec h2]
      conv => lhs; whnf
      try rfl
    · have h3 : 7 < k := by omega
      conv => lhs; whnf
      rw [kdecn h2]
      conv => lhs; whnf
      rw [show decide (k > 7) = true from kdec h3]
      conv => lhs; whnf
      try rfl
  · rw [if_neg hk]
    obtain ⟨kn, rfl⟩ : ∃ kn : Nat, k = (kn : Nat) := ⟨k.toNat, by omega⟩
    have h2 : ¬ ((kn : Nat) : Int) < 1 := by omega
    have h3 : ¬ ((kn : Nat) : Int) > 7 := by omega
    have e3 : ((kn : Nat) : Int) < ((8 : Nat) : Int) := by omega
    have e0 : (0 : Int) ≤ ((kn : Nat) : Int) := by omega
    have hcn : cnt es kn = (tks es).countP fun t => t.1 == kn := by
      unfold cnt tks
      rw [List.countP_map]
      rfl
    rw [Int.toNat_natCast, ← hcn]
    conv => lhs; whnf
    rw [kdecn h2]
    conv => lhs; whnf
    rw [kdecn h3]
    conv => lhs; whnf
    rw [kdec e3]
    conv => lhs; whnf
    refine bind_of ((cellsAt_of h1.hp _ _).trans (cnt_at (by omega))) ?_
    conv => lhs; whnf
    try rfl

/-! ## what is known of the calls -/
theorem in_list (n m : Nat) (hn : m ≤ 100000000) (hm : m ≤ n) : ListOK (callD Tryd.bk noCalls (n + 2)) m := fun {_} hw {_ _ _ N} h hN => by
  obtain ⟨V, io, A', r1, r2⟩ := lane_list (call := callD Tryd.bk noCalls (n + 1)) (n + 1) hw h (by omega) (by omega)
  exact ⟨V, io, A', callD_of (noneL _ _ _) (fn := Tryd.f20) rfl r1, r2⟩
theorem in_wd (n m : Nat) (hn : m ≤ 100000000) (hm : m ≤ n) : WdOK (callD Tryd.bk noCalls (n + 4)) m := fun {_} hw {_ _ _ N} h k s hN => by
  obtain ⟨call0, hd⟩ := (in_ok (n + 1)).drop
  obtain ⟨A', S', r1, r2⟩ := lane_withdraw hd (n + 3) hw h k s (by omega) (by omega) (by omega)
  exact ⟨A', S', callD_of (noneL _ _ _) (fn := Tryd.f22) rfl r1, r2⟩
theorem in_new (n : Nat) : NewOK (callD Tryd.bk noCalls (n + 2)) := fun {_} hw => by
  obtain ⟨A', r1, r2⟩ := lane_new (call := callD Tryd.bk noCalls (n + 1)) (n + 1) hw
  exact ⟨A', callD_of (noneL _ _ _) (fn := Tryd.f16) rfl r1, r2⟩

def listV (n : Nat) (ts : List Tk) : Value := match ts with
  | [] => .slice none 0 0
  | _ :: _ => .slice (some ⟨n, 0, some 3⟩) ts.length (2 * ts.length)
def listE (ts : List Tk) : List (TypeId × List Value) := match ts with
  | [] => []
  | _ :: _ => [(29, (ts.map tkc).flatten)]

inductive ListR : List Value → Hp → Value × Hp → Prop
  | mk (A : Hp) (i : Nat) (x : LX) (hi : A.get i = some (.abs 3 x.dat)) (hn : x.n ≤ 100000000) : ListR [ptr i] A (listV A.next x.ts, pushL .own (A.set i (some (.abs 3 x.dat))) (listE x.ts))
inductive WdR : List Value → Hp → Value × Hp → Prop
  | mk (A : Hp) (i : Nat) (x : LX) (hi : A.get i = some (.abs 3 x.dat)) (hn : x.n ≤ 100000000) (k s : Int) : WdR [ptr i, .int .i64 k, .int .u32 s] A (.bool (x.ts.any (wm k s)), A.set i (some (.abs 3 (LX.dat ⟨x.ts.eraseP (wm k s), x.n⟩))))
inductive FgR : List Value → Hp → Value × Hp → Prop
  | mk (A : Hp) (i : Nat) (x : LX) (hi : A.get i = some (.abs 3 x.dat)) (hn : x.n ≤ 100000000) (s : Int) : FgR [ptr i, .int .u32 s] A (.int .i64 (x.ts.countP (isS s) : Nat), A.set i (some (.abs 3 (LX.dat ⟨x.ts.filter (fun t => !isS s t), x.n⟩))))
inductive ClR : List Value → Hp → Value × Hp → Prop
  | mk (A : Hp) (i : Nat) (x : LX) (hi : A.get i = some (.abs 3 x.dat)) : ClR [ptr i] A (.int .i64 (x.ts.length : Nat), A.set i (some (.abs 3 (LX.dat ⟨[], x.n⟩))))
inductive CntR : List Value → Hp → Value × Hp → Prop
  | mk (A : Hp) (i : Nat) (x : LX) (hi : A.get i = some (.abs 3 x.dat)) (k : Int) : CntR [ptr i, .int .i64 k] A (.int .i64 (cntT x.ts k : Nat), A.set i (some (.abs 3 x.dat)))

theorem ListR.one {A : Hp} {args : List Value} {r r' : Value × Hp} (h : ListR args A r) (h' : ListR args A r') : r' = r := by
  cases h with | mk _ i x hi => cases h' with | mk _ _ y hj => rw [same_lx hj hi]
theorem WdR.one {A : Hp} {args : List Value} {r r' : Value × Hp} (h : WdR args A r) (h' : WdR args A r') : r' = r := by
  cases h with | mk _ i x hi => cases h' with | mk _ _ y hj => rw [same_lx hj hi]
theorem FgR.one {A : Hp} {args : List Value} {r r' : Value × Hp} (h : FgR args A r) (h' : FgR args A r') : r' = r := by
  cases h with | mk _ i x hi => cases h' with | mk _ _ y hj => rw [same_lx hj hi]
theorem ClR.one {A : Hp} {args : List Value} {r r' : Value × Hp} (h : ClR args A r) (h' : ClR args A r') : r' = r := by
  cases h with | mk _ i x hi => cases h' with | mk _ _ y hj => rw [same_lx hj hi]
theorem CntR.one {A : Hp} {args : List Value} {r r' : Value × Hp} (h : CntR args A r) (h' : CntR args A r') : r' = r := by
  cases h with | mk _ i x hi => cases h' with | mk _ _ y hj => rw [same_lx hj hi]

theorem fnList : ∃ x, Tryd.prog.funcs[20]? = some x ∧ x.body.isSome = true ∧ (x.name == "runtime.NumGoroutine") = false := ⟨Tryd.f20, by kernel_rfl, by kernel_rfl, by kernel_rfl⟩
theorem fnWd : ∃ x, Tryd.prog.funcs[22]? = some x ∧ x.body.isSome = true ∧ (x.name == "runtime.NumGoroutine") = false := ⟨Tryd.f22, by kernel_rfl, by kernel_rfl, by kernel_rfl⟩
theorem fnFg : ∃ x, Tryd.prog.funcs[23]? = some x ∧ x.body.isSome = true ∧ (x.name == "runtime.NumGoroutine") = false := ⟨Tryd.f23, by kernel_rfl, by kernel_rfl, by kernel_rfl⟩
theorem fnCl : ∃ x, Tryd.prog.funcs[24]? = some x ∧ x.body.isSome = true ∧ (x.name == "runtime.NumGoroutine") = false := ⟨Tryd.f24, by kernel_rfl, by kernel_rfl, by kernel_rfl⟩
theorem fnCnt : ∃ x, Tryd.prog.funcs[41]? = some x ∧ x.body.isSome = true ∧ (x.name == "runtime.NumGoroutine") = false := ⟨Tryd.f41, by kernel_rfl, by kernel_rfl, by kernel_rfl⟩

theorem tkc_plain {ts : List Tk} : ∀ u ∈ (ts.map tkc).flatten, plain0 u = true := by
  intro u hu
  obtain ⟨l, hl, hul⟩ := List.mem_flatten.1 hu
  obtain ⟨t, _, rfl⟩ := List.mem_map.1 hl
  simp only [tkc, List.mem_cons, List.not_mem_nil, or_false] at hul
  rcases hul with rfl | rfl | rfl <;> rfl

theorem can_zero {e sz : Nat} {A : Hp} {v : Value} {io : Option Nat} {us : List Value} {n : Nat} (h : CanAt e sz A v io us n) (hn : n = 0) : v = .slice none 0 0 ∧ io = none := by
  cases h with
  | nil => exact ⟨rfl, rfl⟩
  | «at» _ _ _ _ _ hp => exact absurd hn hp
theorem can_some {e sz : Nat} {A : Hp} {v : Value} {io : Option Nat} {us : List Value} {n : Nat} (h : CanAt e sz A v io us n) (hn : n ≠ 0) : ∃ i, io = some i := by
  cases h with
  | nil => exact absurd rfl hn
  | «at» i _ _ _ _ _ => exact ⟨i, rfl⟩

theorem list_call [Reps] (hR : ∀ k d B r, Reps.rep k d B r ↔ repL k d B r) {g : Gh} {A : Hp} {w : World} (hA : RelX Tryd.prog g A w) {i : Nat} {x : LX} (hi : A.get i = some (.abs 3 x.dat)) (hn : x.n ≤ 100000000)
    {args' : Array Value} (ha : AR g.ρ [ptr i].toArray args') :
    Calls Tryd.prog 20 args' w fun e w' => ∃ v', e = .returned v' ∧ After Tryd.prog g A w (listV A.next x.ts) (pushL .own (A.set i (some (.abs 3 x.dat))) (listE x.ts)) v' w' := by
  have hC := callD_ok Tryd.good (noCalls_ok _) (x.n + 2)
  refine call_method hC hA hi (k' := 3) (im := []) (ims := []) rfl (by simp) (listE x.ts) ?_ ha (fun r _ => [ptr r]) (fun r _ => .cons (.ptr 0 (.inl ⟨rfl, rfl⟩)) .nil) (listV A.next x.ts) ?_
  · intro e he u hu
    cases ho : x.ts with
    | nil => rw [ho] at he; simp [listE] at he
    | cons a l =>
      rw [ho] at he
      simp only [listE, List.mem_singleton] at he
      subst he
      exact tkc_plain u hu
  · intro B r hCB hw hCn hrep
    obtain ⟨_, _, y, e1, S, hLx⟩ := (hR _ _ _ _).1 hrep
    obtain rfl := LX.dat_inj e1
    obtain ⟨S0, hLx0, hS1, hS0⟩ := hLx.apart hCB
    obtain ⟨V, io, A', q1, q2, q3, q4⟩ := in_list x.n x.n hn (Nat.le_refl _) hw hLx0 (Nat.le_refl _)
    have hCA : ∀ i o, Reps.C.get i = some o → A'.get i = some o := fun j o hj => by
      have := (Reps.Cro j o hj).1
      rw [q2.old j (by omega)]
      exact hCB j o hj
    obtain ⟨B2, c1, c2, c3, ⟨S2, c4⟩, c5, c6, c7, c8⟩ := (hLx0.kp hw q2).close q2.wf hCA
    obtain ⟨rc, hrc⟩ := hLx0.root
    have hrl := hw.lt hrc
    have hold : ∀ j, B.next ≤ j → B2.get j = none := fun j hj => c8 j (by omega) (by omega) (fun e => by
      obtain ⟨o, ho, _⟩ := hS1 j e
      have := hw.lt ho
      omega)
    have hrep2 : Reps.rep 3 x.dat B2 r := (hR _ _ _ _).2 ⟨rfl, c5, x, rfl, S2, c4⟩
    cases ho : x.ts with
    | nil =>
      rw [ho] at q3
      obtain ⟨hv, _⟩ := can_zero q3 rfl
      subst hv
      exact ⟨_, A', B2, [], q1, c1, by omega, c3, hrep2, c6, c7, rfl, .nil, by simp [listE], .plain rfl⟩
    | cons a l =>
      rw [ho] at q3
      obtain ⟨iv, rfl⟩ := can_some q3 (by simp)
      have hiv := q4 iv rfl
      obtain ⟨rfl, hg, _⟩ := q3.some_form
      refine ⟨_, A', B2, [iv], q1, c1, by omega, c3, hrep2, c6, c7, rfl, by simp, ?_, ?_⟩
      · intro t e j h1 h2
        match t, h1, h2 with
        | 0, h1, h2 =>
          simp only [listE, List.getElem?_cons_zero, Option.some.injEq] at h1 h2
          subst h1 h2
          exact ⟨hg, hold iv hiv⟩
      · exact .slice 0 3 _ _ (.inr (.inr ⟨0, rfl, rfl⟩))

noncomputable def TM (base : CallT) : CallT := withCall (withCall (withCall (withCall (withCall (TL base) 20 (byRel ListR)) 22 (byRel WdR)) 23 (byRel FgR)) 24 (byRel ClR)) 41 (byRel CntR)

theorem TM_ok [Reps] (hR : ∀ k d B r, Reps.rep k d B r ↔ repL k d B r) (hCC : LC Reps.C) {base : CallT} (hB : CallOK Tryd.prog base) (hCw : Reps.C.wf) (hCn : Reps.C.next = 88) : CallOK Tryd.prog (TM base) := by
  refine withCall_ok (withCall_ok (withCall_ok (withCall_ok (withCall_ok (TL_ok hR hCC hB hCw hCn) fnList ?_) fnWd ?_) fnFg ?_) fnCl ?_) fnCnt ?_
  · intro args A v A' h ρ w args' hr ha
    have h := byRel_some h
    cases h with
    | mk _ i x hi hn => exact list_call hR hr hi hn ha
  · intro args A v A' h ρ w args' hr ha
    have h := byRel_some h
    cases h with
    | mk _ i x hi hn k s =>
      refine meth_call hR (n := x.n + 4) hr hi (x' := ⟨x.ts.eraseP (wm k s), x.n⟩) (us := [.int .i64 k, .int .u32 s]) (fun r => .cons (.plain rfl) (.cons (.plain rfl) .nil)) ha (fun r => .plain rfl) (fun B r S hw hC hx => ?_) hCC
      obtain ⟨A', S', r1, r2, r3⟩ := in_wd x.n x.n hn (Nat.le_refl _) hw hx k s (Nat.le_refl _)
      exact ⟨A', S', r1, r2, r3⟩
  · intro args A v A' h ρ w args' hr ha
    have h := byRel_some h
    cases h with
    | mk _ i x hi hn s =>
      refine meth_call hR (n := x.n + 6) hr hi (x' := ⟨x.ts.filter (fun t => !isS s t), x.n⟩) (us := [.int .u32 s]) (fun r => .cons (.plain rfl) .nil) ha (fun r => .plain rfl) (fun B r S hw hC hx => ?_) hCC
      have h5 : ListOK (callD Tryd.bk noCalls (x.n + 5)) x.n := in_list (x.n + 3) x.n hn (by omega)
      have h6 : WdOK (callD Tryd.bk noCalls (x.n + 5)) x.n := in_wd (x.n + 1) x.n hn (by omega)
      obtain ⟨A', S', r1, r2, r3⟩ := lane_forget h5 h6 (x.n + 5) hw hx s (Nat.le_refl _) hn hx.len (by omega)
      exact ⟨A', S', callD_of (noneL _ _ _) (fn := Tryd.f23) rfl r1, r2, r3⟩
  · intro args A v A' h ρ w args' hr ha
    have h := byRel_some h
    cases h with
    | mk _ i x hi =>
      refine meth_call hR (n := 8) hr hi (x' := ⟨[], x.n⟩) (us := []) (fun r => .nil) ha (fun r => .plain rfl) (fun B r S hw hC hx => ?_) hCC
      obtain ⟨A', S', r1, r2, r3⟩ := lane_clear (in_new 5) 7 hw hx
      exact ⟨A', S', callD_of (noneL _ _ _) (fn := Tryd.f24) rfl r1, r2, r3⟩
  · intro args A v A' h ρ w args' hr ha
    have h := byRel_some h
    cases h with
    | mk _ i x hi k =>
      refine meth_call hR (n := 8) hr hi (x' := x) (us := [.int .i64 k]) (fun r => .cons (.plain rfl) .nil) ha (fun r => .plain rfl) (fun B r S hw hC hx => ?_) hCC
      exact ⟨B, S, callD_of (noneL _ _ _) (fn := Tryd.f41) rfl (lane_count 7 hx k), St.refl hw, hx⟩

/-- the lane's functions, called: all -/
structure LaneFns2 (call : CallT) : Prop extends LaneFns call where
  list : ∀ {args A r}, ListR args A r → call 20 args A = some r
  wd : ∀ {args A r}, WdR args A r → call 22 args A = some r
  fg : ∀ {args A r}, FgR args A r → call 23 args A = some r
  cl : ∀ {args A r}, ClR args A r → call 24 args A = some r
  cnt : ∀ {args A r}, CntR args A r → call 41 args A = some r
theorem TM_fns {base : CallT} (hw : ∀ A, base 15 [] A = some (.bool true, A)) (n : Nat) : LaneFns2 (callD Tryd.bk (TM base) n) := by
  refine ⟨⟨fun A => callD_base (show TM base 15 _ A = _ from hw A) _, fun h => callD_base ?_ _, fun h => callD_base ?_ _, fun h => callD_base ?_ _, fun h => callD_base ?_ _⟩, fun h => callD_base ?_ _, fun h => callD_base ?_ _, fun h => callD_base ?_ _, fun h => callD_base ?_ _, fun h => callD_base ?_ _⟩
  · exact byRel_of h fun r' h' => h.one h'
  · exact byRel_of h fun r' h' => h.one h'
  · exact byRel_of h fun r' h' => h.one h'
  · exact byRel_of h fun r' h' => h.one h'
  · exact byRel_of h fun r' h' => h.one h'
  · exact byRel_of h fun r' h' => h.one h'
  · exact byRel_of h fun r' h' => h.one h'
  · exact byRel_of h fun r' h' => h.one h'
  · exact byRel_of h fun r' h' => h.one h'
end Go.Dn.Ln
end
