/-
  Part of the abstract machine for this program.
-/
import Derived.Test.YtombnpednnngoaaDoorPD
import Derived.Test.YtombnpednnngoaaDoorPC

section
/-
  layer 11 (lane): drop
-/
namespace Go.Dn.Ln
open Go.Proofs
set_option maxHeartbeats 4000000
set_option maxRecDepth 100000
attribute [local irreducible] Hp.get Hp.set Hp.push dappend dcopy dstore cellsAt callD loopD dlookup dmapUpdate ddelete

theorem take_succ {α : Type} {us : List α} {i : Nat} {x : α} (h : us[i]? = some x) : us.take (i + 1) = us.take i ++ [x] := by
  rw [List.take_add_one, h]; rfl
theorem cells_sl {cs us : List Value} {o n : Nat} (hl : o + n ≤ cs.length) (hu : (cs.drop o).take n = us) {j : Nat} {x : Value} (hx : us[j]? = some x) : cellsIn cs (o + j * 1) 1 = some [x] := by
  have hj : j < us.length := (List.getElem?_eq_some_iff.1 hx).1
  have hlen : us.length = n := by rw [← hu]; simp; omega
  refine cellsIn_of (by omega) ?_
  have h2 : cs[o + j]? = some x := by
    rw [← hu, List.getElem?_take, if_pos (by omega), List.getElem?_drop] at hx
    exact hx
  rw [Nat.mul_one, List.drop_eq_getElem_cons (by omega)]
  have : cs[o + j] = x := by rw [List.getElem?_eq_getElem (by omega)] at h2; exact Option.some.inj h2
  rw [this]
  rfl

/-- the list as it is read: an element -/
theorem list_cell {A : Hp} {a : Option Addr} {m c : Nat} {io : Option Nat} {us : List Value} (h : SlAt 112 1 A (.slice a m c) io us m) {j : Nat} {x : Value} (hx : us[j]? = some x) :
    ∃ i o cs, a = some ⟨i, o, some 1⟩ ∧ io = some i ∧ A.get i = some (.arr 112 cs .own) ∧ cellsIn cs (o + j * 1) 1 = some [x] ∧ j < m := by
  generalize hv : (Value.slice a m c) = v at h
  cases h with
  | nil => simp at hx
  | «at» i o _ c' cs _ hc hg hl hu =>
    cases hv
    have hj : j < us.length := (List.getElem?_eq_some_iff.1 hx).1
    have hlen : us.length = m * 1 := by rw [← hu]; simp; omega
    exact ⟨i, o, cs, rfl, rfl, hg, cells_sl hl hu hx, by omega⟩

structure CI (A0 : Hp) (es : List En) (i : Nat) (V5 : Value) (A : Hp) : Prop where
  kp : Kp A0 A
  acc : ∃ io, CanAt 112 1 A V5 io ((live (es.take i)).map fun e => ptr e.id) (live (es.take i)).length ∧ ∀ j, io = some j → A0.next ≤ j

theorem drop_loop {call : CallT} (lf : Nat) {A0 : Hp} (hw : A0.wf) {io : Option Nat} {lv : Value} {es : List En} (hl : SlAt 112 1 A0 lv io (es.map fun e => ptr e.id) es.length) (he : ∀ e ∈ es, A0.get e.id = some (.arr 117 e.cells .own)) (hlen : es.length ≤ 100000000) (hlf : es.length < lf) (V0 : Value) :
    ∃ A1 V5 L, loopD (some [0, 5, 71, 72, 73]) (exec Tryd.bk.E call Tryd.f64.ntmps (Tryd.bk.inf 64) lf (loopOf Tryd.f64 0)) lf [(0, V0), (5, .slice none 0 0), (71, lv), (72, .int .i64 (es.length : Nat)), (73, .int .i64 ((0 : Nat) : Int))] A0 =
      some (.exit 0, [(0, V0), (5, V5), (71, lv), (72, .int .i64 (es.length : Nat)), (73, L)], A1) ∧ CI A0 es es.length V5 A1 := by
  obtain ⟨a, c, rfl⟩ := hl.sl3
  have key := loop_rule (ks := some [0, 5, 71, 72, 73]) (f := exec Tryd.bk.E call Tryd.f64.ntmps (Tryd.bk.inf 64) lf (loopOf Tryd.f64 0)) (S := Nat × Value)
    (fun s => [(0, V0), (5, s.2), (71, .slice a es.length c), (72, .int .i64 (es.length : Nat)), (73, .int .i64 (s.1 : Nat))])
    (fun s A => s.1 ≤ es.length ∧ CI A0 es s.1 s.2 A) (fun s => es.length - s.1)
    (fun e σ A1 => e = .exit 0 ∧ ∃ V5 L, σ = [(0, V0), (5, V5), (71, .slice a es.length c), (72, .int .i64 (es.length : Nat)), (73, L)] ∧ CI A0 es es.length V5 A1) (fun s A hs => ?_)
    lf (0, .slice none 0 0) A0 ⟨Nat.zero_le _, Kp.refl hw, none, .nil, by simp⟩ (by simp only; omega)
  · obtain ⟨e, σ1, A1, r1, rfl, V5, L, rfl, r2⟩ := key
    exact ⟨A1, V5, L, r1, r2⟩
  · obtain ⟨i, V5⟩ := s
    obtain ⟨z1, z2, io5, z3, z4⟩ := hs
    simp only at z1 z2 z3 z4 ⊢
    by_cases him : i < es.length
    · have hx : es[i]? = some es[i] := List.getElem?_eq_getElem him
      generalize es[i] = e at hx
      have hem := List.mem_of_getElem? hx
      have e1 : ((i : Nat) : Int) < ((es.length : Nat) : Int) := by omega
      have hw2 : IntKind.i64.wrap ((i : Int) + 1) = ((i + 1 : Nat) : Int) := by rw [w64 (by omega) (by omega)]; omega
      obtain ⟨il, ol, cs, rfl, rfl, hg, hc, _⟩ := list_cell hl (j := i) (x := ptr e.id) (by rw [List.getElem?_map, hx]; rfl)
      have hgA : A.get il = some (.arr 112 cs .own) := by rw [z2.old _ (hw.lt hg)]; exact hg
      have heA : A.get e.id = some (.arr 117 e.cells .own) := by rw [z2.old _ (hw.lt (he e hem))]; exact he e hem
      have htk := take_succ hx
      obtain ⟨id, ek, esx, ev, eg⟩ := e
      have hlv := live_le (es.take i)
      rw [List.length_take] at hlv
      cases eg with
      | true =>
        have hl2 : live (es.take (i + 1)) = live (es.take i) := by
          unfold live
          rw [htk, List.filter_append]; simp
        refine ⟨.normal, ?s1, A, kexec_run ?run1, .inl ⟨rfl, (i + 1, V5), ?kp1, ⟨him, z2, io5, by rw [hl2]; exact z3, z4⟩, by simp only; omega⟩⟩
        case run1 =>
          conv => lhs; whnf
          rw [kdec e1]
          conv => lhs; whnf
          rw [kdec e1]
          conv => lhs; whnf
          refine bind_of ((cellsAt_of hgA _ _).trans hc) ?_
          conv => lhs; whnf
          refine bind_of (cellsAt_of heA _ _) ?_
          conv => lhs; whnf
        case kp1 =>
          show [_, _, _, _, (73, Value.int .i64 (IntKind.i64.wrap ((i : Int) + 1)))] = _
          rw [hw2]
      | false =>
        have hl2 : live (es.take (i + 1)) = live (es.take i) ++ [⟨id, ek, esx, ev, false⟩] := by rw [htk]; exact live_snoc _ _ rfl
        obtain ⟨i5, c5, A1, a1, a2, a3, a4, a5, a6⟩ := app_ptr z2.wf z3.slAt (ptr id) (by omega)
        have hC1 : CI A0 es (i + 1) (.slice (some ⟨i5, 0, some 1⟩) ((live (es.take i)).length + 1) c5) A1 := by
          have hnx := z2.nx
          refine ⟨⟨a4, by omega, fun j hj => by rw [a6 j (by omega) (fun e => by have := z4 j e; omega), z2.old j hj]⟩, some i5, ?_, fun j hj => by cases hj; omega⟩
          rw [hl2, List.map_append, List.length_append]
          exact a2
        refine ⟨.normal, ?s2, A1, kexec_run ?run2, .inl ⟨rfl, (i + 1, _), ?kp2, ⟨him, hC1⟩, by simp only; omega⟩⟩
        case run2 =>
          conv => lhs; whnf
          rw [kdec e1]
          conv => lhs; whnf
          rw [kdec e1]
          conv => lhs; whnf
          refine bind_of ((cellsAt_of hgA _ _).trans hc) ?_
          conv => lhs; whnf
          refine bind_of (cellsAt_of heA _ _) ?_
          conv => lhs; whnf
          refine bind_of a1 ?_
          conv => lhs; whnf
        case kp2 =>
          show [_, _, _, _, (73, Value.int .i64 (IntKind.i64.wrap ((i : Int) + 1)))] = _
          rw [hw2]
    · obtain rfl : i = es.length := by omega
      have e1 : ¬ ((es.length : Nat) : Int) < ((es.length : Nat) : Int) := by omega
      refine ⟨.exit 0, ?s3, A, kexec_run ?run3, .inr ⟨by simp, rfl, V5, ?L3, ?kp3, z2, io5, z3, z4⟩⟩
      case run3 =>
        conv => lhs; whnf
        rw [kdecn e1]
      case kp3 => rfl

def M' (M : List (Nat × Int × Nat)) (k : Nat) (s : Int) : List (Nat × Int × Nat) := match findI k s M 0 with
  | some (j, _) => M.eraseIdx j
  | none => M
def die (i : Nat) (es : List En) : List En := es.map fun e => if e.id = i then { e with gone := true } else e
theorem die_ids (i : Nat) (es : List En) {β : Type} (f : Nat → β) : (die i es).map (fun e => f e.id) = es.map fun e => f e.id := by
  unfold die
  rw [List.map_map]
  congr 1
  funext e
  simp only [Function.comp_apply]
  split <;> rfl
theorem die_len (i : Nat) (es : List En) : (die i es).length = es.length := by unfold die; rw [List.length_map]

theorem ldrop {call : CallT} (lf : Nat) {A : Hp} (hw : A.wf) {p mi : Nat} {io : Option Nat} {lv : Value} {es : List En} {M : List (Nat × Int × Nat)} {f : Nat → Int} {n : Nat}
    (hp : A.get p = some (.arr 109 (laneC lv mi f ((n + 1 : Nat) : Int)) .own)) (hl : SlAt 112 1 A lv io (es.map fun e => ptr e.id) es.length) (hm : A.get mi = some (.map (M.map rowM) .own)) (he : ∀ e ∈ es, A.get e.id = some (.arr 117 e.cells .own))
    {e : En} (hge : A.get e.id = some (.arr 117 e.cells .own)) (hek : e.k < 8) (hes : ∀ x ∈ es, x.id = e.id → x = e) (hf : findI e.k e.s M 0 = none ∨ ∃ j, findI e.k e.s M 0 = some (j, e.id)) (hn : n ≤ 100000000) (hlen : es.length ≤ 100000000) (hlf : es.length < lf) :
    ∃ A' io' lv' es' r, kfn Tryd.bk.E call (Tryd.bk.inf 64) lf Tryd.f64 [ptr p, ptr e.id] A = some (r, A') ∧ A'.wf ∧ A.next ≤ A'.next ∧ (∀ j, j < A.next → j ≠ p → j ≠ mi → j ≠ e.id → A'.get j = A.get j) ∧
      A'.get p = some (.arr 109 (laneC lv' mi (fun j => if j = e.k then IntKind.i64.wrap (f e.k - 1) else f j) (n : Nat)) .own) ∧ SlAt 112 1 A' lv' io' (es'.map fun e => ptr e.id) es'.length ∧ A'.get mi = some (.map ((M' M e.k e.s).map rowM) .own) ∧
      A'.get e.id = some (.arr 117 [.int .i64 (e.k : Nat), .int .u32 e.s, .int .u32 e.v, .bool true] .own) ∧ ((es' = die e.id es ∧ io' = io) ∨ (es' = live (die e.id es) ∧ ∀ j, io' = some j → A.next ≤ j)) := by
  obtain ⟨id, k, s, v, eg⟩ := e
  simp only at hek hf hes hge ⊢
  obtain ⟨sa, sc, rfl⟩ := hl.sl3
  have hpi : p ≠ id := by rintro rfl; rw [hp] at hge; cases hge
  have hmi : mi ≠ id := by rintro rfl; rw [hm] at hge; cases hge
  have hpm : p ≠ mi := by rintro rfl; rw [hp] at hm; cases hm
  have hpl := hw.lt hp
  have hml := hw.lt hm
  have hil := hw.lt hge
  have e3 : ((k : Nat) : Int) < ((8 : Nat) : Int) := by omega
  let lv : Value := .slice sa es.length sc
  let D : List Value := [.int .i64 (k : Nat), .int .u32 s, .int .u32 v, .bool true]
  let A1 : Hp := A.set id (some (.arr 117 D .own))
  have g1 : A1.get id = some (.arr 117 D .own) := Hp.get_set_same _ _ _
  have p1 : A1.get p = some (.arr 109 (laneC lv mi f ((n + 1 : Nat) : Int)) .own) := by rw [show A1.get p = A.get p from Hp.get_set_ne _ _ hpi]; exact hp
  let f1 : Nat → Int := fun j => if j = k then IntKind.i64.wrap (f k - 1) else f j
  let A2 : Hp := A1.set p (some (.arr 109 (laneC lv mi f1 ((n + 1 : Nat) : Int)) .own))
  have p2 : A2.get p = some (.arr 109 (laneC lv mi f1 ((n + 1 : Nat) : Int)) .own) := Hp.get_set_same _ _ _
  have hwn : IntKind.i64.wrap (((n + 1 : Nat) : Int) - 1) = (n : Nat) := by rw [w64 (by omega) (by omega)]; omega
  let A3 : Hp := A2.set p (some (.arr 109 (laneC lv mi f1 (n : Nat)) .own))
  have p3 : A3.get p = some (.arr 109 (laneC lv mi f1 (n : Nat)) .own) := Hp.get_set_same _ _ _
  have g3 : A3.get id = some (.arr 117 D .own) := by rw [show A3.get id = A2.get id from Hp.get_set_ne _ _ hpi.symm, show A2.get id = A1.get id from Hp.get_set_ne _ _ hpi.symm]; exact g1
  have w3 : A3.wf := ((hw.put hge _).put p1 _).put p2 _
  have n3 : A3.next = A.next := by simp [A3, A2, A1]
  have o3 : ∀ j, j ≠ p → j ≠ id → A3.get j = A.get j := fun j h1 h2 => by
    rw [show A3.get j = A2.get j from Hp.get_set_ne _ _ h1, show A2.get j = A1.get j from Hp.get_set_ne _ _ h1]
    exact Hp.get_set_ne _ _ h2
  let K : List Value := [.int .i64 (k : Nat), .int .u32 s]
  let A4 : Hp := (A3.push (.arr 111 [.int .i64 0, .int .u32 0] .own)).set A3.next (some (.arr 111 K .own))
  have k34 : Kp A3 A4 := (Kp.push w3 _).set (Hp.get_push_same _ _) (Nat.le_refl _) _
  have q4 : A4.get A3.next = some (.arr 111 K .own) := Hp.get_set_same _ _ _
  have n4 : A4.next = A3.next + 1 := by simp [A4]
  have p4 : A4.get p = some (.arr 109 (laneC lv mi f1 (n : Nat)) .own) := by rw [k34.old _ (by omega)]; exact p3
  have m4 : A4.get mi = some (.map (M.map rowM) .own) := by rw [k34.old _ (by omega), o3 mi hpm.symm hmi]; exact hm
  have hlk := look_at m4 k s
  have g4 : A4.get id = some (.arr 117 D .own) := by rw [k34.old _ (by omega)]; exact g3
  obtain ⟨A5, x1, x2, x3, ⟨x4, x6⟩, x5⟩ : ∃ A5, (findI k s M 0 = none → A5 = A4) ∧ (∀ j i, findI k s M 0 = some (j, i) → ddelete Tryd.bk.E 105 A4 (.map (some mi)) (.agg #[.int .i64 (k : Nat), .int .u32 s]) = some A5) ∧ A5.wf ∧ (A5.next = A4.next ∧ ∀ j, j ≠ mi → A5.get j = A4.get j) ∧
      A5.get mi = some (.map ((M' M k s).map rowM) .own) := by
    cases hfi : findI k s M 0 with
    | none => exact ⟨A4, fun _ => rfl, by simp, k34.wf, ⟨rfl, fun _ _ => rfl⟩, by unfold M'; rw [hfi]; exact m4⟩
    | some r =>
      obtain ⟨j, i⟩ := r
      exact ⟨_, by simp, fun j' i' hji => by cases hji; exact mdel_at m4 hfi, k34.wf.put m4 _, ⟨Hp.next_set _ _ _, fun x hx => Hp.get_set_ne _ _ hx⟩, by unfold M'; rw [hfi]; exact Hp.get_set_same _ _ _⟩
  have p5 : A5.get p = some (.arr 109 (laneC lv mi f1 (n : Nat)) .own) := by rw [x6 p hpm]; exact p4
  have g5 : A5.get id = some (.arr 117 D .own) := by rw [x6 id hmi.symm, k34.old _ (by omega)]; exact g3
  have o5 : ∀ j, j < A.next → j ≠ p → j ≠ mi → j ≠ id → A5.get j = A.get j := fun j hj h1 h2 h3 => by rw [x6 j h2, k34.old j (by omega), o3 j h1 h3]
  have hio : ∀ i, io = some i → i < A.next ∧ i ≠ p ∧ i ≠ mi ∧ i ≠ id := fun i hi => by
    subst hi
    obtain ⟨cs, hcs⟩ := hl.lt
    refine ⟨hw.lt hcs, ?_, ?_, ?_⟩
    · rintro rfl; rw [hp] at hcs; cases hcs
    · rintro rfl; rw [hm] at hcs; cases hcs
    · rintro rfl; rw [hge] at hcs; cases hcs
  have l5 : SlAt 112 1 A5 lv io ((die id es).map fun e => ptr e.id) (die id es).length := by
    rw [die_ids id es ptr, die_len]
    exact hl.keep fun i hi => by obtain ⟨a, b, c, d⟩ := hio i hi; exact o5 i a b c d
  have he5 : ∀ x ∈ die id es, A5.get x.id = some (.arr 117 x.cells .own) := fun x hx => by
    unfold die at hx
    obtain ⟨y, hy, rfl⟩ := List.mem_map.1 hx
    by_cases hid : y.id = id
    · have := hes y hy hid
      subst this
      simp only [if_true]
      exact g5
    · rw [if_neg hid]
      have h1 := he y hy
      rw [o5 y.id (hw.lt h1) (by rintro e; rw [e, hp] at h1; cases h1) (by rintro e; rw [e, hm] at h1; cases h1) hid]
      exact h1
  have hdl := die_len id es
  have hwm : IntKind.i64.wrap (2 * ((n : Nat) : Int)) = 2 * (n : Nat) := w64 (by omega) (by omega)
  have hwa : IntKind.i64.wrap (2 * ((n : Nat) : Int) + 16) = 2 * (n : Nat) + 16 := w64 (by omega) (by omega)
  by_cases hbig : ((es.length : Nat) : Int) > 2 * ((n : Nat) : Int) + 16
  · obtain ⟨A6, V5, L, r1, r2, io5, r3, r4⟩ := drop_loop (call := call) lf x3 l5 he5 (by omega) (by omega) (ptr p)
    rw [List.take_of_length_le (Nat.le_refl _)] at r3
    rw [hdl] at r1
    obtain ⟨a5, c5, rfl⟩ := r3.sl3
    have p6 : A6.get p = some (.arr 109 (laneC lv mi f1 (n : Nat)) .own) := by rw [r2.old p (by omega)]; exact p5
    let nl : Value := .slice a5 (live (die id es)).length c5
    let A7 : Hp := A6.set p (some (.arr 109 (laneC nl mi f1 (n : Nat)) .own))
    have hnx := r2.nx
    refine ⟨A7, io5, nl, live (die id es), ?r1, ?run, r2.wf.put p6 _, by rw [Hp.next_set]; omega, ?fr, Hp.get_set_same _ _ _, ?sl, ?mm, ?ee, .inr ⟨rfl, fun j hj => by have := r4 j hj; omega⟩⟩
    case fr =>
      intro j hj h1 h2 h3
      rw [Hp.get_set_ne _ _ h1, r2.old j (by omega), o5 j hj h1 h2 h3]
    case sl => exact (r3.keep fun j hj => Hp.get_set_ne _ _ (by have := r4 j hj; omega)).slAt
    case mm => rw [Hp.get_set_ne _ _ hpm.symm, r2.old mi (by omega)]; exact x5
    case ee => rw [Hp.get_set_ne _ _ hpi.symm, r2.old id (by omega)]; exact g5
    case run =>
      conv => lhs; whnf
      refine bind_of (dstore_of hge (t := 4) (o := 3) (cs' := D) rfl) ?_
      conv => lhs; whnf
      refine bind_of (cellsAt_of g1 _ _) ?_
      conv => lhs; whnf
      rw [kdec e3]
      conv => lhs; whnf
      refine bind_of ((cellsAt_of p1 _ _).trans (cnt_at hek)) ?_
      conv => lhs; whnf
      rw [kdec e3]
      conv => lhs; whnf
      refine bind_of (dstore_of p1 (t := 3) (cs' := laneC lv mi f1 ((n + 1 : Nat) : Int)) (cnt_put hek)) ?_
      conv => lhs; whnf
      refine bind_of (cellsAt_of p2 _ _) ?_
      conv => lhs; whnf
      rw [hwn]
      refine bind_of (dstore_of p2 (t := 3) (o := 10) (cs' := laneC lv mi f1 (n : Nat)) rfl) ?_
      conv => lhs; whnf
      refine bind_of (cellsAt_of g3 _ _) ?_
      conv => lhs; whnf
      refine bind_of (cellsAt_of g3 _ _) ?_
      conv => lhs; whnf
      refine bind_of (dstore_of (Hp.get_push_same _ _) (t := 111) (o := 0) (cs' := K) rfl) ?_
      conv => lhs; whnf
      refine bind_of (cellsAt_of p4 _ _) ?_
      conv => lhs; whnf
      refine bind_of (cellsAt_of q4 _ _) ?_
      conv => lhs; whnf
      rcases hf with hf | ⟨j, hf⟩
      · obtain rfl := x1 hf
        rw [show lookV M k s = .pointer none by unfold lookV; rw [hf]; rfl] at hlk
        refine bind_of hlk ?_
        refine bif_of (one_all m4 rfl) ?_
        conv => lhs; whnf
        refine bind_of (cellsAt_of p5 _ _) ?_
        conv => lhs; whnf
        refine bind_of (cellsAt_of p5 _ _) ?_
        conv => lhs; whnf
        rw [hwm, hwa, kdec hbig]
        conv => lhs; whnf
        refine bind_of (cellsAt_of p5 _ _) ?_
        conv => lhs; whnf
        refine bind_of r1 ?_
        conv => lhs; whnf
        refine bind_of (dstore_of p6 (t := 106) (o := 0) (cs' := laneC nl mi f1 (n : Nat)) rfl) ?_
        conv => lhs; whnf
        try rfl
      · rw [show lookV M k s = ptr id by unfold lookV; rw [hf]; rfl] at hlk
        refine bind_of hlk ?_
        refine bif_of (one_all m4 rfl) ?_
        conv => lhs; whnf
        refine bind_of (drd_same rfl rfl rfl rfl rfl rfl (by decide)) ?_
        refine bif_of (two_all g4 rfl) ?_
        conv => lhs; whnf
        refine bind_of (cellsAt_of p4 _ _) ?_
        conv => lhs; whnf
        refine bind_of (cellsAt_of q4 _ _) ?_
        conv => lhs; whnf
        refine bind_of (dstep_del rfl ⟨_, rfl⟩ rfl (x2 j id hf)) ?_
        conv => lhs; whnf
        refine bind_of (cellsAt_of p5 _ _) ?_
        conv => lhs; whnf
        refine bind_of (cellsAt_of p5 _ _) ?_
        conv => lhs; whnf
        rw [hwm, hwa, kdec hbig]
        conv => lhs; whnf
        refine bind_of (cellsAt_of p5 _ _) ?_
        conv => lhs; whnf
        refine bind_of r1 ?_
        conv => lhs; whnf
        refine bind_of (dstore_of p6 (t := 106) (o := 0) (cs' := laneC nl mi f1 (n : Nat)) rfl) ?_
        conv => lhs; whnf
        try rfl
  · refine ⟨A5, io, lv, die id es, ?r2, ?run2, x3, by omega, o5, p5, l5, x5, g5, .inl ⟨rfl, rfl⟩⟩
    case run2 =>
      conv => lhs; whnf
      refine bind_of (dstore_of hge (t := 4) (o := 3) (cs' := D) rfl) ?_
      conv => lhs; whnf
      refine bind_of (cellsAt_of g1 _ _) ?_
      conv => lhs; whnf
      rw [kdec e3]
      conv => lhs; whnf
      refine bind_of ((cellsAt_of p1 _ _).trans (cnt_at hek)) ?_
      conv => lhs; whnf
      rw [kdec e3]
      conv => lhs; whnf
      refine bind_of (dstore_of p1 (t := 3) (cs' := laneC lv mi f1 ((n + 1 : Nat) : Int)) (cnt_put hek)) ?_
      conv => lhs; whnf
      refine bind_of (cellsAt_of p2 _ _) ?_
      conv => lhs; whnf
      rw [hwn]
      refine bind_of (dstore_of p2 (t := 3) (o := 10) (cs' := laneC lv mi f1 (n : Nat)) rfl) ?_
      conv => lhs; whnf
      refine bind_of (cellsAt_of g3 _ _) ?_
      conv => lhs; whnf
      refine bind_of (cellsAt_of g3 _ _) ?_
      conv => lhs; whnf
      refine bind_of (dstore_of (Hp.get_push_same _ _) (t := 111) (o := 0) (cs' := K) rfl) ?_
      conv => lhs; whnf
      refine bind_of (cellsAt_of p4 _ _) ?_
      conv => lhs; whnf
      refine bind_of (cellsAt_of q4 _ _) ?_
      conv => lhs; whnf
      rcases hf with hf | ⟨j, hf⟩
      · obtain rfl := x1 hf
        rw [show lookV M k s = .pointer none by unfold lookV; rw [hf]; rfl] at hlk
        refine bind_of hlk ?_
        refine bif_of (one_all m4 rfl) ?_
        conv => lhs; whnf
        refine bind_of (cellsAt_of p5 _ _) ?_
        conv => lhs; whnf
        refine bind_of (cellsAt_of p5 _ _) ?_
        conv => lhs; whnf
        rw [hwm, hwa, kdecn hbig]
        conv => lhs; whnf
        try rfl
      · rw [show lookV M k s = ptr id by unfold lookV; rw [hf]; rfl] at hlk
        refine bind_of hlk ?_
        refine bif_of (one_all m4 rfl) ?_
        conv => lhs; whnf
        refine bind_of (drd_same rfl rfl rfl rfl rfl rfl (by decide)) ?_
        refine bif_of (two_all g4 rfl) ?_
        conv => lhs; whnf
        refine bind_of (cellsAt_of p4 _ _) ?_
        conv => lhs; whnf
        refine bind_of (cellsAt_of q4 _ _) ?_
        conv => lhs; whnf
        refine bind_of (dstep_del rfl ⟨_, rfl⟩ rfl (x2 j id hf)) ?_
        conv => lhs; whnf
        refine bind_of (cellsAt_of p5 _ _) ?_
        conv => lhs; whnf
        refine bind_of (cellsAt_of p5 _ _) ?_
        conv => lhs; whnf
        rw [hwm, hwa, kdecn hbig]
        conv => lhs; whnf
        try rfl
end Go.Dn.Ln
end

section
/-
  layer 11 (lane): what a lane holds, without its places; a ticket taken out
-/
namespace Go.Dn.Ln
open Go.Proofs
set_option maxHeartbeats 4000000
set_option maxRecDepth 100000
attribute [local irreducible] Hp.get Hp.set Hp.push dappend dcopy dstore cellsAt callD loopD dlookup dmapUpdate ddelete

/-- a ticket: kind, stream, value -/
abbrev Tk := Nat × Int × Int
def En.tk (e : En) : Tk := (e.k, e.s, e.v)
def tks (es : List En) : List Tk := (live es).map En.tk

/-- a lane in memory that holds these tickets; S: all else that it owns -/
def Lx (A : Hp) (p : Nat) (S : Nat → Prop) (ts : List Tk) (N : Nat) : Prop :=
  ∃ mi io lv es M, IsLane A p mi io lv es M ∧ tks es = ts ∧ S mi ∧ (∀ i, io = some i → S i) ∧ (∀ e ∈ es, S e.id) ∧ es.length ≤ N

/-- what a step on it leaves -/
structure St (A A' : Hp) (p : Nat) (S S' : Nat → Prop) : Prop where
  wf : A'.wf
  nx : A.next ≤ A'.next
  old : ∀ j, j < A.next → j ≠ p → ¬ S j → A'.get j = A.get j
  own : ∀ j, S' j → S j ∨ A.next ≤ j
theorem St.refl {A : Hp} (hw : A.wf) {p : Nat} {S : Nat → Prop} : St A A p S S := ⟨hw, Nat.le_refl _, fun _ _ _ _ => rfl, fun _ h => .inl h⟩
theorem St.trans {A B C : Hp} {p : Nat} {S T U : Nat → Prop} (h : St A B p S T) (k : St B C p T U) : St A C p S U :=
  ⟨k.wf, Nat.le_trans h.nx k.nx, fun j hj h1 h2 => by rw [k.old j (Nat.lt_of_lt_of_le hj h.nx) h1 (fun ht => by rcases h.own j ht with e | e; exact h2 e; omega), h.old j hj h1 h2],
    fun j hj => by rcases k.own j hj with e | e; exact h.own j e; exact .inr (Nat.le_trans h.nx e)⟩
theorem Kp.st {A B : Hp} (h : Kp A B) {p : Nat} {S : Nat → Prop} : St A B p S S := ⟨h.wf, h.nx, fun j hj _ _ => h.old j hj, fun _ h => .inl h⟩
theorem Lx.keep {A A' : Hp} {p : Nat} {S : Nat → Prop} {ts : List Tk} {N : Nat} (h : Lx A p S ts N) (hk : ∀ j o, A.get j = some o → (j = p ∨ S j) → A'.get j = A.get j) : Lx A' p S ts N := by
  obtain ⟨mi, io, lv, es, M, h1, h2, h3, h4, h5, h6⟩ := h
  exact ⟨mi, io, lv, es, M, h1.keep fun j o hj hc => hk j o hj (by
    rcases hc with e | e | e | ⟨e, he, e'⟩
    · exact .inl e
    · subst e; exact .inr h3
    · exact .inr (h4 j e)
    · subst e'; exact .inr (h5 e he)), h2, h3, h4, h5, h6⟩
theorem Lx.kp {A A' : Hp} {p : Nat} {S : Nat → Prop} {ts : List Tk} {N : Nat} (h : Lx A p S ts N) (hw : A.wf) (hk : Kp A A') : Lx A' p S ts N := h.keep fun j _ hj _ => hk.old j (hw.lt hj)

/-! ## a ticket out -/
theorem mem_live {es : List En} {e : En} : e ∈ live es ↔ e ∈ es ∧ e.gone = false := by
  unfold live
  rw [List.mem_filter]
  simp

theorem key_nodup {M : List (Nat × Int × Nat)} (h : (M.map fun x => (x.1, x.2.1)).Nodup) {x y : Nat × Int × Nat} (hx : x ∈ M) (hy : y ∈ M) (h1 : x.1 = y.1) (h2 : x.2.1 = y.2.1) : x = y := by
  obtain ⟨i, hi⟩ := List.getElem?_of_mem hx
  obtain ⟨j, hj⟩ := List.getElem?_of_mem hy
  have e1 : (M.map fun x => (x.1, x.2.1))[i]? = some (y.1, y.2.1) := by rw [List.getElem?_map, hi]; simp [h1, h2]
  have e2 : (M.map fun x => (x.1, x.2.1))[j]? = some (y.1, y.2.1) := by rw [List.getElem?_map, hj]; rfl
  have hij := (List.getElem?_inj (by rw [List.length_map]; exact (List.getElem?_eq_some_iff.1 hi).1) h).1 (e1.trans e2.symm)
  subst hij
  rw [hi] at hj
  exact Option.some.inj hj
theorem id_uniq {es : List En} (h : (es.map (·.id)).Nodup) {x y : En} (hx : x ∈ es) (hy : y ∈ es) (h1 : x.id = y.id) : x = y := by
  obtain ⟨i, hi⟩ := List.getElem?_of_mem hx
  obtain ⟨j, hj⟩ := List.getElem?_of_mem hy
  have e1 : (es.map (·.id))[i]? = some y.id := by rw [List.getElem?_map, hi]; simp [h1]
  have e2 : (es.map (·.id))[j]? = some y.id := by rw [List.getElem?_map, hj]; rfl
  have hij := (List.getElem?_inj (by rw [List.length_map]; exact (List.getElem?_eq_some_iff.1 hi).1) h).1 (e1.trans e2.symm)
  subst hij
  rw [hi] at hj
  exact Option.some.inj hj

theorem eraseIdx_key {M : List (Nat × Int × Nat)} (h : (M.map fun x => (x.1, x.2.1)).Nodup) : ∀ {j : Nat} {y : Nat × Int × Nat}, M[j]? = some y → ∀ x ∈ M.eraseIdx j, ¬ (x.1 = y.1 ∧ x.2.1 = y.2.1) := by
  induction M with
  | nil => intro j y hy; simp at hy
  | cons z M ih =>
    intro j y hy x hx
    simp only [List.map_cons, List.nodup_cons] at h
    cases j with
    | zero =>
      simp at hy
      subst hy
      simp only [List.eraseIdx_cons_zero] at hx
      rintro ⟨h1, h2⟩
      exact h.1 (List.mem_map.2 ⟨x, hx, by rw [h1, h2]⟩)
    | succ j =>
      simp only [List.eraseIdx_cons_succ, List.mem_cons] at hx
      simp only [List.getElem?_cons_succ] at hy
      rcases hx with rfl | hx
      · rintro ⟨h1, h2⟩
        exact h.1 (List.mem_map.2 ⟨y, List.mem_of_getElem? hy, by rw [h1, h2]⟩)
      · exact ih h.2 hy x hx

theorem mem_erase_ne {M : List (Nat × Int × Nat)} {x y : Nat × Int × Nat} {j : Nat} (hx : x ∈ M) (hy : M[j]? = some y) (hne : x ≠ y) : x ∈ M.eraseIdx j := by
  induction M generalizing j with
  | nil => cases hx
  | cons z M ih =>
    cases j with
    | zero =>
      simp at hy
      subst hy
      rw [List.eraseIdx_cons_zero]
      rcases List.mem_cons.1 hx with e | e
      · exact absurd e hne
      · exact e
    | succ j =>
      simp only [List.getElem?_cons_succ] at hy
      rw [List.eraseIdx_cons_succ]
      rcases List.mem_cons.1 hx with e | e
      · exact List.mem_cons.2 (.inl e)
      · exact List.mem_cons_of_mem _ (ih e hy)

/-- the look for a ticket that waits finds it, if its kind is one of those -/
theorem find_live {M : List (Nat × Int × Nat)} {al : List En} (h : MapOK M al) {e : En} (he : e ∈ al) (hg : e.gone = false) : findI e.k e.s M 0 = none ∧ kyd e.k = false ∨ (kyd e.k = true ∧ ∃ j, findI e.k e.s M 0 = some (j, e.id)) := by
  cases hk : kyd e.k with
  | true =>
    right
    have hm := h.of e he hg hk
    cases hf : findI e.k e.s M 0 with
    | none => exact absurd ⟨rfl, rfl⟩ (findI_none.1 hf _ hm)
    | some r =>
      obtain ⟨j, i⟩ := r
      have h2 := List.mem_of_getElem? (findI_some hf)
      have := key_nodup h.nd h2 hm rfl rfl
      simp only [Prod.mk.injEq, true_and] at this
      subst this
      exact ⟨rfl, j, rfl⟩
  | false =>
    left
    refine ⟨findI_none.2 fun x hx hxe => ?_, rfl⟩
    obtain ⟨y, _, _, y2, _, _, y5⟩ := h.isin x hx
    rw [y2, hxe.1, hk] at y5; cases y5

/-- what stays of the map's entries -/
theorem map_out {M : List (Nat × Int × Nat)} {al R : List En} (h : MapOK M al) (hnd : (al.map (·.id)).Nodup) {e : En} (he : e ∈ al) (hg : e.gone = false) (h1 : ∀ x, x ∈ R → x.gone = false → x ∈ al ∧ x.id ≠ e.id) (h2 : ∀ x, x ∈ al → x.gone = false → x.id ≠ e.id → x ∈ R) : MapOK (M' M e.k e.s) R := by
  rcases find_live h he hg with ⟨hf, hk⟩ | ⟨hk, j, hf⟩
  · have hM : M' M e.k e.s = M := by unfold M'; rw [hf]
    rw [hM]
    refine ⟨fun x hx => ?_, fun x hx hxg hxk => h.of x (h1 x hx hxg).1 hxg hxk, h.nd⟩
    obtain ⟨y, y0, y1, y2, y3, y4, y5⟩ := h.isin x hx
    refine ⟨y, h2 y y0 y4 (fun hid => ?_), y1, y2, y3, y4, y5⟩
    have := id_uniq hnd y0 he hid
    subst this
    rw [hk] at y5; cases y5
  · have hM : M' M e.k e.s = M.eraseIdx j := by unfold M'; rw [hf]
    rw [hM]
    have hj := findI_some hf
    have hsub : ∀ x ∈ M.eraseIdx j, x ∈ M := fun x hx => List.mem_of_mem_eraseIdx hx
    refine ⟨fun x hx => ?_, fun x hx hxg hxk => ?_, ?_⟩
    · obtain ⟨y, y0, y1, y2, y3, y4, y5⟩ := h.isin x (hsub x hx)
      refine ⟨y, h2 y y0 y4 (fun hid => ?_), y1, y2, y3, y4, y5⟩
      have := id_uniq hnd y0 he hid
      subst this
      exact eraseIdx_key h.nd hj x hx ⟨y2.symm, y3.symm⟩
    · obtain ⟨q1, q2⟩ := h1 x hx hxg
      refine mem_erase_ne (h.of x q1 hxg hxk) hj fun e' => q2 ?_
      simp only [Prod.mk.injEq] at e'
      exact e'.2.2
    · exact List.Nodup.sublist ((List.eraseIdx_sublist M j).map _) h.nd

/-- drop, as a step of a lane: al: all that the numbers and the map speak of; es: the list -/
theorem drop_step {call : CallT} (lf : Nat) {A : Hp} (hw : A.wf) {p mi : Nat} {io : Option Nat} {lv : Value} {al es : List En} {M : List (Nat × Int × Nat)}
    (hp : A.get p = some (.arr 109 (laneC lv mi (fun j => (cnt al j : Nat)) ((live al).length : Nat)) .own)) (hl : SlAt 112 1 A lv io (es.map fun e => ptr e.id) es.length) (hm : A.get mi = some (.map (M.map rowM) .own)) (he : ∀ e ∈ al, A.get e.id = some (.arr 117 e.cells .own))
    (hnd : (al.map (·.id)).Nodup) (hmk : MapOK M al) (hok : ∀ e ∈ al, 1 ≤ e.k ∧ e.k ≤ 7 ∧ 0 ≤ e.v ∧ e.v ≤ 4294967295) {e : En} (hea : e ∈ al) (hg : e.gone = false) {L1 L2 : List En} (hal : live al = L1 ++ e :: L2)
    (hsub : ∀ x ∈ es, x ∈ al) (hes : live (die e.id es) = L1 ++ L2) (hndE : (es.map (·.id)).Nodup) (hlen : es.length ≤ 100000000) (hal2 : al.length ≤ 100000001) (hlf : es.length < lf) :
    ∃ A' io' lv' es' r, kfn Tryd.bk.E call (Tryd.bk.inf 64) lf Tryd.f64 [ptr p, ptr e.id] A = some (r, A') ∧ A'.wf ∧ A.next ≤ A'.next ∧ (∀ j, j < A.next → j ≠ p → j ≠ mi → j ≠ e.id → A'.get j = A.get j) ∧ IsLane A' p mi io' lv' es' (M' M e.k e.s) ∧ live es' = L1 ++ L2 ∧ (io' = io ∨ ∀ j, io' = some j → A.next ≤ j) ∧
      (∀ x ∈ es', ∃ y ∈ es, y.id = x.id) ∧ es'.length ≤ es.length ∧ A'.get e.id = some (.arr 117 [.int .i64 (e.k : Nat), .int .u32 e.s, .int .u32 e.v, .bool true] .own) := by
  have hnn : (live al).length = (L1 ++ L2).length + 1 := by rw [hal]; simp; omega
  rw [hnn] at hp
  obtain ⟨k1, k7, _, _⟩ := hok e hea
  have hLle : (live al).length ≤ al.length := live_le al
  obtain ⟨A', io', lv', es', r, a1, a2, a3, a4, a5, a6, a7, a8, a9⟩ := ldrop (call := call) lf hw hp hl hm (fun x hx => he x (hsub x hx)) (he e hea) (by omega) (fun x hx hid => id_uniq hnd (hsub x hx) hea hid)
    (by rcases find_live hmk hea hg with ⟨h, _⟩ | ⟨_, h⟩; exact .inl h; exact .inr h) (n := (L1 ++ L2).length) (by omega) hlen hlf
  have hpl : p ≠ mi := by rintro rfl; rw [hp] at hm; cases hm
  have hidp : ∀ x ∈ al, x.id < A.next ∧ x.id ≠ p ∧ x.id ≠ mi := fun x hx => by
    refine ⟨hw.lt (he x hx), fun e1 => ?_, fun e1 => ?_⟩
    · have h1 := he x hx
      rw [e1, hp] at h1; cases h1
    · have h1 := he x hx
      rw [e1, hm] at h1; cases h1
  have hlive : live es' = L1 ++ L2 := by
    rcases a9 with ⟨rfl, _⟩ | ⟨rfl, _⟩
    · exact hes
    · rw [← hes]
      unfold live
      rw [List.filter_filter]
      simp
  have hids : ∀ x ∈ es', ∃ y ∈ es, y.id = x.id ∧ x = if y.id = e.id then { y with gone := true } else y := by
    intro x hx
    have : x ∈ die e.id es := by
      rcases a9 with ⟨rfl, _⟩ | ⟨rfl, _⟩
      · exact hx
      · exact (mem_live.1 hx).1
    unfold die at this
    obtain ⟨y, hy, rfl⟩ := List.mem_map.1 this
    exact ⟨y, hy, by split <;> rfl, rfl⟩
  have hnd' : (es'.map (·.id)).Nodup := by
    have h1 : ((die e.id es).map (·.id)).Nodup := by
      rw [show (die e.id es).map (·.id) = es.map (·.id) from die_ids e.id es id]
      exact hndE
    rcases a9 with ⟨rfl, _⟩ | ⟨rfl, _⟩
    · exact h1
    · exact List.Nodup.sublist ((List.filter_sublist).map _) h1
  refine ⟨A', io', lv', es', r, a1, a2, a3, a4, ⟨?_, a6, a7, fun x hx => ?_, hnd', ?_, fun x hx => ?_⟩, hlive, ?_, fun x hx => ?_, ?_, a8⟩
  · rw [a5, hlive]
    congr 4
    funext j
    have hc1 : cnt al j = L1.countP (fun x => x.k == j) + (if e.k = j then 1 else 0) + L2.countP (fun x => x.k == j) := by
      unfold cnt
      rw [hal, List.countP_append, List.countP_cons]
      by_cases h : e.k = j <;> simp [h] <;> omega
    have hc2 : cnt es' j = L1.countP (fun x => x.k == j) + L2.countP (fun x => x.k == j) := by
      unfold cnt
      rw [hlive, List.countP_append]
    have hle := cnt_le al j
    by_cases hj : j = e.k
    · subst hj
      rw [if_pos rfl]
      rw [if_pos rfl] at hc1
      rw [w64 (by omega) (by omega)]
      omega
    · rw [if_neg hj]
      rw [if_neg (fun h => hj h.symm)] at hc1
      omega
  · obtain ⟨y, hy, hid, rfl⟩ := hids x hx
    by_cases h : y.id = e.id
    · have := id_uniq hnd (hsub y hy) hea h
      subst this
      rw [if_pos rfl]
      exact a8
    · rw [if_neg h]
      obtain ⟨b1, b2, b3⟩ := hidp y (hsub y hy)
      rw [a4 y.id b1 b2 b3 h]
      exact he y (hsub y hy)
  · refine map_out hmk hnd hea hg (fun x hx hxg => ?_) fun x hx hxg hxe => ?_
    · obtain ⟨y, hy, hid, e1⟩ := hids x hx
      by_cases h : y.id = e.id
      · rw [if_pos h] at e1
        rw [e1] at hxg
        cases hxg
      · rw [if_neg h] at e1
        subst e1
        exact ⟨hsub x hy, h⟩
    · have h1 : x ∈ live al := mem_live.2 ⟨hx, hxg⟩
      rw [hal] at h1
      have h2 : x ∈ L1 ++ L2 := by
        rcases List.mem_append.1 h1 with h | h
        · exact List.mem_append_left _ h
        · rcases List.mem_cons.1 h with h | h
          · exact absurd (by rw [h]) hxe
          · exact List.mem_append_right _ h
      rw [← hlive] at h2
      exact (mem_live.1 h2).1
  · obtain ⟨y, hy, hid, rfl⟩ := hids x hx
    have := hok y (hsub y hy)
    split <;> exact this
  · rcases a9 with ⟨_, h⟩ | ⟨_, h⟩
    · exact .inl h
    · exact .inr h
  · obtain ⟨y, hy, hid, _⟩ := hids x hx
    exact ⟨y, hy, hid⟩
  · rcases a9 with ⟨rfl, _⟩ | ⟨rfl, _⟩
    · rw [die_len]; exact Nat.le_refl _
    · exact Nat.le_trans (live_le _) (by rw [die_len]; exact Nat.le_refl _)
end Go.Dn.Ln
end

section
/-
  layer 3 (fifo): a queue of numbers
-/
namespace Go.Dn.Bl
open Go.Proofs Go.Dn.Ln
set_option maxHeartbeats 4000000
set_option maxRecDepth 100000

noncomputable def envB : Env := { T := Tryd.types.get, G := 44, it := itB }
noncomputable def bkB : Bk := ⟨envB, Tryd.funs, Tryd.infs⟩
theorem bkB_ok : (Tryd.funs.items 1 0).all (fun x => x.2.body.isSome && !(x.2.name == "runtime.NumGoroutine") && (x.2.body.map (okCode envB (bkB.inf x.1))).getD true) = true := by kernel_rfl
theorem goodB : bkB.Good Tryd.prog := Bk.good rfl Tryd.bk_types Tryd.bk_mix Tryd.bk_funs bkB_ok Tryd.bk_glob (itB_ok _ rfl)

attribute [local irreducible] Hp.get Hp.set Hp.push dappend dcopy dstore cellsAt callD loopD rangeD itB

/-- a row of a number -/
def rowz (x : Int) : List Value := [.int .u32 x, .int .i64 0]
theorem rowz_len (ids : List Int) : (ids.map rowz).flatten.length = ids.length * 2 := by
  induction ids with
  | nil => rfl
  | cons z zs ih => simp only [List.map_cons, List.flatten_cons, List.length_append, ih, List.length_cons, rowz]; simp; omega
theorem rowz_at : ∀ {ids : List Int} {k : Nat} {x : Int}, ids[k]? = some x → k * 2 + 2 ≤ (ids.map rowz).flatten.length ∧ ((ids.map rowz).flatten.drop (k * 2)).take 2 = rowz x
  | [], _, _, h => by simp at h
  | y :: ids, 0, x, h => by
    simp at h; subst h
    refine ⟨by rw [rowz_len]; simp only [List.length_cons]; omega, rfl⟩
  | y :: ids, k + 1, x, h => by
    have := rowz_at (ids := ids) (k := k) (by simpa using h)
    refine ⟨by have := this.1; rw [rowz_len] at *; simp; omega, ?_⟩
    have e : (k + 1) * 2 = k * 2 + 1 + 1 := by omega
    rw [e]
    exact this.2

theorem row_cell {A : Hp} {v : Value} {io : Option Nat} {ids : List Int} (h : SlAt 178 2 A v io (ids.map rowz).flatten ids.length) {k : Nat} {x : Int} (hx : ids[k]? = some x) :
    ∃ i o cs c, v = .slice (some ⟨i, o, some 2⟩) ids.length c ∧ io = some i ∧ A.get i = some (.arr 178 cs .own) ∧ cellsIn cs (o + k * 2) 2 = some (rowz x) ∧ cellsIn cs (o + k * 2) 1 = some [.int .u32 x] ∧ cellsIn cs (o + k * 2 + 1) 1 = some [.int .i64 0] ∧
      o + ids.length * 2 ≤ cs.length ∧ (cs.drop o).take (ids.length * 2) = (ids.map rowz).flatten ∧ (c = 2 * ids.length ∨ c = 2 * ids.length + 1) := by
  obtain ⟨q1, q2⟩ := rowz_at hx
  rw [rowz_len] at q1
  generalize hn : ids.length = n at h q1
  generalize hus : (ids.map rowz).flatten = us at h q2
  cases h with
  | nil => omega
  | «at» i o _ c cs _ hc hg hl hu =>
    refine ⟨i, o, cs, c, rfl, rfl, hg, ?_, ?_, ?_, by omega, hu, hc⟩
    · refine cellsIn_of (by omega) ?_
      rw [← q2, ← hu, List.drop_take, List.take_take, List.drop_drop, Nat.min_eq_left (by omega)]
    · refine cellsIn_of (by omega) ?_
      have : ((cs.drop (o + k * 2)).take 2).take 1 = [Value.int .u32 x] := by
        have e : (cs.drop (o + k * 2)).take 2 = rowz x := by rw [← q2, ← hu, List.drop_take, List.take_take, List.drop_drop, Nat.min_eq_left (by omega)]
        rw [e]; rfl
      rw [List.take_take] at this
      exact this
    · refine cellsIn_of (by omega) ?_
      have : ((cs.drop (o + k * 2)).take 2).drop 1 = [Value.int .i64 0] := by
        have e : (cs.drop (o + k * 2)).take 2 = rowz x := by rw [← q2, ← hu, List.drop_take, List.take_take, List.drop_drop, Nat.min_eq_left (by omega)]
        rw [e]; rfl
      rw [List.drop_take, List.drop_drop] at this
      exact this

/-- a queue of numbers without weight -/
structure IsF (A : Hp) (f : Nat) (io : Option Nat) (v : Value) (most : Int) (ids : List Int) : Prop where
  hf : A.get f = some (.arr 171 [.int .i64 most, .int .i64 0, v, .int .i64 0] .own)
  hs : SlAt 178 2 A v io (ids.map rowz).flatten ids.length

theorem IsF.ne {A : Hp} {f : Nat} {io : Option Nat} {v : Value} {most : Int} {ids : List Int} (h : IsF A f io v most ids) : io ≠ some f := by
  rintro rfl
  obtain ⟨cs, hcs⟩ := h.hs.lt
  rw [h.hf] at hcs
  cases hcs

theorem f_len {call : CallT} (lf : Nat) {A : Hp} {f : Nat} {io : Option Nat} {v : Value} {most : Int} {ids : List Int} (h : IsF A f io v most ids) :
    kfn bkB.E call (bkB.inf 76) lf Tryd.f76 [ptr f] A = some (.int .i64 (ids.length : Nat), A) := by
  obtain ⟨a, c, rfl⟩ := h.hs.sl3
  conv => lhs; whnf
  refine bind_of (cellsAt_of h.hf _ _) ?_
  conv => lhs; whnf
  try rfl
theorem f_len_nil {call : CallT} (lf : Nat) (A : Hp) : kfn bkB.E call (bkB.inf 76) lf Tryd.f76 [.pointer none] A = some (.int .i64 0, A) := by
  conv => lhs; whnf
  try rfl

/-- the inner calls -/
def LenOK (call : CallT) : Prop := ∀ {A : Hp} {f : Nat} {io : Option Nat} {v : Value} {most : Int} {ids : List Int}, IsF A f io v most ids → call 76 [ptr f] A = some (.int .i64 (ids.length : Nat), A)
def headV (ids : List Int) : Value := match ids with
  | [] => .tuple #[.int .u32 0, .int .i64 0, .bool false]
  | x :: _ => .tuple #[.int .u32 x, .int .i64 0, .bool true]
theorem f_head {call : CallT} (hl : LenOK call) (lf : Nat) {A : Hp} {f : Nat} {io : Option Nat} {v : Value} {most : Int} {ids : List Int} (h : IsF A f io v most ids) :
    kfn bkB.E call (bkB.inf 77) lf Tryd.f77 [ptr f] A = some (headV ids, A) := by
  cases ids with
  | nil =>
    conv => lhs; whnf
    refine bind_of (hl h) ?_
    conv => lhs; whnf
    try rfl
  | cons x ids =>
    have e1 : (0 : Int) < (((x :: ids).length : Nat) : Int) := by simp only [List.length_cons]; omega
    obtain ⟨i, o, cs, c, rfl, rfl, hg, h2, h3, h4, _⟩ := row_cell h.hs (k := 0) (x := x) rfl
    conv => lhs; whnf
    refine bind_of (hl h) ?_
    conv => lhs; whnf
    refine bind_of (cellsAt_of h.hf _ _) ?_
    conv => lhs; whnf
    rw [kdec e1]
    conv => lhs; whnf
    refine bind_of ((cellsAt_of hg _ _).trans h3) ?_
    conv => lhs; whnf
    refine bind_of (cellsAt_of h.hf _ _) ?_
    conv => lhs; whnf
    rw [kdec e1]
    conv => lhs; whnf
    refine bind_of ((cellsAt_of hg _ _).trans h4) ?_
    conv => lhs; whnf
    try rfl
end Go.Dn.Bl
end

section
/-
  layer 3 (fifo): Get, Put
-/
namespace Go.Dn.Bl
open Go.Proofs Go.Dn.Ln
set_option maxHeartbeats 4000000
set_option maxRecDepth 100000
attribute [local irreducible] Hp.get Hp.set Hp.push dappend dcopy dstore cellsAt callD loopD rangeD itB

def HeadOK (call : CallT) : Prop := ∀ {A : Hp} {f : Nat} {io : Option Nat} {v : Value} {most : Int} {ids : List Int}, IsF A f io v most ids → call 77 [ptr f] A = some (headV ids, A)

/-- older objects stay but the queue's own -/
structure Fk (A A' : Hp) (f : Nat) (io io' : Option Nat) : Prop where
  wf : A'.wf
  nx : A.next ≤ A'.next
  old : ∀ j, j < A.next → j ≠ f → io ≠ some j → A'.get j = A.get j
  new : ∀ j, io' = some j → io = some j ∨ A.next ≤ j
theorem Fk.refl {A : Hp} (hw : A.wf) {f : Nat} {io : Option Nat} : Fk A A f io io := ⟨hw, Nat.le_refl _, fun _ _ _ _ => rfl, fun _ h => .inl h⟩
theorem Fk.trans {A B C : Hp} {f : Nat} {a b c : Option Nat} (h : Fk A B f a b) (k : Fk B C f b c) : Fk A C f a c :=
  ⟨k.wf, Nat.le_trans h.nx k.nx, fun j hj h1 h2 => by rw [k.old j (Nat.lt_of_lt_of_le hj h.nx) h1 (fun hb => by rcases h.new j hb with e | e; exact h2 e; omega), h.old j hj h1 h2],
    fun j hj => by rcases k.new j hj with e | e; exact h.new j e; exact .inr (Nat.le_trans h.nx e)⟩
theorem IsF.keep {A A' : Hp} {f : Nat} {io : Option Nat} {v : Value} {most : Int} {ids : List Int} (h : IsF A f io v most ids) (hk : ∀ j, j = f ∨ io = some j → A'.get j = A.get j) : IsF A' f io v most ids :=
  ⟨by rw [hk f (.inl rfl)]; exact h.hf, h.hs.keep fun i hi => hk i (.inr hi)⟩
theorem IsF.lt {A : Hp} {f : Nat} {io : Option Nat} {v : Value} {most : Int} {ids : List Int} (h : IsF A f io v most ids) (hw : A.wf) : f < A.next ∧ ∀ j, io = some j → j < A.next :=
  ⟨hw.lt h.hf, fun j hj => by subst hj; obtain ⟨cs, hcs⟩ := h.hs.lt; exact hw.lt hcs⟩
theorem IsF.kp {A A' : Hp} {f : Nat} {io : Option Nat} {v : Value} {most : Int} {ids : List Int} (h : IsF A f io v most ids) (hw : A.wf) (hk : Kp A A') : IsF A' f io v most ids :=
  h.keep fun j hj => hk.old j (by rcases hj with rfl | hj; exact (h.lt hw).1; exact (h.lt hw).2 j hj)
theorem kp_fk {A B : Hp} (h : Kp A B) {f : Nat} {io : Option Nat} : Fk A B f io io := ⟨h.wf, h.nx, fun j hj _ _ => h.old j hj, fun _ h => .inl h⟩

theorem cells_zero (cs : List Value) (o : Nat) (h : o + 2 ≤ cs.length) : storeIn bkB.E 178 cs (o + 0 * 2) (.agg #[.int .u32 0, .int .i64 0]) = some (cellsPut cs o [.int .u32 0, .int .i64 0]) := by
  have : Nat.ble (o + 0 * 2 + 2) cs.length = true := by simp; omega
  show (bif true && true && Nat.ble (o + 0 * 2 + 2) cs.length then _ else none) = _
  rw [this]
  simp only [Nat.zero_mul, Nat.add_zero, Bool.and_self, cond_true]
  rfl

theorem f_get {call : CallT} (hh : HeadOK call) (lf : Nat) {A : Hp} (hw : A.wf) {f : Nat} {io : Option Nat} {v : Value} {most : Int} {ids : List Int} (h : IsF A f io v most ids) :
    ∃ A' v', kfn bkB.E call (bkB.inf 78) lf Tryd.f78 [ptr f] A = some (headV ids, A') ∧ IsF A' f io v' most ids.tail ∧ Fk A A' f io io := by
  cases ids with
  | nil =>
    refine ⟨A, v, ?run, h, .refl hw⟩
    case run =>
      conv => lhs; whnf
      refine bind_of (hh h) ?_
      conv => lhs; whnf
      try rfl
  | cons x ids =>
    have e1 : (0 : Int) < (((x :: ids).length : Nat) : Int) := by simp only [List.length_cons]; omega
    have e2 : (1 : Int) ≤ (((x :: ids).length : Nat) : Int) := by simp only [List.length_cons]; omega
    obtain ⟨i, o, cs, c, rfl, rfl, hg, h2, h3, h4, h5, h6, h7⟩ := row_cell h.hs (k := 0) (x := x) rfl
    have hl : (x :: ids).length = ids.length + 1 := rfl
    have hne : f ≠ i := fun e => h.ne (by rw [e])
    have hst := cells_zero cs o (by omega)
    let cs1 : List Value := cellsPut cs o [.int .u32 0, .int .i64 0]
    let A1 : Hp := A.set i (some (.arr 178 cs1 .own))
    have f1 : A1.get f = some (.arr 171 [.int .i64 most, .int .i64 0, .slice (some ⟨i, o, some 2⟩) (x :: ids).length c, .int .i64 0] .own) := by rw [Hp.get_set_ne _ _ hne]; exact h.hf
    let lv1 : Value := .slice (some ⟨i, o + 1 * 2, some 2⟩) ids.length (2 * (c / 2 - 1) + c % 2)
    let A2 : Hp := A1.set f (some (.arr 171 [.int .i64 most, .int .i64 0, lv1, .int .i64 0] .own))
    have f2 : A2.get f = some (.arr 171 [.int .i64 most, .int .i64 0, lv1, .int .i64 0] .own) := Hp.get_set_same _ _ _
    let A3 : Hp := A2.set f (some (.arr 171 [.int .i64 most, .int .i64 0, lv1, .int .i64 0] .own))
    refine ⟨A3, lv1, ?run, ?_, ?_⟩
    case run =>
      conv => lhs; whnf
      refine bind_of (hh h) ?_
      conv => lhs; whnf
      refine bind_of (cellsAt_of h.hf _ _) ?_
      conv => lhs; whnf
      rw [kdec e1]
      conv => lhs; whnf
      refine bind_of (dstore_of hg (t := 178) (o := o + 0 * 2) (cs' := cs1) hst) ?_
      conv => lhs; whnf
      refine bind_of (cellsAt_of f1 _ _) ?_
      conv => lhs; whnf
      rw [kdec e2]
      conv => lhs; whnf
      refine bind_of (dstore_of f1 (t := 169) (o := 2) (cs' := [.int .i64 most, .int .i64 0, lv1, .int .i64 0]) rfl) ?_
      conv => lhs; whnf
      refine bind_of (cellsAt_of f2 _ _) ?_
      conv => lhs; whnf
      refine bind_of (dstore_of f2 (t := 3) (o := 3) (cs' := [.int .i64 most, .int .i64 0, lv1, .int .i64 0]) rfl) ?_
      conv => lhs; whnf
      try rfl
    · have hcl : cs1.length = cs.length := cellsPut_length (by simp; omega)
      refine ⟨Hp.get_set_same _ _ _, .at i (o + 1 * 2) ids.length _ cs1 _ (by omega) ?_ (by omega) ?_⟩
      · rw [Hp.get_set_ne _ _ (Ne.symm hne), Hp.get_set_ne _ _ (Ne.symm hne), Hp.get_set_same]
      · have e3 : cs1.drop (o + 1 * 2) = cs.drop (o + 2) := cellsPut_drop (by simp; omega) (by simp)
        rw [e3]
        have e4 : (cs.drop (o + 2)).take (ids.length * 2) = ((cs.drop o).take ((x :: ids).length * 2)).drop 2 := by
          rw [List.drop_take, List.drop_drop, hl]
          congr 1
          omega
        rw [e4, h6]
        rfl
    · refine ⟨((hw.put hg _).put f1 _).put f2 _, by simp [A3, A2, A1], fun j hj h1 h2 => ?_, fun _ h => .inl h⟩
      rw [Hp.get_set_ne _ _ h1, Hp.get_set_ne _ _ h1, Hp.get_set_ne _ _ (fun e => h2 (by rw [e]))]

theorem elB : ElT bkB.E 169 178 2 16 := ⟨⟨_, rfl, rfl⟩, ⟨_, _, rfl, rfl, rfl, rfl, rfl⟩, by decide⟩
theorem elB2 : ∃ i e2, bkB.E.T 169 = some i ∧ i.d = .slice e2 := ⟨_, _, rfl, rfl⟩

theorem app_row {A : Hp} (hw : A.wf) {V : Value} {io : Option Nat} {ids : List Int} (hc : SlAt 178 2 A V io (ids.map rowz).flatten ids.length) (x : Int) (hn : ids.length ≤ 1000000) :
    ∃ V' A' i', dappend bkB.E 169 169 (A.push (.arr 178 (rowz x) .own)) V (.slice (some ⟨A.next, 0, some 2⟩) 1 3) = some (V', A') ∧ CanAt 178 2 A' V' (some i') ((ids ++ [x]).map rowz).flatten (ids ++ [x]).length ∧ A.next ≤ i' ∧ A.next ≤ A'.next ∧ A'.wf ∧ ∀ j, j < A.next → io ≠ some j → A'.get j = A.get j := by
  have hw1 : (A.push (.arr 178 (rowz x) .own)).wf := hw.push _
  have hx : elemsOf (A.push (.arr 178 (rowz x) .own)) 2 (.slice (some ⟨A.next, 0, some 2⟩) 1 3) = some (1, rowz x) :=
    (SlAt.at A.next 0 1 3 (rowz x) (rowz x) (.inr rfl) (Hp.get_push_same _ _) (by simp [rowz]) rfl).elems
  have hc1 : SlAt 178 2 (A.push (.arr 178 (rowz x) .own)) V io (ids.map rowz).flatten ids.length := hc.keep fun i hi => by
    subst hi
    obtain ⟨cs, hcs⟩ := hc.lt
    exact Hp.get_push_ne _ _ (by have := hw.lt hcs; omega)
  obtain ⟨V', A', i', r1, r2, r3, r4, r5, r6⟩ := append_sl (t := 169) (t2 := 169) elB elB2 hc1 hx rfl (by omega) (by omega) (by unfold maxLen; omega)
  rw [Hp.next_push] at r3 r4
  refine ⟨V', A', i', r1, ?_, by omega, by omega, r5 hw1, fun j hj hne => ?_⟩
  · have e : ((ids ++ [x]).map rowz).flatten = (ids.map rowz).flatten ++ rowz x := by simp
    rw [e, List.length_append, List.length_singleton]
    exact r2
  · rw [r6 j (by rw [Hp.next_push]; omega) hne, Hp.get_push_ne _ _ (by omega)]

def putF (most : Int) (ids : List Int) (x : Int) : Option Nat × List Int := if most ≤ (ids.length : Nat) then (some 13, ids) else (none, ids ++ [x])
def errO' (o : Option Nat) : Value := match o with
  | none => .nilIface
  | some g => errV g

theorem f_put {call : CallT} (lf : Nat) {A : Hp} (hw : A.wf) (h13 : A.get 13 = some (er 13)) {f : Nat} {io : Option Nat} {v : Value} {most : Int} {ids : List Int} (h : IsF A f io v most ids) (x : Int) (hn : ids.length ≤ 100000) :
    ∃ A' io' v', kfn bkB.E call (bkB.inf 73) lf Tryd.f73 [ptr f, .int .u32 x, .int .i64 0] A = some (errO' (putF most ids x).1, A') ∧ IsF A' f io' v' most (putF most ids x).2 ∧ Fk A A' f io io' := by
  unfold putF
  obtain ⟨a, c, hv⟩ := h.hs.sl3
  have hv0 := hv
  subst hv
  have hf := h.hf
  by_cases hm : most ≤ (ids.length : Nat)
  · rw [if_pos hm]
    refine ⟨A, io, _, ?run, h, .refl hw⟩
    case run =>
      have e1 : ((ids.length : Nat) : Int) ≥ most := hm
      conv => lhs; whnf
      refine bind_of (cellsAt_of hf _ _) ?_
      conv => lhs; whnf
      refine bind_of (cellsAt_of hf _ _) ?_
      conv => lhs; whnf
      rw [kdec e1]
      conv => lhs; whnf
      refine bind_of (cellsAt_of h13 _ _) ?_
      conv => lhs; whnf
      try rfl
  · rw [if_neg hm]
    have e1 : ¬ ((ids.length : Nat) : Int) ≥ most := hm
    obtain ⟨V', A2, i', a1, a2, a3, a4, a5, a6⟩ := app_row hw h.hs x (by omega)
    obtain ⟨b5, c5, rfl⟩ := a2.sl3
    let V5 : Value := .slice b5 (ids ++ [x]).length c5
    have hlt := h.lt hw
    have f2 : A2.get f = some (.arr 171 [.int .i64 most, .int .i64 0, .slice a ids.length c, .int .i64 0] .own) := by rw [a6 f hlt.1 h.ne]; exact hf
    let A3 : Hp := A2.set f (some (.arr 171 [.int .i64 most, .int .i64 0, V5, .int .i64 0] .own))
    have f3 : A3.get f = some (.arr 171 [.int .i64 most, .int .i64 0, V5, .int .i64 0] .own) := Hp.get_set_same _ _ _
    let A4 : Hp := A3.set f (some (.arr 171 [.int .i64 most, .int .i64 0, V5, .int .i64 0] .own))
    refine ⟨A4, some i', V5, ?run, ⟨Hp.get_set_same _ _ _, (a2.slAt.keep fun i hi => ?_)⟩, ((a5.put f2 _).put f3 _), by simp [A4, A3]; omega, fun j hj h1 h2 => ?_, fun j hj => by cases hj; exact .inr a3⟩
    case run =>
      conv => lhs; whnf
      refine bind_of (cellsAt_of hf _ _) ?_
      conv => lhs; whnf
      refine bind_of (cellsAt_of hf _ _) ?_
      conv => lhs; whnf
      rw [kdecn e1]
      conv => lhs; whnf
      refine bind_of (cellsAt_of hf _ _) ?_
      conv => lhs; whnf
      refine bind_of (cellsAt_of hf _ _) ?_
      conv => lhs; whnf
      refine bind_of (cellsAt_of hf _ _) ?_
      conv => lhs; whnf
      refine bind_of a1 ?_
      conv => lhs; whnf
      refine bind_of (dstore_of f2 (t := 169) (o := 2) (cs' := [.int .i64 most, .int .i64 0, V5, .int .i64 0]) rfl) ?_
      conv => lhs; whnf
      refine bind_of (cellsAt_of f3 _ _) ?_
      conv => lhs; whnf
      refine bind_of (dstore_of f3 (t := 3) (o := 3) (cs' := [.int .i64 most, .int .i64 0, V5, .int .i64 0]) rfl) ?_
      conv => lhs; whnf
      try rfl
    · cases hi
      have : i' ≠ f := by omega
      rw [Hp.get_set_ne _ _ this, Hp.get_set_ne _ _ this]
    · rw [Hp.get_set_ne _ _ h1, Hp.get_set_ne _ _ h1, a6 j hj h2]
end Go.Dn.Bl
end

section
/-
  layer 3 (fifo): All
-/
namespace Go.Dn.Bl
open Go.Proofs Go.Dn.Ln
set_option maxHeartbeats 4000000
set_option maxRecDepth 100000
section
attribute [local irreducible] Hp.get Hp.set Hp.push dappend dcopy dstore cellsAt callD loopD rangeD itB

def CloneOK (call : CallT) : Prop := ∀ {A : Hp}, A.wf → ∀ {io : Option Nat} {v : Value} {ids : List Int}, SlAt 178 2 A v io (ids.map rowz).flatten ids.length → ids.length ≤ 1000000 →
  ∃ v2 io2 A2, call 109 [v] A = some (v2, A2) ∧ SlAt 178 2 A2 v2 io2 (ids.map rowz).flatten ids.length ∧ Kp A A2 ∧ ∀ i, io2 = some i → A.next ≤ i

theorem clone_walk {call : CallT} (lf : Nat) {A : Hp} (hw : A.wf) {io : Option Nat} {v : Value} {ids : List Int} (h : SlAt 178 2 A v io (ids.map rowz).flatten ids.length) (hn : ids.length ≤ 1000000) :
    ∃ v2 io2 A2, kfn bkB.E call (bkB.inf 109) lf Tryd.f109 [v] A = some (v2, A2) ∧ SlAt 178 2 A2 v2 io2 (ids.map rowz).flatten ids.length ∧ Kp A A2 ∧ ∀ i, io2 = some i → A.next ≤ i := by
  have hel := h.elems
  generalize hus : (ids.map rowz).flatten = us at h hel
  generalize hnn : ids.length = n at h hel hn
  cases h with
  | nil =>
    refine ⟨.slice none 0 0, none, A, ?run, .nil, .refl hw, by simp⟩
    case run =>
      conv => lhs; whnf
      try rfl
  | «at» i o _ c cs _ hc hg hl hu =>
    let A1 : Hp := A.push (.arr 178 [] .own)
    have hw1 : A1.wf := hw.push _
    have h0 : SlAt 178 2 A1 (.slice (some ⟨A.next, 0, some 2⟩) 0 1) (some A.next) [] 0 := .at A.next 0 0 1 [] [] (.inr rfl) (Hp.get_push_same _ _) (by simp) rfl
    have hx : elemsOf A1 2 (.slice (some ⟨i, o, some 2⟩) n c) = some (n, us) := elemsOf_keep hel fun j ob hj _ => Hp.get_push_ne _ _ (by have := hw.lt hj; omega)
    have hul : us.length = n * 2 := by rw [← hu]; simp; omega
    obtain ⟨v2, A2, io2, r1, r2, r3, r4, r5, r6⟩ := append_at (t := 169) (t2 := 169) elB elB2 h0 hx hul (by omega) (by unfold maxLen; omega)
    have hn1 : A1.next = A.next + 1 := Hp.next_push _ _
    refine ⟨v2, io2, A2, ?run2, by simpa using r2, ⟨r4 hw1, by omega, fun j hj => ?_⟩, fun j hj => ?_⟩
    case run2 =>
      conv => lhs; whnf
      refine bind_of r1 ?_
      conv => lhs; whnf
      try rfl
    · rw [r5 j (by omega) (fun e => by cases e; omega)]
      exact Hp.get_push_ne _ _ (by omega)
    · rcases r6 with ⟨rfl, _⟩ | ⟨i', e1, e2, _⟩
      · cases hj; exact Nat.le_refl _
      · rw [e1] at hj; cases hj; omega

theorem f_all {call : CallT} (hcl : CloneOK call) (lf : Nat) {A : Hp} (hw : A.wf) {f : Nat} {io : Option Nat} {v : Value} {most : Int} {ids : List Int} (h : IsF A f io v most ids) (hn : ids.length ≤ 1000000) :
    ∃ A' io2 v2, kfn bkB.E call (bkB.inf 72) lf Tryd.f72 [ptr f] A = some (.func (.func 110) #[] #[ptr A.next], A') ∧ Kp A A' ∧ A'.get A.next = some (.arr 169 [v2] .own) ∧ SlAt 178 2 A' v2 io2 (ids.map rowz).flatten ids.length ∧ ∀ i, io2 = some i → A.next < i := by
  obtain ⟨a, c, rfl⟩ := h.hs.sl3
  let A1 : Hp := A.push (.arr 169 [.slice none 0 0] .own)
  have hw1 : A1.wf := hw.push _
  have k1 : Kp A A1 := Kp.push hw _
  have f1 := h.kp hw k1
  obtain ⟨v2, io2, A2, r1, r2, r3, r4⟩ := hcl hw1 f1.hs hn
  have hn1 : A1.next = A.next + 1 := Hp.next_push _ _
  have c2 : A2.get A.next = some (.arr 169 [.slice none 0 0] .own) := by rw [r3.old _ (by omega)]; exact Hp.get_push_same _ _
  obtain ⟨a2, c2', rfl⟩ := r2.sl3
  refine ⟨A2.set A.next (some (.arr 169 [.slice a2 ids.length c2'] .own)), io2, .slice a2 ids.length c2', ?run, (k1.trans r3).set c2 (Nat.le_refl _) _, Hp.get_set_same _ _ _, r2.keep fun i hi => Hp.get_set_ne _ _ (by have := r4 i hi; omega), fun i hi => by have := r4 i hi; omega⟩
  case run =>
    conv => lhs; whnf
    refine bind_of (cellsAt_of f1.hf _ _) ?_
    conv => lhs; whnf
    refine bind_of r1 ?_
    conv => lhs; whnf
    refine bind_of (dstore_of c2 (t := 169) (o := 0) (cs' := [.slice a2 ids.length c2']) rfl) ?_
    conv => lhs; whnf
    try rfl
end

theorem rowz_rows (ids : List Int) : rowsOf (ids.map rowz).flatten = some (ids.map fun x => (x, 0)) := by
  have := rowsOf_rows (ids.map fun x => (x, 0))
  rw [List.map_map] at this
  exact this

/-- what the iterator gives -/
theorem it_all {A : Hp} {c : Nat} {io : Option Nat} {v : Value} {ids : List Int} (hc : A.get c = some (.arr 169 [v] .own)) (hs : SlAt 178 2 A v io (ids.map rowz).flatten ids.length) (hn : ids.length ≤ 1000000) :
    ∃ l, itB 110 [ptr c] A = some (l, ids.map rowz) ∧ ∀ i ∈ l, i = c ∨ io = some i := by
  unfold itB ptr
  rw [Nat.beq_refl, cond_true]
  simp only [hc]
  have hel := hs.len
  have hz := rowz_rows ids
  have hm : (ids.map fun x => (x, (0 : Int))).map rowc = ids.map rowz := by rw [List.map_map]; rfl
  generalize hus : (ids.map rowz).flatten = us at hs hz
  generalize hnn : ids.length = n at hs hn
  cases hs with
  | nil =>
    have : ids = [] := List.length_eq_zero_iff.1 hnn
    subst this
    exact ⟨[c], rfl, by simp⟩
  | «at» i o _ cc cs _ hcc hg hl hu =>
    simp only
    by_cases h0 : n = 0
    · subst h0
      have : ids = [] := List.length_eq_zero_iff.1 hnn
      subst this
      exact ⟨[c], rfl, by simp⟩
    · have e1 : (Nat.ble n 1000000 && Nat.blt 0 n) = true := by
        simp only [Bool.and_eq_true, Nat.ble_eq, Nat.blt_eq]; omega
      rw [e1, cond_true, cellsAt_of hg, cellsIn_of hl hu]
      simp only [Option.bind_some, hz, hg, hm]
      exact ⟨[c, i], rfl, by simp⟩
end Go.Dn.Bl
end
