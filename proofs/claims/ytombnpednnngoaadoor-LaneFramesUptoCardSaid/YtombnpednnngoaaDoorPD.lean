/-
  Part of the abstract machine for this program.
-/
import Derived.Test.YtombnpednnngoaaDoorPC

section
/-
  layer 11 (lane): Put, a grant that is added, a ticket behind all others
-/
namespace Go.Dn.Ln
open Go.Proofs
set_option maxHeartbeats 4000000
set_option maxRecDepth 100000
attribute [local irreducible] Hp.get Hp.set Hp.push dappend dcopy dstore cellsAt callD loopD dlookup dmapUpdate ddelete

/-- more in one of the tickets -/
def addE (i : Nat) (d : Int) (es : List En) : List En := es.map fun e => if e.id = i then { e with v := e.v + d } else e
theorem addE_live (i : Nat) (d : Int) (es : List En) : live (addE i d es) = addE i d (live es) := by
  unfold live addE
  induction es with
  | nil => rfl
  | cons e es ih =>
    simp only [List.map_cons, List.filter_cons]
    by_cases h : e.id = i
    · simp only [h, if_true, ih]
      by_cases hg : e.gone <;> simp [hg, h]
    · simp only [h, if_false, ih]
      by_cases hg : e.gone <;> simp [hg, h]
theorem addE_cnt (i : Nat) (d : Int) (es : List En) (j : Nat) : cnt (addE i d es) j = cnt es j := by
  unfold cnt
  rw [addE_live]
  unfold addE
  rw [List.countP_map]
  congr 1
  funext e
  simp only [Function.comp_apply]
  split <;> rfl
theorem addE_ids (i : Nat) (d : Int) (es : List En) {β : Type} (f : Nat → β) : (addE i d es).map (fun e => f e.id) = es.map fun e => f e.id := by
  unfold addE
  rw [List.map_map]
  congr 1
  funext e
  simp only [Function.comp_apply]
  split <;> rfl

section
variable {call : CallT} (hck : CheckOK call) {A : Hp} (hw : A.wf) (hC : LC A) {p mi : Nat} {io : Option Nat} {lv : Value} {es : List En} {M : List (Nat × Int × Nat)} (h : IsLane A p mi io lv es M)
include hck hw hC h

theorem lput_grant (lf : Nat) {s v : Int} (hb : badT 3 s v = none) {j : Nat} {e : En} (he : e ∈ es) (heg : e.gone = false) (hek : e.k = 3) (hes : e.s = s) (hf : findI 3 s M 0 = some (j, e.id)) (hv0 : 0 ≤ v) :
    (v > 4294967295 - e.v → ∃ A', kfn Tryd.bk.E call (Tryd.bk.inf 17) lf Tryd.f17 [ptr p, .agg #[.int .i64 ((3 : Nat) : Int), .int .u32 s, .int .u32 v]] A = some (errV 3, A') ∧ Kp A A') ∧
    (¬ v > 4294967295 - e.v → ∃ A', kfn Tryd.bk.E call (Tryd.bk.inf 17) lf Tryd.f17 [ptr p, .agg #[.int .i64 ((3 : Nat) : Int), .int .u32 s, .int .u32 v]] A = some (.nilIface, A') ∧ LF A A' p mi io es ∧ IsLane A' p mi io lv (addE e.id v es) M) := by
  have q1 : (A.push (.arr 29 [.int .i64 ((3 : Nat) : Int), .int .u32 s, .int .u32 v] .own)).get A.next = some (.arr 29 [.int .i64 ((3 : Nat) : Int), .int .u32 s, .int .u32 v] .own) := Hp.get_push_same _ _
  obtain ⟨A2, c1, z2, k3, q3, g3, q2, n3, n2⟩ := lput_pre hck hw hC (k := 3) (by omega) (by omega) hb
  let A3 : Hp := (A2.push (.arr 111 [.int .i64 0, .int .u32 0] .own)).set A2.next (some (.arr 111 [.int .i64 ((3 : Nat) : Int), .int .u32 s] .own))
  have L3 : IsLane A3 p mi io lv es M := h.kp hw k3
  have C3 : LC A3 := LCkp hw hC k3
  have hlk := look_at L3.hm 3 s
  rw [show lookV M 3 s = ptr e.id by unfold lookV; rw [hf]; rfl] at hlk
  obtain ⟨_, _, o3, o4⟩ := h.ok e he
  have ge : A3.get e.id = some (.arr 117 [.int .i64 ((3 : Nat) : Int), .int .u32 s, .int .u32 e.v, .bool false] .own) := by
    rw [L3.he e he]
    unfold En.cells
    rw [hek, hes, heg]
  have hw1 : IntKind.u32.wrap (4294967295 - e.v) = 4294967295 - e.v := w32 (by omega) (by omega)
  refine ⟨fun hov => ⟨A3, ?run, k3⟩, fun hov => ?_⟩
  case run =>
    conv => lhs; whnf
    refine bind_of (cellsAt_of q1 _ _) ?_
    conv => lhs; whnf
    refine bind_of c1 ?_
    conv => lhs; whnf
    refine bind_of (cellsAt_of q2 _ _) ?_
    conv => lhs; whnf
    refine bind_of (cellsAt_of q2 _ _) ?_
    conv => lhs; whnf
    refine bind_of (dstore_of z2 (t := 111) (o := 0) (cs' := [.int .i64 ((3 : Nat) : Int), .int .u32 s]) rfl) ?_
    conv => lhs; whnf
    refine bind_of (cellsAt_of L3.hp _ _) ?_
    conv => lhs; whnf
    refine bind_of (cellsAt_of g3 _ _) ?_
    conv => lhs; whnf
    refine bind_of hlk ?_
    refine bif_of (one_all L3.hm rfl) ?_
    conv => lhs; whnf
    refine bind_of (cellsAt_of q3 _ _) ?_
    conv => lhs; whnf
    refine bind_of (cellsAt_of C3.forms _ _) ?_
    conv => lhs; whnf
    refine bind_of (cellsAt_of q3 _ _) ?_
    conv => lhs; whnf
    refine bind_of (cellsAt_of ge _ _) ?_
    conv => lhs; whnf
    rw [hw1, kdec hov]
    conv => lhs; whnf
    refine bind_of (cellsAt_of C3.eOver _ _) ?_
    conv => lhs; whnf
    rfl
  have hw2 : IntKind.u32.wrap (e.v + v) = e.v + v := w32 (by omega) (by omega)
  let A4 : Hp := A3.set e.id (some (.arr 117 [.int .i64 ((3 : Nat) : Int), .int .u32 s, .int .u32 (e.v + v), .bool false] .own))
  obtain ⟨pl1, pl2, pl3, pl4, pl5⟩ := L3.pl k3.wf
  obtain ⟨pe1, pe2, pe3⟩ := pl5 e he
  have hle := h.pl hw
  have keep : ∀ j, j ≠ e.id → A4.get j = A3.get j := fun j hj => Hp.get_set_ne _ _ hj
  have hmem : ∀ x ∈ addE e.id v es, ∃ y ∈ es, x = if y.id = e.id then { y with v := y.v + v } else y := fun x hx => by
    unfold addE at hx
    obtain ⟨y, hy, rfl⟩ := List.mem_map.1 hx
    exact ⟨y, hy, rfl⟩
  have uniq : ∀ y ∈ es, y.id = e.id → y = e := fun y hy hid => by
    have hnd := h.nd
    obtain ⟨a, ha⟩ := List.getElem?_of_mem hy
    obtain ⟨b, hb'⟩ := List.getElem?_of_mem he
    have h1 : (es.map (·.id))[a]? = some e.id := by rw [List.getElem?_map, ha]; simp [hid]
    have h2 : (es.map (·.id))[b]? = some e.id := by rw [List.getElem?_map, hb']; rfl
    have hab := (List.getElem?_inj (by rw [List.length_map]; exact (List.getElem?_eq_some_iff.1 ha).1) hnd).1 (h1.trans h2.symm)
    subst hab
    rw [ha] at hb'
    exact Option.some.inj hb'
  refine ⟨A4, ?run2, ⟨k3.wf.put ge _, by rw [Hp.next_set]; exact k3.nx, fun j hj _ _ _ hje => (keep j (fun e' => hje e he e'.symm)).trans (k3.old j hj)⟩, ⟨?hp, ?hl, ?hm, ?he, ?nd, ?mk, ?ok⟩⟩
  case hp =>
    rw [keep p pe2.symm, L3.hp]
    simp only [addE_cnt, addE_live]
    unfold addE
    rw [List.length_map]
  case hl =>
    have e1 : (addE e.id v es).map (fun e => ptr e.id) = es.map fun e => ptr e.id := addE_ids _ _ _ ptr
    have e2 : (addE e.id v es).length = es.length := by unfold addE; rw [List.length_map]
    rw [e1, e2]
    exact L3.hl.keep fun i hi => keep i ((pl4 i hi).2.2.2 e he).symm
  case hm => rw [keep mi pe3.symm]; exact L3.hm
  case he =>
    intro x hx
    obtain ⟨y, hy, rfl⟩ := hmem x hx
    by_cases hid : y.id = e.id
    · have := uniq y hy hid
      subst this
      simp only [if_true]
      show A4.get y.id = _
      rw [Hp.get_set_same]
      unfold En.cells
      simp only [hek, hes, heg]
    · rw [if_neg hid, keep _ hid]
      exact L3.he y hy
  case nd =>
    have e1 : (addE e.id v es).map (fun e => e.id) = es.map fun e => e.id := addE_ids _ _ _ id
    rw [e1]
    exact h.nd
  case mk =>
    refine ⟨fun x hx => ?_, fun x hx hg hk => ?_, h.mp.nd⟩
    · obtain ⟨y, hy, y1, y2, y3, y4, y5⟩ := h.mp.isin x hx
      refine ⟨if y.id = e.id then { y with v := y.v + v } else y, List.mem_map.2 ⟨y, hy, rfl⟩, ?_⟩
      split <;> exact ⟨y1, y2, y3, y4, y5⟩
    · obtain ⟨y, hy, rfl⟩ := hmem x hx
      have := h.mp.of y hy
      split at hg <;> split at hk <;> split <;> first | exact this hg hk | contradiction
  case ok =>
    intro x hx
    obtain ⟨y, hy, rfl⟩ := hmem x hx
    have := h.ok y hy
    split
    · rename_i hid
      have := uniq y hy hid
      subst this
      simp only
      omega
    · exact this
  case run2 =>
    conv => lhs; whnf
    refine bind_of (cellsAt_of q1 _ _) ?_
    conv => lhs; whnf
    refine bind_of c1 ?_
    conv => lhs; whnf
    refine bind_of (cellsAt_of q2 _ _) ?_
    conv => lhs; whnf
    refine bind_of (cellsAt_of q2 _ _) ?_
    conv => lhs; whnf
    refine bind_of (dstore_of z2 (t := 111) (o := 0) (cs' := [.int .i64 ((3 : Nat) : Int), .int .u32 s]) rfl) ?_
    conv => lhs; whnf
    refine bind_of (cellsAt_of L3.hp _ _) ?_
    conv => lhs; whnf
    refine bind_of (cellsAt_of g3 _ _) ?_
    conv => lhs; whnf
    refine bind_of hlk ?_
    refine bif_of (one_all L3.hm rfl) ?_
    conv => lhs; whnf
    refine bind_of (cellsAt_of q3 _ _) ?_
    conv => lhs; whnf
    refine bind_of (cellsAt_of C3.forms _ _) ?_
    conv => lhs; whnf
    refine bind_of (cellsAt_of q3 _ _) ?_
    conv => lhs; whnf
    refine bind_of (cellsAt_of ge _ _) ?_
    conv => lhs; whnf
    rw [hw1, kdecn hov]
    conv => lhs; whnf
    refine bind_of (cellsAt_of ge _ _) ?_
    conv => lhs; whnf
    refine bind_of (cellsAt_of q3 _ _) ?_
    conv => lhs; whnf
    rw [hw2]
    refine bind_of (dstore_of ge (t := 27) (o := 2) (cs' := [.int .i64 ((3 : Nat) : Int), .int .u32 s, .int .u32 (e.v + v), .bool false]) rfl) ?_
    conv => lhs; whnf
    rfl

theorem lput_new (lf : Nat) {k : Nat} (h1 : 1 ≤ k) (h7 : k ≤ 7) {s v : Int} (hb : badT k s v = none) (hf : findI k s M 0 = none) (hv0 : 0 ≤ v) (hv1 : v ≤ 4294967295) (hlen : es.length ≤ 100000000) :
    ∃ A' i c id, kfn Tryd.bk.E call (Tryd.bk.inf 17) lf Tryd.f17 [ptr p, .agg #[.int .i64 (k : Nat), .int .u32 s, .int .u32 v]] A = some (.nilIface, A') ∧ LF A A' p mi io es ∧ A.next ≤ id ∧ A.next ≤ i ∧
      IsLane A' p mi (some i) (.slice (some ⟨i, 0, some 1⟩) (es.length + 1) c) (es ++ [⟨id, k, s, v, false⟩]) (if kyd k then M ++ [(k, s, id)] else M) := by
  have q1 : (A.push (.arr 29 [.int .i64 (k : Nat), .int .u32 s, .int .u32 v] .own)).get A.next = some (.arr 29 [.int .i64 (k : Nat), .int .u32 s, .int .u32 v] .own) := Hp.get_push_same _ _
  obtain ⟨A2, c1, z2, k3, q3, g3, q2, n3, n2⟩ := lput_pre hck hw hC h1 h7 hb
  let K : List Value := [.int .i64 (k : Nat), .int .u32 s]
  let A3 : Hp := (A2.push (.arr 111 [.int .i64 0, .int .u32 0] .own)).set A2.next (some (.arr 111 K .own))
  have L3 : IsLane A3 p mi io lv es M := h.kp hw k3
  have hlk := look_at L3.hm k s
  rw [show lookV M k s = .pointer none by unfold lookV; rw [hf]; rfl] at hlk
  have e3 : ((k : Nat) : Int) < ((8 : Nat) : Int) := by omega
  let E0 : List Value := [.int .i64 (k : Nat), .int .u32 s, .int .u32 v, .bool false]
  let A4 : Hp := A3.push (.arr 117 E0 .own)
  have k34 : Kp A3 A4 := Kp.push k3.wf _
  have k4 : Kp A A4 := k3.trans k34
  have n4 : A4.next = A3.next + 1 := by simp [A4]
  have hA3 : A.next ≤ A3.next := k3.nx
  have n3' : A3.next = A2.next + 1 := n3
  have L4 : IsLane A4 p mi io lv es M := L3.kp k3.wf k34
  have C4 : LC A4 := LCkp hw hC k4
  have q4 : A4.get A.next = some (.arr 29 [.int .i64 (k : Nat), .int .u32 s, .int .u32 v] .own) := by rw [k34.old _ (by omega)]; exact q3
  have g4 : A4.get A2.next = some (.arr 111 K .own) := by rw [k34.old _ (by omega)]; exact g3
  have x4 : A4.get A3.next = some (.arr 117 E0 .own) := Hp.get_push_same _ _
  obtain ⟨pl1, pl2, pl3, pl4, pl5⟩ := h.pl hw
  have hon := once_at (k := k) (by omega)
  -- the map
  obtain ⟨A5, m1, m2, m3, m4, m5, m6⟩ : ∃ A5, (kyd k = true → dmapUpdate Tryd.bk.E 105 A4 (.map (some mi)) (.agg #[.int .i64 (k : Nat), .int .u32 s]) (ptr A3.next) = some A5) ∧ (kyd k = false → A5 = A4) ∧ A5.wf ∧ A5.next = A4.next ∧ (∀ j, j ≠ mi → A5.get j = A4.get j) ∧
      A5.get mi = some (.map ((if kyd k then M ++ [(k, s, A3.next)] else M).map rowM) .own) := by
    cases hk : kyd k with
    | true => exact ⟨_, fun _ => mput_at L4.hm hf A3.next, by simp, k4.wf.put L4.hm _, Hp.next_set _ _ _, fun j hj => Hp.get_set_ne _ _ hj, Hp.get_set_same _ _ _⟩
    | false => exact ⟨A4, by simp, fun _ => rfl, k4.wf, rfl, fun _ _ => rfl, L4.hm⟩
  have hp5 : A5.get p = some (.arr 109 (laneC lv mi (fun j => (cnt es j : Nat)) ((live es).length : Nat)) .own) := by rw [m5 p pl3]; exact L4.hp
  have hl5 : SlAt 112 1 A5 lv io (es.map fun e => ptr e.id) es.length := L4.hl.keep fun i hi => m5 i (pl4 i hi).2.2.1
  obtain ⟨i, c, A6, a1, a2, a3, a4, a5, a6⟩ := app_ptr m3 hl5 (ptr A3.next) (by omega)
  obtain ⟨sa, sc, rfl⟩ := h.hl.sl3
  let nl : Value := .slice (some ⟨i, 0, some 1⟩) (es.length + 1) c
  have hp6 : A6.get p = some (.arr 109 (laneC (.slice sa es.length sc) mi (fun j => (cnt es j : Nat)) ((live es).length : Nat)) .own) := by
    rw [a6 p (by omega) (fun e => (pl4 p e).2.1 rfl)]; exact hp5
  let f0 : Nat → Int := fun j => (cnt es j : Nat)
  let f1 : Nat → Int := fun j => if j = k then IntKind.i64.wrap (f0 k + 1) else f0 j
  let n0 : Int := ((live es).length : Nat)
  let A7 : Hp := A6.set p (some (.arr 109 (laneC nl mi f0 n0) .own))
  let A8 : Hp := A7.set p (some (.arr 109 (laneC nl mi f1 n0) .own))
  let A9 : Hp := A8.set p (some (.arr 109 (laneC nl mi f1 (IntKind.i64.wrap (n0 + 1))) .own))
  have g7 : A7.get p = some (.arr 109 (laneC nl mi f0 n0) .own) := Hp.get_set_same _ _ _
  have g8 : A8.get p = some (.arr 109 (laneC nl mi f1 n0) .own) := Hp.get_set_same _ _ _
  have g9 : A9.get p = some (.arr 109 (laneC nl mi f1 (IntKind.i64.wrap (n0 + 1))) .own) := Hp.get_set_same _ _ _
  have o9 : ∀ j, j ≠ p → A9.get j = A6.get j := fun j hj => by
    rw [show A9.get j = A8.get j from Hp.get_set_ne _ _ hj, show A8.get j = A7.get j from Hp.get_set_ne _ _ hj]
    exact Hp.get_set_ne _ _ hj
  have w9 : A9.wf := ((a4.put hp6 _).put g7 _).put g8 _
  have nx9 : A9.next = A6.next := by simp [A9, A8, A7]
  have q6 : A6.get A.next = some (.arr 29 [.int .i64 (k : Nat), .int .u32 s, .int .u32 v] .own) := by
    rw [a6 _ (by omega) (fun e => by have := (pl4 _ e).1; omega), m5 _ (by omega)]; exact q4
  have q7 : A7.get A.next = some (.arr 29 [.int .i64 (k : Nat), .int .u32 s, .int .u32 v] .own) := by rw [show A7.get A.next = A6.get A.next from Hp.get_set_ne _ _ (by omega)]; exact q6
  have o6 : ∀ j, j < A.next → j ≠ mi → io ≠ some j → A6.get j = A.get j := fun j hj hm hi => by rw [a6 j (by omega) hi, m5 j hm, k4.old j hj]
  have x6 : A6.get A3.next = some (.arr 117 E0 .own) := by rw [a6 _ (by omega) (fun e => by have := (pl4 _ e).1; omega), m5 _ (by omega)]; exact x4
  refine ⟨A9, i, c, A3.next, ?run, ⟨w9, by omega, fun j hj hjp hjm hji hje => by rw [o9 j hjp, o6 j hj hjm hji]⟩, hA3, by omega, ⟨?hp, ?hl, ?hm, ?he, ?nd, ?mk, ?ok⟩⟩
  case hp =>
    rw [g9]
    have hc := cnt_le es k
    have hlv := live_le es
    have e1 : f1 = fun j => ((cnt (es ++ [⟨A3.next, k, s, v, false⟩]) j : Nat) : Int) := by
      funext j
      show (if j = k then IntKind.i64.wrap (f0 k + 1) else f0 j) = _
      rw [cnt_snoc _ _ rfl]
      by_cases hj : j = k
      · subst hj
        rw [if_pos rfl, if_pos rfl, w64 (by show _ ≤ ((cnt es j : Nat) : Int) + 1; omega) (by show ((cnt es j : Nat) : Int) + 1 ≤ _; omega)]
        show ((cnt es j : Nat) : Int) + 1 = _
        omega
      · rw [if_neg hj, if_neg (fun e => hj e.symm)]
        show ((cnt es j : Nat) : Int) = _
        omega
    have e2 : IntKind.i64.wrap (n0 + 1) = ((live (es ++ [⟨A3.next, k, s, v, false⟩])).length : Nat) := by
      rw [live_snoc _ _ rfl, List.length_append, w64 (by show _ ≤ (((live es).length : Nat) : Int) + 1; omega) (by show (((live es).length : Nat) : Int) + 1 ≤ _; omega)]
      show (((live es).length : Nat) : Int) + 1 = _
      simp
    rw [e1, e2]
  case hl =>
    rw [List.map_append, List.length_append]
    exact (a2.keep fun j hj => by cases hj; exact o9 i (by omega)).slAt
  case hm => rw [o9 mi pl3.symm, a6 mi (by omega) (fun e => (pl4 mi e).2.2.1 rfl)]; exact m6
  case he =>
    intro e he
    rcases List.mem_append.1 he with he | he
    · obtain ⟨b1, b2, b3⟩ := pl5 e he
      rw [o9 _ b2, o6 _ b1 b3 (fun e' => (pl4 _ e').2.2.2 e he rfl)]
      exact h.he e he
    · simp only [List.mem_singleton] at he
      subst he
      show A9.get A3.next = _
      rw [o9 _ (by omega)]
      exact x6
  case nd =>
    rw [List.map_append]
    refine List.nodup_append.2 ⟨h.nd, by simp, fun a ha b hb' => ?_⟩
    obtain ⟨e, he, rfl⟩ := List.mem_map.1 ha
    simp only [List.map_cons, List.map_nil, List.mem_singleton] at hb'
    have := (pl5 e he).1
    omega
  case mk =>
    have hold : ∀ x ∈ M, ∃ e ∈ es ++ [⟨A3.next, k, s, v, false⟩], e.id = x.2.2 ∧ e.k = x.1 ∧ e.s = x.2.1 ∧ e.gone = false ∧ kyd e.k = true := fun x hx => by
      obtain ⟨e, he, r⟩ := h.mp.isin x hx
      exact ⟨e, List.mem_append_left _ he, r⟩
    cases hk : kyd k with
    | true =>
      refine ⟨fun x hx => ?_, fun e he hg hk' => ?_, ?_⟩
      · rcases List.mem_append.1 (show x ∈ M ++ [(k, s, A3.next)] from hx) with hx | hx
        · exact hold x hx
        · simp only [List.mem_singleton] at hx
          subst hx
          exact ⟨_, List.mem_append_right _ (List.mem_singleton_self _), rfl, rfl, rfl, rfl, hk⟩
      · show (e.k, e.s, e.id) ∈ M ++ [(k, s, A3.next)]
        rcases List.mem_append.1 he with he | he
        · exact List.mem_append_left _ (h.mp.of e he hg hk')
        · simp only [List.mem_singleton] at he
          subst he
          exact List.mem_append_right _ (List.mem_singleton_self _)
      · show ((M ++ [(k, s, A3.next)]).map fun x => (x.1, x.2.1)).Nodup
        rw [List.map_append]
        refine List.nodup_append.2 ⟨h.mp.nd, by simp, fun a ha b hb' => ?_⟩
        obtain ⟨x, hx, rfl⟩ := List.mem_map.1 ha
        simp only [List.map_cons, List.map_nil, List.mem_singleton] at hb'
        subst hb'
        intro e
        simp only [Prod.mk.injEq] at e
        exact findI_none.1 hf x hx e
    | false =>
      refine ⟨fun x hx => hold x (by simpa using hx), fun e he hg hk' => ?_, by simpa using h.mp.nd⟩
      rcases List.mem_append.1 he with he | he
      · simpa using h.mp.of e he hg hk'
      · simp only [List.mem_singleton] at he
        subst he
        rw [hk] at hk'; cases hk'
  case ok =>
    intro e he
    rcases List.mem_append.1 he with he | he
    · exact h.ok e he
    · simp only [List.mem_singleton] at he
      subst he
      exact ⟨h1, h7, hv0, hv1⟩
  case run =>
    conv => lhs; whnf
    refine bind_of (cellsAt_of q1 _ _) ?_
    conv => lhs; whnf
    refine bind_of c1 ?_
    conv => lhs; whnf
    refine bind_of (cellsAt_of q2 _ _) ?_
    conv => lhs; whnf
    refine bind_of (cellsAt_of q2 _ _) ?_
    conv => lhs; whnf
    refine bind_of (dstore_of z2 (t := 111) (o := 0) (cs' := K) rfl) ?_
    conv => lhs; whnf
    refine bind_of (cellsAt_of L3.hp _ _) ?_
    conv => lhs; whnf
    refine bind_of (cellsAt_of g3 _ _) ?_
    conv => lhs; whnf
    refine bind_of hlk ?_
    refine bif_of (one_all L3.hm rfl) ?_
    conv => lhs; whnf
    refine bind_of (cellsAt_of q3 _ _) ?_
    conv => lhs; whnf
    refine bind_of (cellsAt_of q4 _ _) ?_
    conv => lhs; whnf
    rw [kdec e3]
    conv => lhs; whnf
    refine bind_of ((cellsAt_of C4.forms _ _).trans hon) ?_
    conv => lhs; whnf
    cases ho : onceB k with
    | true =>
      have hm1 := m1 (by unfold kyd; rw [ho]; rfl)
      conv => lhs; whnf
      refine bind_of (cellsAt_of L4.hp _ _) ?_
      conv => lhs; whnf
      refine bind_of (cellsAt_of g4 _ _) ?_
      conv => lhs; whnf
      refine bind_of (dstep_mu rfl rfl rfl rfl hm1) ?_
      conv => lhs; whnf
      refine bind_of (cellsAt_of hp5 _ _) ?_
      conv => lhs; whnf
      refine bind_of a1 ?_
      conv => lhs; whnf
      refine bind_of (dstore_of hp6 (t := 106) (o := 0) (cs' := laneC nl mi f0 n0) rfl) ?_
      conv => lhs; whnf
      refine bind_of (cellsAt_of q7 _ _) ?_
      conv => lhs; whnf
      rw [kdec e3]
      conv => lhs; whnf
      refine bind_of ((cellsAt_of g7 _ _).trans (cnt_at (by omega))) ?_
      conv => lhs; whnf
      rw [kdec e3]
      conv => lhs; whnf
      refine bind_of (dstore_of g7 (t := 3) (cs' := laneC nl mi f1 n0) (cnt_put (by omega))) ?_
      conv => lhs; whnf
      refine bind_of (cellsAt_of g8 _ _) ?_
      conv => lhs; whnf
      refine bind_of (dstore_of g8 (t := 3) (o := 10) (cs' := laneC nl mi f1 (IntKind.i64.wrap (n0 + 1))) rfl) ?_
      conv => lhs; whnf
      rfl
    | false =>
      conv => lhs; whnf
      refine bind_of (cellsAt_of q4 _ _) ?_
      conv => lhs; whnf
      by_cases hk3 : k = 3
      · rw [show (((k : Nat) : Int) == 3) = true from beq_iff_eq.2 (by omega)]
        have hm1 := m1 (by unfold kyd; rw [ho]; simpa using hk3)
        conv => lhs; whnf
        refine bind_of (cellsAt_of L4.hp _ _) ?_
        conv => lhs; whnf
        refine bind_of (cellsAt_of g4 _ _) ?_
        conv => lhs; whnf
        refine bind_of (dstep_mu rfl rfl rfl rfl hm1) ?_
        conv => lhs; whnf
        refine bind_of (cellsAt_of hp5 _ _) ?_
        conv => lhs; whnf
        refine bind_of a1 ?_
        conv => lhs; whnf
        refine bind_of (dstore_of hp6 (t := 106) (o := 0) (cs' := laneC nl mi f0 n0) rfl) ?_
        conv => lhs; whnf
        refine bind_of (cellsAt_of q7 _ _) ?_
        conv => lhs; whnf
        rw [kdec e3]
        conv => lhs; whnf
        refine bind_of ((cellsAt_of g7 _ _).trans (cnt_at (by omega))) ?_
        conv => lhs; whnf
        rw [kdec e3]
        conv => lhs; whnf
        refine bind_of (dstore_of g7 (t := 3) (cs' := laneC nl mi f1 n0) (cnt_put (by omega))) ?_
        conv => lhs; whnf
        refine bind_of (cellsAt_of g8 _ _) ?_
        conv => lhs; whnf
        refine bind_of (dstore_of g8 (t := 3) (o := 10) (cs' := laneC nl mi f1 (IntKind.i64.wrap (n0 + 1))) rfl) ?_
        conv => lhs; whnf
        rfl
      · rw [show (((k : Nat) : Int) == 3) = false from beq_eq_false_iff_ne.2 (by omega)]
        obtain rfl := m2 (by unfold kyd; rw [ho]; simpa using hk3)
        conv => lhs; whnf
        refine bind_of (cellsAt_of hp5 _ _) ?_
        conv => lhs; whnf
        refine bind_of a1 ?_
        conv => lhs; whnf
        refine bind_of (dstore_of hp6 (t := 106) (o := 0) (cs' := laneC nl mi f0 n0) rfl) ?_
        conv => lhs; whnf
        refine bind_of (cellsAt_of q7 _ _) ?_
        conv => lhs; whnf
        rw [kdec e3]
        conv => lhs; whnf
        refine bind_of ((cellsAt_of g7 _ _).trans (cnt_at (by omega))) ?_
        conv => lhs; whnf
        rw [kdec e3]
        conv => lhs; whnf
        refine bind_of (dstore_of g7 (t := 3) (cs' := laneC nl mi f1 n0) (cnt_put (by omega))) ?_
        conv => lhs; whnf
        refine bind_of (cellsAt_of g8 _ _) ?_
        conv => lhs; whnf
        refine bind_of (dstore_of g8 (t := 3) (o := 10) (cs' := laneC nl mi f1 (IntKind.i64.wrap (n0 + 1))) rfl) ?_
        conv => lhs; whnf
        rfl
end
end Go.Dn.Ln
end

section
/-
  layer 11 (lane): drop
-/
namespace Go.Dn.Ln
open Go.Proofs
set_option maxHeartbeats 4000000
set_option maxRecDepth 100000
attribute [local irreducible] Hp.get Hp.set Hp.push dappend dcopy dstore cellsAt callD loopD dlookup dmapUpdate ddelete

theorem take_succ {α : Type} {us : List α} {i : Nat} {x : α} (h : us[i]? = some x) : us.take (i + 1) = us.take i ++ [x] := by
  rw [List.take_add_one, h]; rfl
theorem cells_sl {cs us : List Value} {o n : Nat} (hl : o + n ≤ cs.length) (hu : (cs.drop o).take n = us) {j : Nat} {x : Value} (hx : us[j]? = some x) : cellsIn cs (o + j * 1) 1 = some [x] := by
  have hj : j < us.length := (List.getElem?_eq_some_iff.1 hx).1
  have hlen : us.length = n := by rw [← hu]; simp; omega
  refine cellsIn_of (by omega) ?_
  have h2 : cs[o + j]? = some x := by
    rw [← hu, List.getElem?_take, if_pos (by omega), List.getElem?_drop] at hx
    exact hx
  rw [Nat.mul_one, List.drop_eq_getElem_cons (by omega)]
  have : cs[o + j] = x := by rw [List.getElem?_eq_getElem (by omega)] at h2; exact Option.some.inj h2
  rw [this]
  rfl

/-- the list as it is read: an element -/
theorem list_cell {A : Hp} {a : Option Addr} {m c : Nat} {io : Option Nat} {us : List Value} (h : SlAt 112 1 A (.slice a m c) io us m) {j : Nat} {x : Value} (hx : us[j]? = some x) :
    ∃ i o cs, a = some ⟨i, o, some 1⟩ ∧ io = some i ∧ A.get i = some (.arr 112 cs .own) ∧ cellsIn cs (o + j * 1) 1 = some [x] ∧ j < m := by
  generalize hv : (Value.slice a m c) = v at h
  cases h with
  | nil => simp at hx
  | «at» i o _ c' cs _ hc hg hl hu =>
    cases hv
    have hj : j < us.length := (List.getElem?_eq_some_iff.1 hx).1
    have hlen : us.length = m * 1 := by rw [← hu]; simp; omega
    exact ⟨i, o, cs, rfl, rfl, hg, cells_sl hl hu hx, by omega⟩

structure CI (A0 : Hp) (es : List En) (i : Nat) (V5 : Value) (A : Hp) : Prop where
  kp : Kp A0 A
  acc : ∃ io, CanAt 112 1 A V5 io ((live (es.take i)).map fun e => ptr e.id) (live (es.take i)).length ∧ ∀ j, io = some j → A0.next ≤ j

theorem drop_loop {call : CallT} (lf : Nat) {A0 : Hp} (hw : A0.wf) {io : Option Nat} {lv : Value} {es : List En} (hl : SlAt 112 1 A0 lv io (es.map fun e => ptr e.id) es.length) (he : ∀ e ∈ es, A0.get e.id = some (.arr 117 e.cells .own)) (hlen : es.length ≤ 100000000) (hlf : es.length < lf) (V0 : Value) :
    ∃ A1 V5 L, loopD (some [0, 5, 71, 72, 73]) (exec Tryd.bk.E call Tryd.f64.ntmps (Tryd.bk.inf 64) lf (loopOf Tryd.f64 0)) lf [(0, V0), (5, .slice none 0 0), (71, lv), (72, .int .i64 (es.length : Nat)), (73, .int .i64 ((0 : Nat) : Int))] A0 =
      some (.exit 0, [(0, V0), (5, V5), (71, lv), (72, .int .i64 (es.length : Nat)), (73, L)], A1) ∧ CI A0 es es.length V5 A1 := by
  obtain ⟨a, c, rfl⟩ := hl.sl3
  have key := loop_rule (ks := some [0, 5, 71, 72, 73]) (f := exec Tryd.bk.E call Tryd.f64.ntmps (Tryd.bk.inf 64) lf (loopOf Tryd.f64 0)) (S := Nat × Value)
    (fun s => [(0, V0), (5, s.2), (71, .slice a es.length c), (72, .int .i64 (es.length : Nat)), (73, .int .i64 (s.1 : Nat))])
    (fun s A => s.1 ≤ es.length ∧ CI A0 es s.1 s.2 A) (fun s => es.length - s.1)
    (fun e σ A1 => e = .exit 0 ∧ ∃ V5 L, σ = [(0, V0), (5, V5), (71, .slice a es.length c), (72, .int .i64 (es.length : Nat)), (73, L)] ∧ CI A0 es es.length V5 A1) (fun s A hs => ?_)
    lf (0, .slice none 0 0) A0 ⟨Nat.zero_le _, Kp.refl hw, none, .nil, by simp⟩ (by simp only; omega)
  · obtain ⟨e, σ1, A1, r1, rfl, V5, L, rfl, r2⟩ := key
    exact ⟨A1, V5, L, r1, r2⟩
  · obtain ⟨i, V5⟩ := s
    obtain ⟨z1, z2, io5, z3, z4⟩ := hs
    simp only at z1 z2 z3 z4 ⊢
    by_cases him : i < es.length
    · have hx : es[i]? = some es[i] := List.getElem?_eq_getElem him
      generalize es[i] = e at hx
      have hem := List.mem_of_getElem? hx
      have e1 : ((i : Nat) : Int) < ((es.length : Nat) : Int) := by omega
      have hw2 : IntKind.i64.wrap ((i : Int) + 1) = ((i + 1 : Nat) : Int) := by rw [w64 (by omega) (by omega)]; omega
      obtain ⟨il, ol, cs, rfl, rfl, hg, hc, _⟩ := list_cell hl (j := i) (x := ptr e.id) (by rw [List.getElem?_map, hx]; rfl)
      have hgA : A.get il = some (.arr 112 cs .own) := by rw [z2.old _ (hw.lt hg)]; exact hg
      have heA : A.get e.id = some (.arr 117 e.cells .own) := by rw [z2.old _ (hw.lt (he e hem))]; exact he e hem
      have htk := take_succ hx
      obtain ⟨id, ek, esx, ev, eg⟩ := e
      have hlv := live_le (es.take i)
      rw [List.length_take] at hlv
      cases eg with
      | true =>
        have hl2 : live (es.take (i + 1)) = live (es.take i) := by
          unfold live
          rw [htk, List.filter_append]; simp
        refine ⟨.normal, ?s1, A, kexec_run ?run1, .inl ⟨rfl, (i + 1, V5), ?kp1, ⟨him, z2, io5, by rw [hl2]; exact z3, z4⟩, by simp only; omega⟩⟩
        case run1 =>
          conv => lhs; whnf
          rw [kdec e1]
          conv => lhs; whnf
          rw [kdec e1]
          conv => lhs; whnf
          refine bind_of ((cellsAt_of hgA _ _).trans hc) ?_
          conv => lhs; whnf
          refine bind_of (cellsAt_of heA _ _) ?_
          conv => lhs; whnf
        case kp1 =>
          show [_, _, _, _, (73, Value.int .i64 (IntKind.i64.wrap ((i : Int) + 1)))] = _
          rw [hw2]
      | false =>
        have hl2 : live (es.take (i + 1)) = live (es.take i) ++ [⟨id, ek, esx, ev, false⟩] := by rw [htk]; exact live_snoc _ _ rfl
        obtain ⟨i5, c5, A1, a1, a2, a3, a4, a5, a6⟩ := app_ptr z2.wf z3.slAt (ptr id) (by omega)
        have hC1 : CI A0 es (i + 1) (.slice (some ⟨i5, 0, some 1⟩) ((live (es.take i)).length + 1) c5) A1 := by
          have hnx := z2.nx
          refine ⟨⟨a4, by omega, fun j hj => by rw [a6 j (by omega) (fun e => by have := z4 j e; omega), z2.old j hj]⟩, some i5, ?_, fun j hj => by cases hj; omega⟩
          rw [hl2, List.map_append, List.length_append]
          exact a2
        refine ⟨.normal, ?s2, A1, kexec_run ?run2, .inl ⟨rfl, (i + 1, _), ?kp2, ⟨him, hC1⟩, by simp only; omega⟩⟩
        case run2 =>
          conv => lhs; whnf
          rw [kdec e1]
          conv => lhs; whnf
          rw [kdec e1]
          conv => lhs; whnf
          refine bind_of ((cellsAt_of hgA _ _).trans hc) ?_
          conv => lhs; whnf
          refine bind_of (cellsAt_of heA _ _) ?_
          conv => lhs; whnf
          refine bind_of a1 ?_
          conv => lhs; whnf
        case kp2 =>
          show [_, _, _, _, (73, Value.int .i64 (IntKind.i64.wrap ((i : Int) + 1)))] = _
          rw [hw2]
    · obtain rfl : i = es.length := by omega
      have e1 : ¬ ((es.length : Nat) : Int) < ((es.length : Nat) : Int) := by omega
      refine ⟨.exit 0, ?s3, A, kexec_run ?run3, .inr ⟨by simp, rfl, V5, ?L3, ?kp3, z2, io5, z3, z4⟩⟩
      case run3 =>
        conv => lhs; whnf
        rw [kdecn e1]
      case kp3 => rfl

def M' (M : List (Nat × Int × Nat)) (k : Nat) (s : Int) : List (Nat × Int × Nat) := match findI k s M 0 with
  | some (j, _) => M.eraseIdx j
  | none => M
def die (i : Nat) (es : List En) : List En := es.map fun e => if e.id = i then { e with gone := true } else e
theorem die_ids (i : Nat) (es : List En) {β : Type} (f : Nat → β) : (die i es).map (fun e => f e.id) = es.map fun e => f e.id := by
  unfold die
  rw [List.map_map]
  congr 1
  funext e
  simp only [Function.comp_apply]
  split <;> rfl
theorem die_len (i : Nat) (es : List En) : (die i es).length = es.length := by unfold die; rw [List.length_map]

theorem ldrop {call : CallT} (lf : Nat) {A : Hp} (hw : A.wf) {p mi : Nat} {io : Option Nat} {lv : Value} {es : List En} {M : List (Nat × Int × Nat)} {f : Nat → Int} {n : Nat}
    (hp : A.get p = some (.arr 109 (laneC lv mi f ((n + 1 : Nat) : Int)) .own)) (hl : SlAt 112 1 A lv io (es.map fun e => ptr e.id) es.length) (hm : A.get mi = some (.map (M.map rowM) .own)) (he : ∀ e ∈ es, A.get e.id = some (.arr 117 e.cells .own))
    {e : En} (hge : A.get e.id = some (.arr 117 e.cells .own)) (hek : e.k < 8) (hes : ∀ x ∈ es, x.id = e.id → x = e) (hf : findI e.k e.s M 0 = none ∨ ∃ j, findI e.k e.s M 0 = some (j, e.id)) (hn : n ≤ 100000000) (hlen : es.length ≤ 100000000) (hlf : es.length < lf) :
    ∃ A' io' lv' es' r, kfn Tryd.bk.E call (Tryd.bk.inf 64) lf Tryd.f64 [ptr p, ptr e.id] A = some (r, A') ∧ A'.wf ∧ A.next ≤ A'.next ∧ (∀ j, j < A.next → j ≠ p → j ≠ mi → j ≠ e.id → A'.get j = A.get j) ∧
      A'.get p = some (.arr 109 (laneC lv' mi (fun j => if j = e.k then IntKind.i64.wrap (f e.k - 1) else f j) (n : Nat)) .own) ∧ SlAt 112 1 A' lv' io' (es'.map fun e => ptr e.id) es'.length ∧ A'.get mi = some (.map ((M' M e.k e.s).map rowM) .own) ∧
      A'.get e.id = some (.arr 117 [.int .i64 (e.k : Nat), .int .u32 e.s, .int .u32 e.v, .bool true] .own) ∧ ((es' = die e.id es ∧ io' = io) ∨ (es' = live (die e.id es) ∧ ∀ j, io' = some j → A.next ≤ j)) := by
  obtain ⟨id, k, s, v, eg⟩ := e
  simp only at hek hf hes hge ⊢
  obtain ⟨sa, sc, rfl⟩ := hl.sl3
  have hpi : p ≠ id := by rintro rfl; rw [hp] at hge; cases hge
  have hmi : mi ≠ id := by rintro rfl; rw [hm] at hge; cases hge
  have hpm : p ≠ mi := by rintro rfl; rw [hp] at hm; cases hm
  have hpl := hw.lt hp
  have hml := hw.lt hm
  have hil := hw.lt hge
  have e3 : ((k : Nat) : Int) < ((8 : Nat) : Int) := by omega
  let lv : Value := .slice sa es.length sc
  let D : List Value := [.int .i64 (k : Nat), .int .u32 s, .int .u32 v, .bool true]
  let A1 : Hp := A.set id (some (.arr 117 D .own))
  have g1 : A1.get id = some (.arr 117 D .own) := Hp.get_set_same _ _ _
  have p1 : A1.get p = some (.arr 109 (laneC lv mi f ((n + 1 : Nat) : Int)) .own) := by rw [show A1.get p = A.get p from Hp.get_set_ne _ _ hpi]; exact hp
  let f1 : Nat → Int := fun j => if j = k then IntKind.i64.wrap (f k - 1) else f j
  let A2 : Hp := A1.set p (some (.arr 109 (laneC lv mi f1 ((n + 1 : Nat) : Int)) .own))
  have p2 : A2.get p = some (.arr 109 (laneC lv mi f1 ((n + 1 : Nat) : Int)) .own) := Hp.get_set_same _ _ _
  have hwn : IntKind.i64.wrap (((n + 1 : Nat) : Int) - 1) = (n : Nat) := by rw [w64 (by omega) (by omega)]; omega
  let A3 : Hp := A2.set p (some (.arr 109 (laneC lv mi f1 (n : Nat)) .own))
  have p3 : A3.get p = some (.arr 109 (laneC lv mi f1 (n : Nat)) .own) := Hp.get_set_same _ _ _
  have g3 : A3.get id = some (.arr 117 D .own) := by rw [show A3.get id = A2.get id from Hp.get_set_ne _ _ hpi.symm, show A2.get id = A1.get id from Hp.get_set_ne _ _ hpi.symm]; exact g1
  have w3 : A3.wf := ((hw.put hge _).put p1 _).put p2 _
  have n3 : A3.next = A.next := by simp [A3, A2, A1]
  have o3 : ∀ j, j ≠ p → j ≠ id → A3.get j = A.get j := fun j h1 h2 => by
    rw [show A3.get j = A2.get j from Hp.get_set_ne _ _ h1, show A2.get j = A1.get j from Hp.get_set_ne _ _ h1]
    exact Hp.get_set_ne _ _ h2
  let K : List Value := [.int .i64 (k : Nat), .int .u32 s]
  let A4 : Hp := (A3.push (.arr 111 [.int .i64 0, .int .u32 0] .own)).set A3.next (some (.arr 111 K .own))
  have k34 : Kp A3 A4 := (Kp.push w3 _).set (Hp.get_push_same _ _) (Nat.le_refl _) _
  have q4 : A4.get A3.next = some (.arr 111 K .own) := Hp.get_set_same _ _ _
  have n4 : A4.next = A3.next + 1 := by simp [A4]
  have p4 : A4.get p = some (.arr 109 (laneC lv mi f1 (n : Nat)) .own) := by rw [k34.old _ (by omega)]; exact p3
  have m4 : A4.get mi = some (.map (M.map rowM) .own) := by rw [k34.old _ (by omega), o3 mi hpm.symm hmi]; exact hm
  have hlk := look_at m4 k s
  have g4 : A4.get id = some (.arr 117 D .own) := by rw [k34.old _ (by omega)]; exact g3
  obtain ⟨A5, x1, x2, x3, ⟨x4, x6⟩, x5⟩ : ∃ A5, (findI k s M 0 = none → A5 = A4) ∧ (∀ j i, findI k s M 0 = some (j, i) → ddelete Tryd.bk.E 105 A4 (.map (some mi)) (.agg #[.int .i64 (k : Nat), .int .u32 s]) = some A5) ∧ A5.wf ∧ (A5.next = A4.next ∧ ∀ j, j ≠ mi → A5.get j = A4.get j) ∧
      A5.get mi = some (.map ((M' M k s).map rowM) .own) := by
    cases hfi : findI k s M 0 with
    | none => exact ⟨A4, fun _ => rfl, by simp, k34.wf, ⟨rfl, fun _ _ => rfl⟩, by unfold M'; rw [hfi]; exact m4⟩
    | some r =>
      obtain ⟨j, i⟩ := r
      exact ⟨_, by simp, fun j' i' hji => by cases hji; exact mdel_at m4 hfi, k34.wf.put m4 _, ⟨Hp.next_set _ _ _, fun x hx => Hp.get_set_ne _ _ hx⟩, by unfold M'; rw [hfi]; exact Hp.get_set_same _ _ _⟩
  have p5 : A5.get p = some (.arr 109 (laneC lv mi f1 (n : Nat)) .own) := by rw [x6 p hpm]; exact p4
  have g5 : A5.get id = some (.arr 117 D .own) := by rw [x6 id hmi.symm, k34.old _ (by omega)]; exact g3
  have o5 : ∀ j, j < A.next → j ≠ p → j ≠ mi → j ≠ id → A5.get j = A.get j := fun j hj h1 h2 h3 => by rw [x6 j h2, k34.old j (by omega), o3 j h1 h3]
  have hio : ∀ i, io = some i → i < A.next ∧ i ≠ p ∧ i ≠ mi ∧ i ≠ id := fun i hi => by
    subst hi
    obtain ⟨cs, hcs⟩ := hl.lt
    refine ⟨hw.lt hcs, ?_, ?_, ?_⟩
    · rintro rfl; rw [hp] at hcs; cases hcs
    · rintro rfl; rw [hm] at hcs; cases hcs
    · rintro rfl; rw [hge] at hcs; cases hcs
  have l5 : SlAt 112 1 A5 lv io ((die id es).map fun e => ptr e.id) (die id es).length := by
    rw [die_ids id es ptr, die_len]
    exact hl.keep fun i hi => by obtain ⟨a, b, c, d⟩ := hio i hi; exact o5 i a b c d
  have he5 : ∀ x ∈ die id es, A5.get x.id = some (.arr 117 x.cells .own) := fun x hx => by
    unfold die at hx
    obtain ⟨y, hy, rfl⟩ := List.mem_map.1 hx
    by_cases hid : y.id = id
    · have := hes y hy hid
      subst this
      simp only [if_true]
      exact g5
    · rw [if_neg hid]
      have h1 := he y hy
      rw [o5 y.id (hw.lt h1) (by rintro e; rw [e, hp] at h1; cases h1) (by rintro e; rw [e, hm] at h1; cases h1) hid]
      exact h1
  have hdl := die_len id es
  have hwm : IntKind.i64.wrap (2 * ((n : Nat) : Int)) = 2 * (n : Nat) := w64 (by omega) (by omega)
  have hwa : IntKind.i64.wrap (2 * ((n : Nat) : Int) + 16) = 2 * (n : Nat) + 16 := w64 (by omega) (by omega)
  by_cases hbig : ((es.length : Nat) : Int) > 2 * ((n : Nat) : Int) + 16
  · obtain ⟨A6, V5, L, r1, r2, io5, r3, r4⟩ := drop_loop (call := call) lf x3 l5 he5 (by omega) (by omega) (ptr p)
    rw [List.take_of_length_le (Nat.le_refl _)] at r3
    rw [hdl] at r1
    obtain ⟨a5, c5, rfl⟩ := r3.sl3
    have p6 : A6.get p = some (.arr 109 (laneC lv mi f1 (n : Nat)) .own) := by rw [r2.old p (by omega)]; exact p5
    let nl : Value := .slice a5 (live (die id es)).length c5
    let A7 : Hp := A6.set p (some (.arr 109 (laneC nl mi f1 (n : Nat)) .own))
    have hnx := r2.nx
    refine ⟨A7, io5, nl, live (die id es), ?r1, ?run, r2.wf.put p6 _, by rw [Hp.next_set]; omega, ?fr, Hp.get_set_same _ _ _, ?sl, ?mm, ?ee, .inr ⟨rfl, fun j hj => by have := r4 j hj; omega⟩⟩
    case fr =>
      intro j hj h1 h2 h3
      rw [Hp.get_set_ne _ _ h1, r2.old j (by omega), o5 j hj h1 h2 h3]
    case sl => exact (r3.keep fun j hj => Hp.get_set_ne _ _ (by have := r4 j hj; omega)).slAt
    case mm => rw [Hp.get_set_ne _ _ hpm.symm, r2.old mi (by omega)]; exact x5
    case ee => rw [Hp.get_set_ne _ _ hpi.symm, r2.old id (by omega)]; exact g5
    case run =>
      conv => lhs; whnf
      refine bind_of (dstore_of hge (t := 4) (o := 3) (cs' := D) rfl) ?_
      conv => lhs; whnf
      refine bind_of (cellsAt_of g1 _ _) ?_
      conv => lhs; whnf
      rw [kdec e3]
      conv => lhs; whnf
      refine bind_of ((cellsAt_of p1 _ _).trans (cnt_at hek)) ?_
      conv => lhs; whnf
      rw [kdec e3]
      conv => lhs; whnf
      refine bind_of (dstore_of p1 (t := 3) (cs' := laneC lv mi f1 ((n + 1 : Nat) : Int)) (cnt_put hek)) ?_
      conv => lhs; whnf
      refine bind_of (cellsAt_of p2 _ _) ?_
      conv => lhs; whnf
      rw [hwn]
      refine bind_of (dstore_of p2 (t := 3) (o := 10) (cs' := laneC lv mi f1 (n : Nat)) rfl) ?_
      conv => lhs; whnf
      refine bind_of (cellsAt_of g3 _ _) ?_
      conv => lhs; whnf
      refine bind_of (cellsAt_of g3 _ _) ?_
      conv => lhs; whnf
      refine bind_of (dstore_of (Hp.get_push_same _ _) (t := 111) (o := 0) (cs' := K) rfl) ?_
      conv => lhs; whnf
      refine bind_of (cellsAt_of p4 _ _) ?_
      conv => lhs; whnf
      refine bind_of (cellsAt_of q4 _ _) ?_
      conv => lhs; whnf
      rcases hf with hf | ⟨j, hf⟩
      · obtain rfl := x1 hf
        rw [show lookV M k s = .pointer none by unfold lookV; rw [hf]; rfl] at hlk
        refine bind_of hlk ?_
        refine bif_of (one_all m4 rfl) ?_
        conv => lhs; whnf
        refine bind_of (cellsAt_of p5 _ _) ?_
        conv => lhs; whnf
        refine bind_of (cellsAt_of p5 _ _) ?_
        conv => lhs; whnf
        rw [hwm, hwa, kdec hbig]
        conv => lhs; whnf
        refine bind_of (cellsAt_of p5 _ _) ?_
        conv => lhs; whnf
        refine bind_of r1 ?_
        conv => lhs; whnf
        refine bind_of (dstore_of p6 (t := 106) (o := 0) (cs' := laneC nl mi f1 (n : Nat)) rfl) ?_
        conv => lhs; whnf
        try rfl
      · rw [show lookV M k s = ptr id by unfold lookV; rw [hf]; rfl] at hlk
        refine bind_of hlk ?_
        refine bif_of (one_all m4 rfl) ?_
        conv => lhs; whnf
        refine bind_of (drd_same rfl rfl rfl rfl rfl rfl (by decide)) ?_
        refine bif_of (two_all g4 rfl) ?_
        conv => lhs; whnf
        refine bind_of (cellsAt_of p4 _ _) ?_
        conv => lhs; whnf
        refine bind_of (cellsAt_of q4 _ _) ?_
        conv => lhs; whnf
        refine bind_of (dstep_del rfl ⟨_, rfl⟩ rfl (x2 j id hf)) ?_
        conv => lhs; whnf
        refine bind_of (cellsAt_of p5 _ _) ?_
        conv => lhs; whnf
        refine bind_of (cellsAt_of p5 _ _) ?_
        conv => lhs; whnf
        rw [hwm, hwa, kdec hbig]
        conv => lhs; whnf
        refine bind_of (cellsAt_of p5 _ _) ?_
        conv => lhs; whnf
        refine bind_of r1 ?_
        conv => lhs; whnf
        refine bind_of (dstore_of p6 (t := 106) (o := 0) (cs' := laneC nl mi f1 (n : Nat)) rfl) ?_
        conv => lhs; whnf
        try rfl
  · refine ⟨A5, io, lv, die id es, ?r2, ?run2, x3, by omega, o5, p5, l5, x5, g5, .inl ⟨rfl, rfl⟩⟩
    case run2 =>
      conv => lhs; whnf
      refine bind_of (dstore_of hge (t := 4) (o := 3) (cs' := D) rfl) ?_
      conv => lhs; whnf
      refine bind_of (cellsAt_of g1 _ _) ?_
      conv => lhs; whnf
      rw [kdec e3]
      conv => lhs; whnf
      refine bind_of ((cellsAt_of p1 _ _).trans (cnt_at hek)) ?_
      conv => lhs; whnf
      rw [kdec e3]
      conv => lhs; whnf
      refine bind_of (dstore_of p1 (t := 3) (cs' := laneC lv mi f1 ((n + 1 : Nat) : Int)) (cnt_put hek)) ?_
      conv => lhs; whnf
      refine bind_of (cellsAt_of p2 _ _) ?_
      conv => lhs; whnf
      rw [hwn]
      refine bind_of (dstore_of p2 (t := 3) (o := 10) (cs' := laneC lv mi f1 (n : Nat)) rfl) ?_
      conv => lhs; whnf
      refine bind_of (cellsAt_of g3 _ _) ?_
      conv => lhs; whnf
      refine bind_of (cellsAt_of g3 _ _) ?_
      conv => lhs; whnf
      refine bind_of (dstore_of (Hp.get_push_same _ _) (t := 111) (o := 0) (cs' := K) rfl) ?_
      conv => lhs; whnf
      refine bind_of (cellsAt_of p4 _ _) ?_
      conv => lhs; whnf
      refine bind_of (cellsAt_of q4 _ _) ?_
      conv => lhs; whnf
      rcases hf with hf | ⟨j, hf⟩
      · obtain rfl := x1 hf
        rw [show lookV M k s = .pointer none by unfold lookV; rw [hf]; rfl] at hlk
        refine bind_of hlk ?_
        refine bif_of (one_all m4 rfl) ?_
        conv => lhs; whnf
        refine bind_of (cellsAt_of p5 _ _) ?_
        conv => lhs; whnf
        refine bind_of (cellsAt_of p5 _ _) ?_
        conv => lhs; whnf
        rw [hwm, hwa, kdecn hbig]
        conv => lhs; whnf
        try rfl
      · rw [show lookV M k s = ptr id by unfold lookV; rw [hf]; rfl] at hlk
        refine bind_of hlk ?_
        refine bif_of (one_all m4 rfl) ?_
        conv => lhs; whnf
        refine bind_of (drd_same rfl rfl rfl rfl rfl rfl (by decide)) ?_
        refine bif_of (two_all g4 rfl) ?_
        conv => lhs; whnf
        refine bind_of (cellsAt_of p4 _ _) ?_
        conv => lhs; whnf
        refine bind_of (cellsAt_of q4 _ _) ?_
        conv => lhs; whnf
        refine bind_of (dstep_del rfl ⟨_, rfl⟩ rfl (x2 j id hf)) ?_
        conv => lhs; whnf
        refine bind_of (cellsAt_of p5 _ _) ?_
        conv => lhs; whnf
        refine bind_of (cellsAt_of p5 _ _) ?_
        conv => lhs; whnf
        rw [hwm, hwa, kdecn hbig]
        conv => lhs; whnf
        try rfl
end Go.Dn.Ln
end

section
/-
  layer 11 (lane): what a lane holds, without its places; a ticket taken out
-/
namespace Go.Dn.Ln
open Go.Proofs
set_option maxHeartbeats 4000000
set_option maxRecDepth 100000
attribute [local irreducible] Hp.get Hp.set Hp.push dappend dcopy dstore cellsAt callD loopD dlookup dmapUpdate ddelete

/-- a ticket: kind, stream, value -/
abbrev Tk := Nat × Int × Int
def En.tk (e : En) : Tk := (e.k, e.s, e.v)
def tks (es : List En) : List Tk := (live es).map En.tk

/-- a lane in memory that holds these tickets; S: all else that it owns -/
def Lx (A : Hp) (p : Nat) (S : Nat → Prop) (ts : List Tk) (N : Nat) : Prop :=
  ∃ mi io lv es M, IsLane A p mi io lv es M ∧ tks es = ts ∧ S mi ∧ (∀ i, io = some i → S i) ∧ (∀ e ∈ es, S e.id) ∧ es.length ≤ N

/-- what a step on it leaves -/
structure St (A A' : Hp) (p : Nat) (S S' : Nat → Prop) : Prop where
  wf : A'.wf
  nx : A.next ≤ A'.next
  old : ∀ j, j < A.next → j ≠ p → ¬ S j → A'.get j = A.get j
  own : ∀ j, S' j → S j ∨ A.next ≤ j
theorem St.refl {A : Hp} (hw : A.wf) {p : Nat} {S : Nat → Prop} : St A A p S S := ⟨hw, Nat.le_refl _, fun _ _ _ _ => rfl, fun _ h => .inl h⟩
theorem St.trans {A B C : Hp} {p : Nat} {S T U : Nat → Prop} (h : St A B p S T) (k : St B C p T U) : St A C p S U :=
  ⟨k.wf, Nat.le_trans h.nx k.nx, fun j hj h1 h2 => by rw [k.old j (Nat.lt_of_lt_of_le hj h.nx) h1 (fun ht => by rcases h.own j ht with e | e; exact h2 e; omega), h.old j hj h1 h2],
    fun j hj => by rcases k.own j hj with e | e; exact h.own j e; exact .inr (Nat.le_trans h.nx e)⟩
theorem Kp.st {A B : Hp} (h : Kp A B) {p : Nat} {S : Nat → Prop} : St A B p S S := ⟨h.wf, h.nx, fun j hj _ _ => h.old j hj, fun _ h => .inl h⟩
theorem Lx.keep {A A' : Hp} {p : Nat} {S : Nat → Prop} {ts : List Tk} {N : Nat} (h : Lx A p S ts N) (hk : ∀ j o, A.get j = some o → (j = p ∨ S j) → A'.get j = A.get j) : Lx A' p S ts N := by
  obtain ⟨mi, io, lv, es, M, h1, h2, h3, h4, h5, h6⟩ := h
  exact ⟨mi, io, lv, es, M, h1.keep fun j o hj hc => hk j o hj (by
    rcases hc with e | e | e | ⟨e, he, e'⟩
    · exact .inl e
    · subst e; exact .inr h3
    · exact .inr (h4 j e)
    · subst e'; exact .inr (h5 e he)), h2, h3, h4, h5, h6⟩
theorem Lx.kp {A A' : Hp} {p : Nat} {S : Nat → Prop} {ts : List Tk} {N : Nat} (h : Lx A p S ts N) (hw : A.wf) (hk : Kp A A') : Lx A' p S ts N := h.keep fun j _ hj _ => hk.old j (hw.lt hj)

/-! ## a ticket out -/
theorem mem_live {es : List En} {e : En} : e ∈ live es ↔ e ∈ es ∧ e.gone = false := by
  unfold live
  rw [List.mem_filter]
  simp

theorem key_nodup {M : List (Nat × Int × Nat)} (h : (M.map fun x => (x.1, x.2.1)).Nodup) {x y : Nat × Int × Nat} (hx : x ∈ M) (hy : y ∈ M) (h1 : x.1 = y.1) (h2 : x.2.1 = y.2.1) : x = y := by
  obtain ⟨i, hi⟩ := List.getElem?_of_mem hx
  obtain ⟨j, hj⟩ := List.getElem?_of_mem hy
  have e1 : (M.map fun x => (x.1, x.2.1))[i]? = some (y.1, y.2.1) := by rw [List.getElem?_map, hi]; simp [h1, h2]
  have e2 : (M.map fun x => (x.1, x.2.1))[j]? = some (y.1, y.2.1) := by rw [List.getElem?_map, hj]; rfl
  have hij := (List.getElem?_inj (by rw [List.length_map]; exact (List.getElem?_eq_some_iff.1 hi).1) h).1 (e1.trans e2.symm)
  subst hij
  rw [hi] at hj
  exact Option.some.inj hj
theorem id_uniq {es : List En} (h : (es.map (·.id)).Nodup) {x y : En} (hx : x ∈ es) (hy : y ∈ es) (h1 : x.id = y.id) : x = y := by
  obtain ⟨i, hi⟩ := List.getElem?_of_mem hx
  obtain ⟨j, hj⟩ := List.getElem?_of_mem hy
  have e1 : (es.map (·.id))[i]? = some y.id := by rw [List.getElem?_map, hi]; simp [h1]
  have e2 : (es.map (·.id))[j]? = some y.id := by rw [List.getElem?_map, hj]; rfl
  have hij := (List.getElem?_inj (by rw [List.length_map]; exact (List.getElem?_eq_some_iff.1 hi).1) h).1 (e1.trans e2.symm)
  subst hij
  rw [hi] at hj
  exact Option.some.inj hj

theorem eraseIdx_key {M : List (Nat × Int × Nat)} (h : (M.map fun x => (x.1, x.2.1)).Nodup) : ∀ {j : Nat} {y : Nat × Int × Nat}, M[j]? = some y → ∀ x ∈ M.eraseIdx j, ¬ (x.1 = y.1 ∧ x.2.1 = y.2.1) := by
  induction M with
  | nil => intro j y hy; simp at hy
  | cons z M ih =>
    intro j y hy x hx
    simp only [List.map_cons, List.nodup_cons] at h
    cases j with
    | zero =>
      simp at hy
      subst hy
      simp only [List.eraseIdx_cons_zero] at hx
      rintro ⟨h1, h2⟩
      exact h.1 (List.mem_map.2 ⟨x, hx, by rw [h1, h2]⟩)
    | succ j =>
      simp only [List.eraseIdx_cons_succ, List.mem_cons] at hx
      simp only [List.getElem?_cons_succ] at hy
      rcases hx with rfl | hx
      · rintro ⟨h1, h2⟩
        exact h.1 (List.mem_map.2 ⟨y, List.mem_of_getElem? hy, by rw [h1, h2]⟩)
      · exact ih h.2 hy x hx

theorem mem_erase_ne {M : List (Nat × Int × Nat)} {x y : Nat × Int × Nat} {j : Nat} (hx : x ∈ M) (hy : M[j]? = some y) (hne : x ≠ y) : x ∈ M.eraseIdx j := by
  induction M generalizing j with
  | nil => cases hx
  | cons z M ih =>
    cases j with
    | zero =>
      simp at hy
      subst hy
      rw [List.eraseIdx_cons_zero]
      rcases List.mem_cons.1 hx with e | e
      · exact absurd e hne
      · exact e
    | succ j =>
      simp only [List.getElem?_cons_succ] at hy
      rw [List.eraseIdx_cons_succ]
      rcases List.mem_cons.1 hx with e | e
      · exact List.mem_cons.2 (.inl e)
      · exact List.mem_cons_of_mem _ (ih e hy)

/-- the look for a ticket that waits finds it, if its kind is one of those -/
theorem find_live {M : List (Nat × Int × Nat)} {al : List En} (h : MapOK M al) {e : En} (he : e ∈ al) (hg : e.gone = false) : findI e.k e.s M 0 = none ∧ kyd e.k = false ∨ (kyd e.k = true ∧ ∃ j, findI e.k e.s M 0 = some (j, e.id)) := by
  cases hk : kyd e.k with
  | true =>
    right
    have hm := h.of e he hg hk
    cases hf : findI e.k e.s M 0 with
    | none => exact absurd ⟨rfl, rfl⟩ (findI_none.1 hf _ hm)
    | some r =>
      obtain ⟨j, i⟩ := r
      have h2 := List.mem_of_getElem? (findI_some hf)
      have := key_nodup h.nd h2 hm rfl rfl
      simp only [Prod.mk.injEq, true_and] at this
      subst this
      exact ⟨rfl, j, rfl⟩
  | false =>
    left
    refine ⟨findI_none.2 fun x hx hxe => ?_, rfl⟩
    obtain ⟨y, _, _, y2, _, _, y5⟩ := h.isin x hx
    rw [y2, hxe.1, hk] at y5; cases y5

/-- what stays of the map's entries -/
theorem map_out {M : List (Nat × Int × Nat)} {al R : List En} (h : MapOK M al) (hnd : (al.map (·.id)).Nodup) {e : En} (he : e ∈ al) (hg : e.gone = false) (h1 : ∀ x, x ∈ R → x.gone = false → x ∈ al ∧ x.id ≠ e.id) (h2 : ∀ x, x ∈ al → x.gone = false → x.id ≠ e.id → x ∈ R) : MapOK (M' M e.k e.s) R := by
  rcases find_live h he hg with ⟨hf, hk⟩ | ⟨hk, j, hf⟩
  · have hM : M' M e.k e.s = M := by unfold M'; rw [hf]
    rw [hM]
    refine ⟨fun x hx => ?_, fun x hx hxg hxk => h.of x (h1 x hx hxg).1 hxg hxk, h.nd⟩
    obtain ⟨y, y0, y1, y2, y3, y4, y5⟩ := h.isin x hx
    refine ⟨y, h2 y y0 y4 (fun hid => ?_), y1, y2, y3, y4, y5⟩
    have := id_uniq hnd y0 he hid
    subst this
    rw [hk] at y5; cases y5
  · have hM : M' M e.k e.s = M.eraseIdx j := by unfold M'; rw [hf]
    rw [hM]
    have hj := findI_some hf
    have hsub : ∀ x ∈ M.eraseIdx j, x ∈ M := fun x hx => List.mem_of_mem_eraseIdx hx
    refine ⟨fun x hx => ?_, fun x hx hxg hxk => ?_, ?_⟩
    · obtain ⟨y, y0, y1, y2, y3, y4, y5⟩ := h.isin x (hsub x hx)
      refine ⟨y, h2 y y0 y4 (fun hid => ?_), y1, y2, y3, y4, y5⟩
      have := id_uniq hnd y0 he hid
      subst this
      exact eraseIdx_key h.nd hj x hx ⟨y2.symm, y3.symm⟩
    · obtain ⟨q1, q2⟩ := h1 x hx hxg
      refine mem_erase_ne (h.of x q1 hxg hxk) hj fun e' => q2 ?_
      simp only [Prod.mk.injEq] at e'
      exact e'.2.2
    · exact List.Nodup.sublist ((List.eraseIdx_sublist M j).map _) h.nd

/-- drop, as a step of a lane: al: all that the numbers and the map speak of; es: the list -/
theorem drop_step {call : CallT} (lf : Nat) {A : Hp} (hw : A.wf) {p mi : Nat} {io : Option Nat} {lv : Value} {al es : List En} {M : List (Nat × Int × Nat)}
    (hp : A.get p = some (.arr 109 (laneC lv mi (fun j => (cnt al j : Nat)) ((live al).length : Nat)) .own)) (hl : SlAt 112 1 A lv io (es.map fun e => ptr e.id) es.length) (hm : A.get mi = some (.map (M.map rowM) .own)) (he : ∀ e ∈ al, A.get e.id = some (.arr 117 e.cells .own))
    (hnd : (al.map (·.id)).Nodup) (hmk : MapOK M al) (hok : ∀ e ∈ al, 1 ≤ e.k ∧ e.k ≤ 7 ∧ 0 ≤ e.v ∧ e.v ≤ 4294967295) {e : En} (hea : e ∈ al) (hg : e.gone = false) {L1 L2 : List En} (hal : live al = L1 ++ e :: L2)
    (hsub : ∀ x ∈ es, x ∈ al) (hes : live (die e.id es) = L1 ++ L2) (hndE : (es.map (·.id)).Nodup) (hlen : es.length ≤ 100000000) (hal2 : al.length ≤ 100000001) (hlf : es.length < lf) :
    ∃ A' io' lv' es' r, kfn Tryd.bk.E call (Tryd.bk.inf 64) lf Tryd.f64 [ptr p, ptr e.id] A = some (r, A') ∧ A'.wf ∧ A.next ≤ A'.next ∧ (∀ j, j < A.next → j ≠ p → j ≠ mi → j ≠ e.id → A'.get j = A.get j) ∧ IsLane A' p mi io' lv' es' (M' M e.k e.s) ∧ live es' = L1 ++ L2 ∧ (io' = io ∨ ∀ j, io' = some j → A.next ≤ j) ∧
      (∀ x ∈ es', ∃ y ∈ es, y.id = x.id) ∧ es'.length ≤ es.length ∧ A'.get e.id = some (.arr 117 [.int .i64 (e.k : Nat), .int .u32 e.s, .int .u32 e.v, .bool true] .own) := by
  have hnn : (live al).length = (L1 ++ L2).length + 1 := by rw [hal]; simp; omega
  rw [hnn] at hp
  obtain ⟨k1, k7, _, _⟩ := hok e hea
  have hLle : (live al).length ≤ al.length := live_le al
  obtain ⟨A', io', lv', es', r, a1, a2, a3, a4, a5, a6, a7, a8, a9⟩ := ldrop (call := call) lf hw hp hl hm (fun x hx => he x (hsub x hx)) (he e hea) (by omega) (fun x hx hid => id_uniq hnd (hsub x hx) hea hid)
    (by rcases find_live hmk hea hg with ⟨h, _⟩ | ⟨_, h⟩; exact .inl h; exact .inr h) (n := (L1 ++ L2).length) (by omega) hlen hlf
  have hpl : p ≠ mi := by rintro rfl; rw [hp] at hm; cases hm
  have hidp : ∀ x ∈ al, x.id < A.next ∧ x.id ≠ p ∧ x.id ≠ mi := fun x hx => by
    refine ⟨hw.lt (he x hx), fun e1 => ?_, fun e1 => ?_⟩
    · have h1 := he x hx
      rw [e1, hp] at h1; cases h1
    · have h1 := he x hx
      rw [e1, hm] at h1; cases h1
  have hlive : live es' = L1 ++ L2 := by
    rcases a9 with ⟨rfl, _⟩ | ⟨rfl, _⟩
    · exact hes
    · rw [← hes]
      unfold live
      rw [List.filter_filter]
      simp
  have hids : ∀ x ∈ es', ∃ y ∈ es, y.id = x.id ∧ x = if y.id = e.id then { y with gone := true } else y := by
    intro x hx
    have : x ∈ die e.id es := by
      rcases a9 with ⟨rfl, _⟩ | ⟨rfl, _⟩
      · exact hx
      · exact (mem_live.1 hx).1
    unfold die at this
    obtain ⟨y, hy, rfl⟩ := List.mem_map.1 this
    exact ⟨y, hy, by split <;> rfl, rfl⟩
  have hnd' : (es'.map (·.id)).Nodup := by
    have h1 : ((die e.id es).map (·.id)).Nodup := by
      rw [show (die e.id es).map (·.id) = es.map (·.id) from die_ids e.id es id]
      exact hndE
    rcases a9 with ⟨rfl, _⟩ | ⟨rfl, _⟩
    · exact h1
    · exact List.Nodup.sublist ((List.filter_sublist).map _) h1
  refine ⟨A', io', lv', es', r, a1, a2, a3, a4, ⟨?_, a6, a7, fun x hx => ?_, hnd', ?_, fun x hx => ?_⟩, hlive, ?_, fun x hx => ?_, ?_, a8⟩
  · rw [a5, hlive]
    congr 4
    funext j
    have hc1 : cnt al j = L1.countP (fun x => x.k == j) + (if e.k = j then 1 else 0) + L2.countP (fun x => x.k == j) := by
      unfold cnt
      rw [hal, List.countP_append, List.countP_cons]
      by_cases h : e.k = j <;> simp [h] <;> omega
    have hc2 : cnt es' j = L1.countP (fun x => x.k == j) + L2.countP (fun x => x.k == j) := by
      unfold cnt
      rw [hlive, List.countP_append]
    have hle := cnt_le al j
    by_cases hj : j = e.k
    · subst hj
      rw [if_pos rfl]
      rw [if_pos rfl] at hc1
      rw [w64 (by omega) (by omega)]
      omega
    · rw [if_neg hj]
      rw [if_neg (fun h => hj h.symm)] at hc1
      omega
  · obtain ⟨y, hy, hid, rfl⟩ := hids x hx
    by_cases h : y.id = e.id
    · have := id_uniq hnd (hsub y hy) hea h
      subst this
      rw [if_pos rfl]
      exact a8
    · rw [if_neg h]
      obtain ⟨b1, b2, b3⟩ := hidp y (hsub y hy)
      rw [a4 y.id b1 b2 b3 h]
      exact he y (hsub y hy)
  · refine map_out hmk hnd hea hg (fun x hx hxg => ?_) fun x hx hxg hxe => ?_
    · obtain ⟨y, hy, hid, e1⟩ := hids x hx
      by_cases h : y.id = e.id
      · rw [if_pos h] at e1
        rw [e1] at hxg
        cases hxg
      · rw [if_neg h] at e1
        subst e1
        exact ⟨hsub x hy, h⟩
    · have h1 : x ∈ live al := mem_live.2 ⟨hx, hxg⟩
      rw [hal] at h1
      have h2 : x ∈ L1 ++ L2 := by
        rcases List.mem_append.1 h1 with h | h
        · exact List.mem_append_left _ h
        · rcases List.mem_cons.1 h with h | h
          · exact absurd (by rw [h]) hxe
          · exact List.mem_append_right _ h
      rw [← hlive] at h2
      exact (mem_live.1 h2).1
  · obtain ⟨y, hy, hid, rfl⟩ := hids x hx
    have := hok y (hsub y hy)
    split <;> exact this
  · rcases a9 with ⟨_, h⟩ | ⟨_, h⟩
    · exact .inl h
    · exact .inr h
  · obtain ⟨y, hy, hid, _⟩ := hids x hx
    exact ⟨y, hy, hid⟩
  · rcases a9 with ⟨rfl, _⟩ | ⟨rfl, _⟩
    · rw [die_len]; exact Nat.le_refl _
    · exact Nat.le_trans (live_le _) (by rw [die_len]; exact Nat.le_refl _)
end Go.Dn.Ln
end
