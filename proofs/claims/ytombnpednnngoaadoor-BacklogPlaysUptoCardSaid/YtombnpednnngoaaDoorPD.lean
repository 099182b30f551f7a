/-
  Part of the abstract machine for this program.
-/
import Derived.Test.YtombnpednnngoaaDoorPC

section
/-
  layer 11 (lane): a lane in memory; Put
-/
namespace Go.Dn.Ln
open Go.Proofs
set_option maxHeartbeats 4000000
set_option maxRecDepth 100000
attribute [local irreducible] Hp.get Hp.set Hp.push dappend dcopy dstore cellsAt callD loopD

/-- a ticket that waits, or waits no more: where it lies, its kind, stream, value -/
structure En where
  id : Nat
  k : Nat
  s : Int
  v : Int
  gone : Bool
def En.cells (e : En) : List Value := [.int .i64 (e.k : Nat), .int .u32 e.s, .int .u32 e.v, .bool e.gone]
def kyd (k : Nat) : Bool := onceB k || k == 3
def live (es : List En) : List En := es.filter fun e => !e.gone
def cnt (es : List En) (j : Nat) : Nat := (live es).countP fun e => e.k == j
def laneC (lv : Value) (mi : Nat) (f : Nat → Int) (n : Int) : List Value :=
  [lv, .map (some mi), .int .i64 (f 0), .int .i64 (f 1), .int .i64 (f 2), .int .i64 (f 3), .int .i64 (f 4), .int .i64 (f 5), .int .i64 (f 6), .int .i64 (f 7), .int .i64 n]
def rowM (x : Nat × Int × Nat) : Value × Value := (.agg #[.int .i64 (x.1 : Nat), .int .u32 x.2.1], ptr x.2.2)

theorem cnt_at {lv : Value} {mi : Nat} {f : Nat → Int} {n : Int} {k : Nat} (hk : k < 8) : cellsIn (laneC lv mi f n) (0 + 2 + k * 1) 1 = some [.int .i64 (f k)] := by
  match k, hk with
  | 0, _ => rfl
  | 1, _ => rfl
  | 2, _ => rfl
  | 3, _ => rfl
  | 4, _ => rfl
  | 5, _ => rfl
  | 6, _ => rfl
  | 7, _ => rfl
theorem cnt_put {lv : Value} {mi : Nat} {f : Nat → Int} {n x : Int} {k : Nat} (hk : k < 8) : storeIn Tryd.bk.E 3 (laneC lv mi f n) (0 + 2 + k * 1) (.int .i64 x) = some (laneC lv mi (fun j => if j = k then x else f j) n) := by
  match k, hk with
  | 0, _ => rfl
  | 1, _ => rfl
  | 2, _ => rfl
  | 3, _ => rfl
  | 4, _ => rfl
  | 5, _ => rfl
  | 6, _ => rfl
  | 7, _ => rfl
theorem once_at {k : Nat} (hk : k < 8) : cellsIn formsC (0 + k * 5 + 2) 1 = some [.bool (onceB k)] := by
  match k, hk with
  | 0, _ => rfl
  | 1, _ => rfl
  | 2, _ => rfl
  | 3, _ => rfl
  | 4, _ => rfl
  | 5, _ => rfl
  | 6, _ => rfl
  | 7, _ => rfl

theorem one_all {A : Hp} {i : Nat} {o : Ob} (h : A.get i = some o) {q : Nat → Bool} (hq : q i = true) : ([i].all fun y => (A.get y).isSome && q y) = true := by simp [h, hq]

theorem two_all {A : Hp} {i : Nat} {o : Ob} (h : A.get i = some o) {q : Nat → Bool} (hq : q i = true) : ([i, i].all fun y => (A.get y).isSome && q y) = true := by simp [h, hq]

/-! ## the map -/
def findI (k : Nat) (s : Int) : List (Nat × Int × Nat) → Nat → Option (Nat × Nat)
  | [], _ => none
  | x :: M, i => if x.1 = k ∧ x.2.1 = s then some (i, x.2.2) else findI k s M (i + 1)

theorem deq_key (k k' : Nat) (s s' : Int) : deqF Tryd.bk.E 20 111 (.agg #[.int .i64 (k : Nat), .int .u32 s]) (.agg #[.int .i64 (k' : Nat), .int .u32 s']) = some (decide (k' = k ∧ s' = s)) := by
  by_cases h1 : k' = k
  · by_cases h2 : s' = s
    · subst h1 h2
      rw [kdec (by exact ⟨rfl, rfl⟩)]
      conv => lhs; whnf
      rw [beq_self_eq_true]
      conv => lhs; whnf
      rw [beq_self_eq_true]
      try rfl
    · subst h1
      rw [kdecn (fun h => h2 h.2)]
      conv => lhs; whnf
      rw [beq_self_eq_true]
      conv => lhs; whnf
      rw [show (s == s') = false from beq_eq_false_iff_ne.2 fun e => h2 e.symm]
      try rfl
  · rw [kdecn (fun h => h1 h.1)]
    conv => lhs; whnf
    rw [show (((k : Nat) : Int) == ((k' : Nat) : Int)) = false from beq_eq_false_iff_ne.2 fun e => h1 (by omega)]
    try rfl

theorem dfind_at (k : Nat) (s : Int) : ∀ (M : List (Nat × Int × Nat)) (i : Nat), dfind Tryd.bk.E 111 (.agg #[.int .i64 (k : Nat), .int .u32 s]) (M.map rowM) i = some ((findI k s M i).map fun r => (r.1, ptr r.2))
  | [], _ => rfl
  | x :: M, i => by
    simp only [List.map_cons, rowM, dfind, deq_key, Option.bind_some, findI]
    by_cases h : x.1 = k ∧ x.2.1 = s
    · rw [kdec h, if_pos h]; rfl
    · rw [kdecn h, if_neg h, cond_false]
      exact dfind_at k s M (i + 1)

def lookV (M : List (Nat × Int × Nat)) (k : Nat) (s : Int) : Value := ((findI k s M 0).map fun r => ptr r.2).getD (.pointer none)

theorem look_at {A : Hp} {mi : Nat} {M : List (Nat × Int × Nat)} {m : Md} (hm : A.get mi = some (.map (M.map rowM) m)) (k : Nat) (s : Int) :
    dlookup Tryd.bk.E 105 A (.map (some mi)) (.agg #[.int .i64 (k : Nat), .int .u32 s]) false = some (lookV M k s, [mi]) := by
  have hmo : mapOf A (.map (some mi)) = some (M.map rowM, [mi]) := by
    simp only [mapOf, hm]
  unfold dlookup
  refine bind_of (a := Go.Dn.Tryd.ti105) rfl ?_
  show (Tryd.bk.E.T 111).bind _ = _
  refine bind_of (a := Go.Dn.Tryd.ti111) rfl ?_
  refine bind_of hmo ?_
  refine (congrArg (fun c => cond c _ _) (show keyOk Tryd.bk.E 20 111 (.agg #[.int .i64 (k : Nat), .int .u32 s]) = true from rfl)).trans ?_
  refine bind_of (dfind_at k s M 0) ?_
  unfold lookV
  cases hf : findI k s M 0 with
  | none => rfl
  | some r => rfl

theorem mput_at {A : Hp} {mi : Nat} {M : List (Nat × Int × Nat)} (hm : A.get mi = some (.map (M.map rowM) .own)) {k : Nat} {s : Int} (hn : findI k s M 0 = none) (i : Nat) :
    dmapUpdate Tryd.bk.E 105 A (.map (some mi)) (.agg #[.int .i64 (k : Nat), .int .u32 s]) (ptr i) = some (A.set mi (some (.map ((M ++ [(k, s, i)]).map rowM) .own))) := by
  unfold dmapUpdate
  refine bind_of (a := Go.Dn.Tryd.ti105) rfl ?_
  show (Tryd.bk.E.T 111).bind _ = _
  refine bind_of (a := Go.Dn.Tryd.ti111) rfl ?_
  rw [hm]
  refine (congrArg (fun c => cond c _ _) (show keyOk Tryd.bk.E 20 111 (.agg #[.int .i64 (k : Nat), .int .u32 s]) = true from rfl)).trans ?_
  refine bind_of (dfind_at k s M 0) ?_
  rw [hn, List.map_append]
  rfl

theorem mdel_at {A : Hp} {mi : Nat} {M : List (Nat × Int × Nat)} (hm : A.get mi = some (.map (M.map rowM) .own)) {k : Nat} {s : Int} {j i : Nat} (hn : findI k s M 0 = some (j, i)) :
    ddelete Tryd.bk.E 105 A (.map (some mi)) (.agg #[.int .i64 (k : Nat), .int .u32 s]) = some (A.set mi (some (.map ((M.eraseIdx j).map rowM) .own))) := by
  unfold ddelete
  refine bind_of (a := Go.Dn.Tryd.ti105) rfl ?_
  show (Tryd.bk.E.T 111).bind _ = _
  refine bind_of (a := Go.Dn.Tryd.ti111) rfl ?_
  refine (congrArg (fun c => cond c _ _) (show keyOk Tryd.bk.E 20 111 (.agg #[.int .i64 (k : Nat), .int .u32 s]) = true from rfl)).trans ?_
  simp only
  rw [hm]
  refine bind_of (dfind_at k s M 0) ?_
  rw [hn]
  simp only [Option.map_some]
  have : ∀ (l : List (Nat × Int × Nat)) (j : Nat), (l.map rowM).eraseIdx j = (l.eraseIdx j).map rowM := by
    intro l
    induction l with
    | nil => intro j; simp
    | cons x l ih => intro j; cases j with
      | zero => rfl
      | succ j => simp [ih]
  rw [this]

theorem findI_shift (k : Nat) (s : Int) : ∀ (M : List (Nat × Int × Nat)) (i : Nat), findI k s M (i + 1) = (findI k s M i).map fun r => (r.1 + 1, r.2)
  | [], _ => rfl
  | x :: M, i => by
    simp only [findI]
    split
    · rfl
    · exact findI_shift k s M (i + 1)
theorem findI_some {k : Nat} {s : Int} : ∀ {M : List (Nat × Int × Nat)} {j i : Nat}, findI k s M 0 = some (j, i) → M[j]? = some (k, s, i)
  | [], _, _, h => by cases h
  | x :: M, j, i, h => by
    simp only [findI] at h
    split at h
    · rename_i hx
      obtain ⟨a, b, c⟩ := x
      simp only at hx
      obtain ⟨rfl, rfl⟩ := hx
      simp only [Option.some.injEq, Prod.mk.injEq] at h
      obtain ⟨rfl, rfl⟩ := h
      rfl
    · rw [findI_shift] at h
      cases hf : findI k s M 0 with
      | none => rw [hf] at h; cases h
      | some r =>
        rw [hf] at h
        simp only [Option.map_some, Option.some.injEq, Prod.mk.injEq] at h
        obtain ⟨rfl, rfl⟩ := h
        exact findI_some (M := M) (j := r.1) (i := r.2) hf
theorem findI_none {k : Nat} {s : Int} : ∀ {M : List (Nat × Int × Nat)} {i : Nat}, findI k s M i = none ↔ ∀ x ∈ M, ¬ (x.1 = k ∧ x.2.1 = s)
  | [], _ => by simp [findI]
  | x :: M, i => by
    simp only [findI, List.mem_cons, forall_eq_or_imp]
    by_cases h : x.1 = k ∧ x.2.1 = s
    · rw [if_pos h]; simp [h]
    · rw [if_neg h, findI_none]; simp [h]

/-! ## a lane -/
structure MapOK (M : List (Nat × Int × Nat)) (es : List En) : Prop where
  isin : ∀ x ∈ M, ∃ e ∈ es, e.id = x.2.2 ∧ e.k = x.1 ∧ e.s = x.2.1 ∧ e.gone = false ∧ kyd e.k = true
  of : ∀ e ∈ es, e.gone = false → kyd e.k = true → (e.k, e.s, e.id) ∈ M
  nd : (M.map fun x => (x.1, x.2.1)).Nodup

structure IsLane (A : Hp) (p mi : Nat) (io : Option Nat) (lv : Value) (es : List En) (M : List (Nat × Int × Nat)) : Prop where
  hp : A.get p = some (.arr 109 (laneC lv mi (fun j => (cnt es j : Nat)) ((live es).length : Nat)) .own)
  hl : SlAt 112 1 A lv io (es.map fun e => ptr e.id) es.length
  hm : A.get mi = some (.map (M.map rowM) .own)
  he : ∀ e ∈ es, A.get e.id = some (.arr 117 e.cells .own)
  nd : (es.map (·.id)).Nodup
  mp : MapOK M es
  ok : ∀ e ∈ es, 1 ≤ e.k ∧ e.k ≤ 7 ∧ 0 ≤ e.v ∧ e.v ≤ 4294967295

/-- what a step on a lane leaves -/
structure LF (A A' : Hp) (p mi : Nat) (io : Option Nat) (es : List En) : Prop where
  wf : A'.wf
  nx : A.next ≤ A'.next
  old : ∀ j, j < A.next → j ≠ p → j ≠ mi → io ≠ some j → (∀ e ∈ es, e.id ≠ j) → A'.get j = A.get j
theorem LF.refl {A : Hp} (hw : A.wf) {p mi : Nat} {io : Option Nat} {es : List En} : LF A A p mi io es := ⟨hw, Nat.le_refl _, fun _ _ _ _ _ _ => rfl⟩
theorem LF.trans {A B C : Hp} {p mi : Nat} {io io' : Option Nat} {es es' : List En} (h : LF A B p mi io es) (k : LF B C p mi io' es') (hio : ∀ j, io' = some j → io = some j ∨ A.next ≤ j) (hes : ∀ e ∈ es', (∃ e' ∈ es, e'.id = e.id) ∨ A.next ≤ e.id) : LF A C p mi io es :=
  ⟨k.wf, Nat.le_trans h.nx k.nx, fun j hj h1 h2 h3 h4 => by
    rw [k.old j (Nat.lt_of_lt_of_le hj h.nx) h1 h2 (fun e => by rcases hio j e with e' | e'; exact h3 e'; omega) (fun e he heq => by
      rcases hes e he with ⟨e', he', q⟩ | q
      · exact h4 e' he' (q.trans heq)
      · omega), h.old j hj h1 h2 h3 h4]⟩
theorem Kp.lf {A B : Hp} (h : Kp A B) {p mi : Nat} {io : Option Nat} {es : List En} : LF A B p mi io es := ⟨h.wf, h.nx, fun j hj _ _ _ _ => h.old j hj⟩

theorem IsLane.pl {A : Hp} {p mi : Nat} {io : Option Nat} {lv : Value} {es : List En} {M : List (Nat × Int × Nat)} (h : IsLane A p mi io lv es M) (hw : A.wf) :
    p < A.next ∧ mi < A.next ∧ p ≠ mi ∧ (∀ i, io = some i → i < A.next ∧ i ≠ p ∧ i ≠ mi ∧ ∀ e ∈ es, e.id ≠ i) ∧ ∀ e ∈ es, e.id < A.next ∧ e.id ≠ p ∧ e.id ≠ mi := by
  refine ⟨hw.lt h.hp, hw.lt h.hm, ?_, fun i hi => ?_, fun e he => ⟨hw.lt (h.he e he), ?_, ?_⟩⟩
  · rintro rfl
    have := h.hp
    rw [h.hm] at this; cases this
  · subst hi
    obtain ⟨cs, hcs⟩ := h.hl.lt
    refine ⟨hw.lt hcs, ?_, ?_, fun e he => ?_⟩
    · rintro rfl
      have := h.hp
      rw [hcs] at this; cases this
    · rintro rfl
      have := h.hm
      rw [hcs] at this; cases this
    · rintro rfl
      have := h.he e he
      rw [hcs] at this; cases this
  · intro e1
    have h1 := h.he e he
    rw [e1, h.hp] at h1; cases h1
  · intro e1
    have h1 := h.he e he
    rw [e1, h.hm] at h1; cases h1

theorem IsLane.keep {A A' : Hp} {p mi : Nat} {io : Option Nat} {lv : Value} {es : List En} {M : List (Nat × Int × Nat)} (h : IsLane A p mi io lv es M)
    (hk : ∀ j o, A.get j = some o → (j = p ∨ j = mi ∨ io = some j ∨ ∃ e ∈ es, e.id = j) → A'.get j = A.get j) : IsLane A' p mi io lv es M :=
  ⟨by rw [hk p _ h.hp (.inl rfl)]; exact h.hp, h.hl.keep fun i hi => by subst hi; obtain ⟨cs, hcs⟩ := h.hl.lt; exact hk _ _ hcs (.inr (.inr (.inl rfl))), by rw [hk mi _ h.hm (.inr (.inl rfl))]; exact h.hm,
    fun e he => by rw [hk e.id _ (h.he e he) (.inr (.inr (.inr ⟨e, he, rfl⟩)))]; exact h.he e he, h.nd, h.mp, h.ok⟩
theorem IsLane.kp {A A' : Hp} {p mi : Nat} {io : Option Nat} {lv : Value} {es : List En} {M : List (Nat × Int × Nat)} (h : IsLane A p mi io lv es M) (hw : A.wf) (hk : Kp A A') : IsLane A' p mi io lv es M :=
  h.keep fun j _ hj _ => hk.old j (hw.lt hj)

theorem elE : ElT Tryd.bk.E 106 112 1 8 := ⟨⟨_, rfl, rfl⟩, ⟨_, _, rfl, rfl, rfl, rfl, rfl⟩, by decide⟩
theorem elE2 : ∃ i e2, Tryd.bk.E.T 106 = some i ∧ i.d = .slice e2 := ⟨_, _, rfl, rfl⟩

/-- one element more -/
theorem app_ptr {A : Hp} (hw : A.wf) {V : Value} {io : Option Nat} {us : List Value} {n : Nat} (hc : SlAt 112 1 A V io us n) (x : Value) (hn : n ≤ 1000000000) :
    ∃ i c A', dappend Tryd.bk.E 106 106 (A.push (.arr 112 [x] .own)) V (.slice (some ⟨A.next, 0, some 1⟩) 1 3) = some (.slice (some ⟨i, 0, some 1⟩) (n + 1) c, A') ∧ CanAt 112 1 A' (.slice (some ⟨i, 0, some 1⟩) (n + 1) c) (some i) (us ++ [x]) (n + 1) ∧ A.next ≤ i ∧ A'.wf ∧ A.next ≤ A'.next ∧
      (∀ j, j < A.next → io ≠ some j → A'.get j = A.get j) := by
  let B : Hp := A.push (.arr 112 [x] .own)
  have hcB : SlAt 112 1 B V io us n := hc.keep fun j hj => Hp.get_push_ne _ _ (by subst hj; obtain ⟨cs, hcs⟩ := hc.lt; have := hw.lt hcs; omega)
  have hx : elemsOf B 1 (.slice (some ⟨A.next, 0, some 1⟩) 1 3) = some (1, [x]) := (BsAt.at A.next 0 1 3 112 [x] [x] .own (Hp.get_push_same _ _) (by simp) rfl (by omega)).elems
  obtain ⟨v', A', i', a1, a2, a3, a4, a5, a6⟩ := append_sl elE elE2 hcB hx rfl (by omega) (by omega) (by unfold maxLen; omega)
  have n1 : B.next = A.next + 1 := by simp [B]
  cases a2 with
  | «at» i _ _ hg hl hp =>
    exact ⟨i', _, A', a1, .at i' _ _ hg hl hp, by omega, a5 (hw.push _), by omega, fun j hj hji => by rw [a6 j (by omega) hji]; exact Hp.get_push_ne _ _ (by omega)⟩
end Go.Dn.Ln
end

section
/-
  layer 11 (lane): Put
-/
namespace Go.Dn.Ln
open Go.Proofs
set_option maxHeartbeats 4000000
set_option maxRecDepth 100000
attribute [local irreducible] Hp.get Hp.set Hp.push dappend dcopy dstore cellsAt callD loopD dlookup dmapUpdate ddelete

def CheckOK (call : CallT) : Prop := (∀ {A : Hp}, A.wf → LC A → ∀ {k : Nat}, 1 ≤ k → k ≤ 7 → ∀ s v : Int, ∃ A', call 63 [.agg #[.int .i64 (k : Nat), .int .u32 s, .int .u32 v]] A = some (((badT k s v).map errV).getD .nilIface, A') ∧ Kp A A') ∧
  ∀ {A : Hp}, A.wf → LC A → ∀ {k : Int}, (k < 1 ∨ 7 < k) → ∀ s v : Int, ∃ A', call 63 [.agg #[.int .i64 k, .int .u32 s, .int .u32 v]] A = some (errV 7, A') ∧ Kp A A'

theorem live_snoc (es : List En) (e : En) (he : e.gone = false) : live (es ++ [e]) = live es ++ [e] := by
  unfold live
  rw [List.filter_append]
  simp [he]
theorem cnt_snoc (es : List En) (e : En) (he : e.gone = false) (j : Nat) : cnt (es ++ [e]) j = cnt es j + if e.k = j then 1 else 0 := by
  unfold cnt
  rw [live_snoc es e he, List.countP_append]
  by_cases h : e.k = j <;> simp [h]
theorem cnt_le (es : List En) (j : Nat) : cnt es j ≤ es.length := Nat.le_trans List.countP_le_length (List.length_filter_le _ _)
theorem live_le (es : List En) : (live es).length ≤ es.length := List.length_filter_le _ _
theorem w64 {x : Int} (h1 : -9223372036854775808 ≤ x) (h2 : x ≤ 9223372036854775807) : IntKind.i64.wrap x = x := by
  rw [IntKind.wrap_i64]; omega
theorem w32 {x : Int} (h1 : 0 ≤ x) (h2 : x ≤ 4294967295) : IntKind.u32.wrap x = x := by
  rw [IntKind.wrap_u32]
  omega

theorem LCkp {A A' : Hp} (hw : A.wf) (hC : LC A) (hk : Kp A A') : LC A' :=
  ⟨by rw [hk.old _ (hw.lt hC.forms)]; exact hC.forms, by rw [hk.old _ (hw.lt hC.eType)]; exact hC.eType, by rw [hk.old _ (hw.lt hC.eID)]; exact hC.eID, by rw [hk.old _ (hw.lt hC.eLength)]; exact hC.eLength,
    by rw [hk.old _ (hw.lt hC.eTwice)]; exact hC.eTwice, by rw [hk.old _ (hw.lt hC.eOver)]; exact hC.eOver⟩

section
variable {call : CallT} (hck : CheckOK call) {A : Hp} (hw : A.wf) (hC : LC A) {p mi : Nat} {io : Option Nat} {lv : Value} {es : List En} {M : List (Nat × Int × Nat)} (h : IsLane A p mi io lv es M)
include hck hw hC

theorem lput_kind (lf : Nat) (p : Nat) {k : Int} (hk : k < 1 ∨ 7 < k) (s v : Int) :
    ∃ A', kfn Tryd.bk.E call (Tryd.bk.inf 17) lf Tryd.f17 [ptr p, .agg #[.int .i64 k, .int .u32 s, .int .u32 v]] A = some (errV 7, A') ∧ Kp A A' := by
  let A1 : Hp := A.push (.arr 29 [.int .i64 k, .int .u32 s, .int .u32 v] .own)
  have k1 : Kp A A1 := Kp.push hw _
  have q1 : A1.get A.next = some (.arr 29 [.int .i64 k, .int .u32 s, .int .u32 v] .own) := Hp.get_push_same _ _
  have hl := hw.lt hC.forms
  obtain ⟨A2, c1, c2⟩ := hck.2 k1.wf ⟨by rw [k1.old _ (hw.lt hC.forms)]; exact hC.forms, by rw [k1.old _ (hw.lt hC.eType)]; exact hC.eType, by rw [k1.old _ (hw.lt hC.eID)]; exact hC.eID, by rw [k1.old _ (hw.lt hC.eLength)]; exact hC.eLength,
    by rw [k1.old _ (hw.lt hC.eTwice)]; exact hC.eTwice, by rw [k1.old _ (hw.lt hC.eOver)]; exact hC.eOver⟩ hk s v
  refine ⟨A2, ?run, k1.trans c2⟩
  case run =>
    conv => lhs; whnf
    refine bind_of (cellsAt_of q1 _ _) ?_
    conv => lhs; whnf
    refine bind_of c1 ?_
    conv => lhs; whnf
    rfl

theorem lput_bad (lf : Nat) (p : Nat) {k : Nat} (h1 : 1 ≤ k) (h7 : k ≤ 7) {s v : Int} {g : Nat} (hb : badT k s v = some g) :
    ∃ A', kfn Tryd.bk.E call (Tryd.bk.inf 17) lf Tryd.f17 [ptr p, .agg #[.int .i64 (k : Nat), .int .u32 s, .int .u32 v]] A = some (errV g, A') ∧ Kp A A' := by
  let A1 : Hp := A.push (.arr 29 [.int .i64 (k : Nat), .int .u32 s, .int .u32 v] .own)
  have k1 : Kp A A1 := Kp.push hw _
  have q1 : A1.get A.next = some (.arr 29 [.int .i64 (k : Nat), .int .u32 s, .int .u32 v] .own) := Hp.get_push_same _ _
  obtain ⟨A2, c1, c2⟩ := hck.1 k1.wf (LCkp hw hC k1) h1 h7 s v
  rw [hb] at c1
  refine ⟨A2, ?run, k1.trans c2⟩
  case run =>
    conv => lhs; whnf
    refine bind_of (cellsAt_of q1 _ _) ?_
    conv => lhs; whnf
    refine bind_of c1 ?_
    conv => lhs; whnf
    rfl

/-- up to the look into the map -/
theorem lput_pre {k : Nat} (h1 : 1 ≤ k) (h7 : k ≤ 7) {s v : Int} (hb : badT k s v = none) :
    ∃ A2, call 63 [.agg #[.int .i64 (k : Nat), .int .u32 s, .int .u32 v]] (A.push (.arr 29 [.int .i64 (k : Nat), .int .u32 s, .int .u32 v] .own)) = some (.nilIface, A2) ∧
      (A2.push (.arr 111 [.int .i64 0, .int .u32 0] .own)).get A2.next = some (.arr 111 [.int .i64 0, .int .u32 0] .own) ∧
      Kp A ((A2.push (.arr 111 [.int .i64 0, .int .u32 0] .own)).set A2.next (some (.arr 111 [.int .i64 (k : Nat), .int .u32 s] .own))) ∧
      ((A2.push (.arr 111 [.int .i64 0, .int .u32 0] .own)).set A2.next (some (.arr 111 [.int .i64 (k : Nat), .int .u32 s] .own))).get A.next = some (.arr 29 [.int .i64 (k : Nat), .int .u32 s, .int .u32 v] .own) ∧
      ((A2.push (.arr 111 [.int .i64 0, .int .u32 0] .own)).set A2.next (some (.arr 111 [.int .i64 (k : Nat), .int .u32 s] .own))).get A2.next = some (.arr 111 [.int .i64 (k : Nat), .int .u32 s] .own) ∧ A2.get A.next = some (.arr 29 [.int .i64 (k : Nat), .int .u32 s, .int .u32 v] .own) ∧
      ((A2.push (.arr 111 [.int .i64 0, .int .u32 0] .own)).set A2.next (some (.arr 111 [.int .i64 (k : Nat), .int .u32 s] .own))).next = A2.next + 1 ∧ A.next < A2.next := by
  let A1 : Hp := A.push (.arr 29 [.int .i64 (k : Nat), .int .u32 s, .int .u32 v] .own)
  have k1 : Kp A A1 := Kp.push hw _
  have n1 : A1.next = A.next + 1 := by simp [A1]
  have q1 : A1.get A.next = some (.arr 29 [.int .i64 (k : Nat), .int .u32 s, .int .u32 v] .own) := Hp.get_push_same _ _
  obtain ⟨A2, c1, c2⟩ := hck.1 k1.wf (LCkp hw hC k1) h1 h7 s v
  rw [hb] at c1
  have n2 := c2.nx
  have q2 : A2.get A.next = some (.arr 29 [.int .i64 (k : Nat), .int .u32 s, .int .u32 v] .own) := by rw [c2.old _ (by omega)]; exact q1
  have k23 : Kp A2 ((A2.push (.arr 111 [.int .i64 0, .int .u32 0] .own)).set A2.next (some (.arr 111 [.int .i64 (k : Nat), .int .u32 s] .own))) := (Kp.push c2.wf _).set (Hp.get_push_same _ _) (Nat.le_refl _) _
  exact ⟨A2, c1, Hp.get_push_same _ _, (k1.trans c2).trans k23, by rw [k23.old _ (by omega)]; exact q2, Hp.get_set_same _ _ _, q2, by simp, by omega⟩

include h in
theorem lput_twice (lf : Nat) {k : Nat} (h1 : 1 ≤ k) (h7 : k ≤ 7) {s v : Int} (hb : badT k s v = none) {j i : Nat} (hf : findI k s M 0 = some (j, i)) (ho : onceB k = true) :
    ∃ A', kfn Tryd.bk.E call (Tryd.bk.inf 17) lf Tryd.f17 [ptr p, .agg #[.int .i64 (k : Nat), .int .u32 s, .int .u32 v]] A = some (errV 2, A') ∧ Kp A A' := by
  have q1 : (A.push (.arr 29 [.int .i64 (k : Nat), .int .u32 s, .int .u32 v] .own)).get A.next = some (.arr 29 [.int .i64 (k : Nat), .int .u32 s, .int .u32 v] .own) := Hp.get_push_same _ _
  obtain ⟨A2, c1, z2, k3, q3, g3, q2, n3, n2⟩ := lput_pre hck hw hC h1 h7 hb
  let A3 : Hp := (A2.push (.arr 111 [.int .i64 0, .int .u32 0] .own)).set A2.next (some (.arr 111 [.int .i64 (k : Nat), .int .u32 s] .own))
  have L3 : IsLane A3 p mi io lv es M := h.kp hw k3
  have C3 : LC A3 := LCkp hw hC k3
  have hlk := look_at L3.hm k s
  rw [show lookV M k s = ptr i by unfold lookV; rw [hf]; rfl] at hlk
  have e3 : ((k : Nat) : Int) < ((8 : Nat) : Int) := by omega
  have hon := once_at (k := k) (by omega)
  rw [ho] at hon
  refine ⟨A3, ?run, k3⟩
  case run =>
    conv => lhs; whnf
    refine bind_of (cellsAt_of q1 _ _) ?_
    conv => lhs; whnf
    refine bind_of c1 ?_
    conv => lhs; whnf
    refine bind_of (cellsAt_of q2 _ _) ?_
    conv => lhs; whnf
    refine bind_of (cellsAt_of q2 _ _) ?_
    conv => lhs; whnf
    refine bind_of (dstore_of z2 (t := 111) (o := 0) (cs' := [.int .i64 (k : Nat), .int .u32 s]) rfl) ?_
    conv => lhs; whnf
    refine bind_of (cellsAt_of L3.hp _ _) ?_
    conv => lhs; whnf
    refine bind_of (cellsAt_of g3 _ _) ?_
    conv => lhs; whnf
    refine bind_of hlk ?_
    refine bif_of (one_all L3.hm rfl) ?_
    conv => lhs; whnf
    refine bind_of (cellsAt_of q3 _ _) ?_
    conv => lhs; whnf
    rw [kdec e3]
    conv => lhs; whnf
    refine bind_of ((cellsAt_of C3.forms _ _).trans hon) ?_
    conv => lhs; whnf
    refine bind_of (cellsAt_of C3.eTwice _ _) ?_
    conv => lhs; whnf
    rfl
end
end Go.Dn.Ln
end

section
/-
  layer 11 (lane): Put, a grant that is added, a ticket behind all others
-/
namespace Go.Dn.Ln
open Go.Proofs
set_option maxHeartbeats 4000000
set_option maxRecDepth 100000
attribute [local irreducible] Hp.get Hp.set Hp.push dappend dcopy dstore cellsAt callD loopD dlookup dmapUpdate ddelete

/-- more in one of the tickets -/
def addE (i : Nat) (d : Int) (es : List En) : List En := es.map fun e => if e.id = i then { e with v := e.v + d } else e
theorem addE_live (i : Nat) (d : Int) (es : List En) : live (addE i d es) = addE i d (live es) := by
  unfold live addE
  induction es with
  | nil => rfl
  | cons e es ih =>
    simp only [List.map_cons, List.filter_cons]
    by_cases h : e.id = i
    · simp only [h, if_true, ih]
      by_cases hg : e.gone <;> simp [hg, h]
    · simp only [h, if_false, ih]
      by_cases hg : e.gone <;> simp [hg, h]
theorem addE_cnt (i : Nat) (d : Int) (es : List En) (j : Nat) : cnt (addE i d es) j = cnt es j := by
  unfold cnt
  rw [addE_live]
  unfold addE
  rw [List.countP_map]
  congr 1
  funext e
  simp only [Function.comp_apply]
  split <;> rfl
theorem addE_ids (i : Nat) (d : Int) (es : List En) {β : Type} (f : Nat → β) : (addE i d es).map (fun e => f e.id) = es.map fun e => f e.id := by
  unfold addE
  rw [List.map_map]
  congr 1
  funext e
  simp only [Function.comp_apply]
  split <;> rfl

section
variable {call : CallT} (hck : CheckOK call) {A : Hp} (hw : A.wf) (hC : LC A) {p mi : Nat} {io : Option Nat} {lv : Value} {es : List En} {M : List (Nat × Int × Nat)} (h : IsLane A p mi io lv es M)
include hck hw hC h

theorem lput_grant (lf : Nat) {s v : Int} (hb : badT 3 s v = none) {j : Nat} {e : En} (he : e ∈ es) (heg : e.gone = false) (hek : e.k = 3) (hes : e.s = s) (hf : findI 3 s M 0 = some (j, e.id)) (hv0 : 0 ≤ v) :
    (v > 4294967295 - e.v → ∃ A', kfn Tryd.bk.E call (Tryd.bk.inf 17) lf Tryd.f17 [ptr p, .agg #[.int .i64 ((3 : Nat) : Int), .int .u32 s, .int .u32 v]] A = some (errV 3, A') ∧ Kp A A') ∧
    (¬ v > 4294967295 - e.v → ∃ A', kfn Tryd.bk.E call (Tryd.bk.inf 17) lf Tryd.f17 [ptr p, .agg #[.int .i64 ((3 : Nat) : Int), .int .u32 s, .int .u32 v]] A = some (.nilIface, A') ∧ LF A A' p mi io es ∧ IsLane A' p mi io lv (addE e.id v es) M) := by
  have q1 : (A.push (.arr 29 [.int .i64 ((3 : Nat) : Int), .int .u32 s, .int .u32 v] .own)).get A.next = some (.arr 29 [.int .i64 ((3 : Nat) : Int), .int .u32 s, .int .u32 v] .own) := Hp.get_push_same _ _
  obtain ⟨A2, c1, z2, k3, q3, g3, q2, n3, n2⟩ := lput_pre hck hw hC (k := 3) (by omega) (by omega) hb
  let A3 : Hp := (A2.push (.arr 111 [.int .i64 0, .int .u32 0] .own)).set A2.next (some (.arr 111 [.int .i64 ((3 : Nat) : Int), .int .u32 s] .own))
  have L3 : IsLane A3 p mi io lv es M := h.kp hw k3
  have C3 : LC A3 := LCkp hw hC k3
  have hlk := look_at L3.hm 3 s
  rw [show lookV M 3 s = ptr e.id by unfold lookV; rw [hf]; rfl] at hlk
  obtain ⟨_, _, o3, o4⟩ := h.ok e he
  have ge : A3.get e.id = some (.arr 117 [.int .i64 ((3 : Nat) : Int), .int .u32 s, .int .u32 e.v, .bool false] .own) := by
    rw [L3.he e he]
    unfold En.cells
    rw [hek, hes, heg]
  have hw1 : IntKind.u32.wrap (4294967295 - e.v) = 4294967295 - e.v := w32 (by omega) (by omega)
  refine ⟨fun hov => ⟨A3, ?run, k3⟩, fun hov => ?_⟩
  case run =>
    conv => lhs; whnf
    refine bind_of (cellsAt_of q1 _ _) ?_
    conv => lhs; whnf
    refine bind_of c1 ?_
    conv => lhs; whnf
    refine bind_of (cellsAt_of q2 _ _) ?_
    conv => lhs; whnf
    refine bind_of (cellsAt_of q2 _ _) ?_
    conv => lhs; whnf
    refine bind_of (dstore_of z2 (t := 111) (o := 0) (cs' := [.int .i64 ((3 : Nat) : Int), .int .u32 s]) rfl) ?_
    conv => lhs; whnf
    refine bind_of (cellsAt_of L3.hp _ _) ?_
    conv => lhs; whnf
    refine bind_of (cellsAt_of g3 _ _) ?_
    conv => lhs; whnf
    refine bind_of hlk ?_
    refine bif_of (one_all L3.hm rfl) ?_
    conv => lhs; whnf
    refine bind_of (cellsAt_of q3 _ _) ?_
    conv => lhs; whnf
    refine bind_of (cellsAt_of C3.forms _ _) ?_
    conv => lhs; whnf
    refine bind_of (cellsAt_of q3 _ _) ?_
    conv => lhs; whnf
    refine bind_of (cellsAt_of ge _ _) ?_
    conv => lhs; whnf
    rw [hw1, kdec hov]
    conv => lhs; whnf
    refine bind_of (cellsAt_of C3.eOver _ _) ?_
    conv => lhs; whnf
    rfl
  have hw2 : IntKind.u32.wrap (e.v + v) = e.v + v := w32 (by omega) (by omega)
  let A4 : Hp := A3.set e.id (some (.arr 117 [.int .i64 ((3 : Nat) : Int), .int .u32 s, .int .u32 (e.v + v), .bool false] .own))
  obtain ⟨pl1, pl2, pl3, pl4, pl5⟩ := L3.pl k3.wf
  obtain ⟨pe1, pe2, pe3⟩ := pl5 e he
  have hle := h.pl hw
  have keep : ∀ j, j ≠ e.id → A4.get j = A3.get j := fun j hj => Hp.get_set_ne _ _ hj
  have hmem : ∀ x ∈ addE e.id v es, ∃ y ∈ es, x = if y.id = e.id then { y with v := y.v + v } else y := fun x hx => by
    unfold addE at hx
    obtain ⟨y, hy, rfl⟩ := List.mem_map.1 hx
    exact ⟨y, hy, rfl⟩
  have uniq : ∀ y ∈ es, y.id = e.id → y = e := fun y hy hid => by
    have hnd := h.nd
    obtain ⟨a, ha⟩ := List.getElem?_of_mem hy
    obtain ⟨b, hb'⟩ := List.getElem?_of_mem he
    have h1 : (es.map (·.id))[a]? = some e.id := by rw [List.getElem?_map, ha]; simp [hid]
    have h2 : (es.map (·.id))[b]? = some e.id := by rw [List.getElem?_map, hb']; rfl
    have hab := (List.getElem?_inj (by rw [List.length_map]; exact (List.getElem?_eq_some_iff.1 ha).1) hnd).1 (h1.trans h2.symm)
    subst hab
    rw [ha] at hb'
    exact Option.some.inj hb'
  refine ⟨A4, ?run2, ⟨k3.wf.put ge _, by rw [Hp.next_set]; exact k3.nx, fun j hj _ _ _ hje => (keep j (fun e' => hje e he e'.symm)).trans (k3.old j hj)⟩, ⟨?hp, ?hl, ?hm, ?he, ?nd, ?mk, ?ok⟩⟩
  case hp =>
    rw [keep p pe2.symm, L3.hp]
    simp only [addE_cnt, addE_live]
    unfold addE
    rw [List.length_map]
  case hl =>
    have e1 : (addE e.id v es).map (fun e => ptr e.id) = es.map fun e => ptr e.id := addE_ids _ _ _ ptr
    have e2 : (addE e.id v es).length = es.length := by unfold addE; rw [List.length_map]
    rw [e1, e2]
    exact L3.hl.keep fun i hi => keep i ((pl4 i hi).2.2.2 e he).symm
  case hm => rw [keep mi pe3.symm]; exact L3.hm
  case he =>
    intro x hx
    obtain ⟨y, hy, rfl⟩ := hmem x hx
    by_cases hid : y.id = e.id
    · have := uniq y hy hid
      subst this
      simp only [if_true]
      show A4.get y.id = _
      rw [Hp.get_set_same]
      unfold En.cells
      simp only [hek, hes, heg]
    · rw [if_neg hid, keep _ hid]
      exact L3.he y hy
  case nd =>
    have e1 : (addE e.id v es).map (fun e => e.id) = es.map fun e => e.id := addE_ids _ _ _ id
    rw [e1]
    exact h.nd
  case mk =>
    refine ⟨fun x hx => ?_, fun x hx hg hk => ?_, h.mp.nd⟩
    · obtain ⟨y, hy, y1, y2, y3, y4, y5⟩ := h.mp.isin x hx
      refine ⟨if y.id = e.id then { y with v := y.v + v } else y, List.mem_map.2 ⟨y, hy, rfl⟩, ?_⟩
      split <;> exact ⟨y1, y2, y3, y4, y5⟩
    · obtain ⟨y, hy, rfl⟩ := hmem x hx
      have := h.mp.of y hy
      split at hg <;> split at hk <;> split <;> first | exact this hg hk | contradiction
  case ok =>
    intro x hx
    obtain ⟨y, hy, rfl⟩ := hmem x hx
    have := h.ok y hy
    split
    · rename_i hid
      have := uniq y hy hid
      subst this
      simp only
      omega
    · exact this
  case run2 =>
    conv => lhs; whnf
    refine bind_of (cellsAt_of q1 _ _) ?_
    conv => lhs; whnf
    refine bind_of c1 ?_
    conv => lhs; whnf
    refine bind_of (cellsAt_of q2 _ _) ?_
    conv => lhs; whnf
    refine bind_of (cellsAt_of q2 _ _) ?_
    conv => lhs; whnf
    refine bind_of (dstore_of z2 (t := 111) (o := 0) (cs' := [.int .i64 ((3 : Nat) : Int), .int .u32 s]) rfl) ?_
    conv => lhs; whnf
    refine bind_of (cellsAt_of L3.hp _ _) ?_
    conv => lhs; whnf
    refine bind_of (cellsAt_of g3 _ _) ?_
    conv => lhs; whnf
    refine bind_of hlk ?_
    refine bif_of (one_all L3.hm rfl) ?_
    conv => lhs; whnf
    refine bind_of (cellsAt_of q3 _ _) ?_
    conv => lhs; whnf
    refine bind_of (cellsAt_of C3.forms _ _) ?_
    conv => lhs; whnf
    refine bind_of (cellsAt_of q3 _ _) ?_
    conv => lhs; whnf
    refine bind_of (cellsAt_of ge _ _) ?_
    conv => lhs; whnf
    rw [hw1, kdecn hov]
    conv => lhs; whnf
    refine bind_of (cellsAt_of ge _ _) ?_
    conv => lhs; whnf
    refine bind_of (cellsAt_of q3 _ _) ?_
    conv => lhs; whnf
    rw [hw2]
    refine bind_of (dstore_of ge (t := 27) (o := 2) (cs' := [.int .i64 ((3 : Nat) : Int), .int .u32 s, .int .u32 (e.v + v), .bool false]) rfl) ?_
    conv => lhs; whnf
    rfl

theorem lput_new (lf : Nat) {k : Nat} (h1 : 1 ≤ k) (h7 : k ≤ 7) {s v : Int} (hb : badT k s v = none) (hf : findI k s M 0 = none) (hv0 : 0 ≤ v) (hv1 : v ≤ 4294967295) (hlen : es.length ≤ 100000000) :
    ∃ A' i c id, kfn Tryd.bk.E call (Tryd.bk.inf 17) lf Tryd.f17 [ptr p, .agg #[.int .i64 (k : Nat), .int .u32 s, .int .u32 v]] A = some (.nilIface, A') ∧ LF A A' p mi io es ∧ A.next ≤ id ∧ A.next ≤ i ∧
      IsLane A' p mi (some i) (.slice (some ⟨i, 0, some 1⟩) (es.length + 1) c) (es ++ [⟨id, k, s, v, false⟩]) (if kyd k then M ++ [(k, s, id)] else M) := by
  have q1 : (A.push (.arr 29 [.int .i64 (k : Nat), .int .u32 s, .int .u32 v] .own)).get A.next = some (.arr 29 [.int .i64 (k : Nat), .int .u32 s, .int .u32 v] .own) := Hp.get_push_same _ _
  obtain ⟨A2, c1, z2, k3, q3, g3, q2, n3, n2⟩ := lput_pre hck hw hC h1 h7 hb
  let K : List Value := [.int .i64 (k : Nat), .int .u32 s]
  let A3 : Hp := (A2.push (.arr 111 [.int .i64 0, .int .u32 0] .own)).set A2.next (some (.arr 111 K .own))
  have L3 : IsLane A3 p mi io lv es M := h.kp hw k3
  have hlk := look_at L3.hm k s
  rw [show lookV M k s = .pointer none by unfold lookV; rw [hf]; rfl] at hlk
  have e3 : ((k : Nat) : Int) < ((8 : Nat) : Int) := by omega
  let E0 : List Value := [.int .i64 (k : Nat), .int .u32 s, .int .u32 v, .bool false]
  let A4 : Hp := A3.push (.arr 117 E0 .own)
  have k34 : Kp A3 A4 := Kp.push k3.wf _
  have k4 : Kp A A4 := k3.trans k34
  have n4 : A4.next = A3.next + 1 := by simp [A4]
  have hA3 : A.next ≤ A3.next := k3.nx
  have n3' : A3.next = A2.next + 1 := n3
  have L4 : IsLane A4 p mi io lv es M := L3.kp k3.wf k34
  have C4 : LC A4 := LCkp hw hC k4
  have q4 : A4.get A.next = some (.arr 29 [.int .i64 (k : Nat), .int .u32 s, .int .u32 v] .own) := by rw [k34.old _ (by omega)]; exact q3
  have g4 : A4.get A2.next = some (.arr 111 K .own) := by rw [k34.old _ (by omega)]; exact g3
  have x4 : A4.get A3.next = some (.arr 117 E0 .own) := Hp.get_push_same _ _
  obtain ⟨pl1, pl2, pl3, pl4, pl5⟩ := h.pl hw
  have hon := once_at (k := k) (by omega)
  -- the map
  obtain ⟨A5, m1, m2, m3, m4, m5, m6⟩ : ∃ A5, (kyd k = true → dmapUpdate Tryd.bk.E 105 A4 (.map (some mi)) (.agg #[.int .i64 (k : Nat), .int .u32 s]) (ptr A3.next) = some A5) ∧ (kyd k = false → A5 = A4) ∧ A5.wf ∧ A5.next = A4.next ∧ (∀ j, j ≠ mi → A5.get j = A4.get j) ∧
      A5.get mi = some (.map ((if kyd k then M ++ [(k, s, A3.next)] else M).map rowM) .own) := by
    cases hk : kyd k with
    | true => exact ⟨_, fun _ => mput_at L4.hm hf A3.next, by simp, k4.wf.put L4.hm _, Hp.next_set _ _ _, fun j hj => Hp.get_set_ne _ _ hj, Hp.get_set_same _ _ _⟩
    | false => exact ⟨A4, by simp, fun _ => rfl, k4.wf, rfl, fun _ _ => rfl, L4.hm⟩
  have hp5 : A5.get p = some (.arr 109 (laneC lv mi (fun j => (cnt es j : Nat)) ((live es).length : Nat)) .own) := by rw [m5 p pl3]; exact L4.hp
  have hl5 : SlAt 112 1 A5 lv io (es.map fun e => ptr e.id) es.length := L4.hl.keep fun i hi => m5 i (pl4 i hi).2.2.1
  obtain ⟨i, c, A6, a1, a2, a3, a4, a5, a6⟩ := app_ptr m3 hl5 (ptr A3.next) (by omega)
  obtain ⟨sa, sc, rfl⟩ := h.hl.sl3
  let nl : Value := .slice (some ⟨i, 0, some 1⟩) (es.length + 1) c
  have hp6 : A6.get p = some (.arr 109 (laneC (.slice sa es.length sc) mi (fun j => (cnt es j : Nat)) ((live es).length : Nat)) .own) := by
    rw [a6 p (by omega) (fun e => (pl4 p e).2.1 rfl)]; exact hp5
  let f0 : Nat → Int := fun j => (cnt es j : Nat)
  let f1 : Nat → Int := fun j => if j = k then IntKind.i64.wrap (f0 k + 1) else f0 j
  let n0 : Int := ((live es).length : Nat)
  let A7 : Hp := A6.set p (some (.arr 109 (laneC nl mi f0 n0) .own))
  let A8 : Hp := A7.set p (some (.arr 109 (laneC nl mi f1 n0) .own))
  let A9 : Hp := A8.set p (some (.arr 109 (laneC nl mi f1 (IntKind.i64.wrap (n0 + 1))) .own))
  have g7 : A7.get p = some (.arr 109 (laneC nl mi f0 n0) .own) := Hp.get_set_same _ _ _
  have g8 : A8.get p = some (.arr 109 (laneC nl mi f1 n0) .own) := Hp.get_set_same _ _ _
  have g9 : A9.get p = some (.arr 109 (laneC nl mi f1 (IntKind.i64.wrap (n0 + 1))) .own) := Hp.get_set_same _ _ _
  have o9 : ∀ j, j ≠ p → A9.get j = A6.get j := fun j hj => by
    rw [show A9.get j = A8.get j from Hp.get_set_ne _ _ hj, show A8.get j = A7.get j from Hp.get_set_ne _ _ hj]
    exact Hp.get_set_ne _ _ hj
  have w9 : A9.wf := ((a4.put hp6 _).put g7 _).put g8 _
  have nx9 : A9.next = A6.next := by simp [A9, A8, A7]
  have q6 : A6.get A.next = some (.arr 29 [.int .i64 (k : Nat), .int .u32 s, .int .u32 v] .own) := by
    rw [a6 _ (by omega) (fun e => by have := (pl4 _ e).1; omega), m5 _ (by omega)]; exact q4
  have q7 : A7.get A.next = some (.arr 29 [.int .i64 (k : Nat), .int .u32 s, .int .u32 v] .own) := by rw [show A7.get A.next = A6.get A.next from Hp.get_set_ne _ _ (by omega)]; exact q6
  have o6 : ∀ j, j < A.next → j ≠ mi → io ≠ some j → A6.get j = A.get j := fun j hj hm hi => by rw [a6 j (by omega) hi, m5 j hm, k4.old j hj]
  have x6 : A6.get A3.next = some (.arr 117 E0 .own) := by rw [a6 _ (by omega) (fun e => by have := (pl4 _ e).1; omega), m5 _ (by omega)]; exact x4
  refine ⟨A9, i, c, A3.next, ?run, ⟨w9, by omega, fun j hj hjp hjm hji hje => by rw [o9 j hjp, o6 j hj hjm hji]⟩, hA3, by omega, ⟨?hp, ?hl, ?hm, ?he, ?nd, ?mk, ?ok⟩⟩
  case hp =>
    rw [g9]
    have hc := cnt_le es k
    have hlv := live_le es
    have e1 : f1 = fun j => ((cnt (es ++ [⟨A3.next, k, s, v, false⟩]) j : Nat) : Int) := by
      funext j
      show (if j = k then IntKind.i64.wrap (f0 k + 1) else f0 j) = _
      rw [cnt_snoc _ _ rfl]
      by_cases hj : j = k
      · subst hj
        rw [if_pos rfl, if_pos rfl, w64 (by show _ ≤ ((cnt es j : Nat) : Int) + 1; omega) (by show ((cnt es j : Nat) : Int) + 1 ≤ _; omega)]
        show ((cnt es j : Nat) : Int) + 1 = _
        omega
      · rw [if_neg hj, if_neg (fun e => hj e.symm)]
        show ((cnt es j : Nat) : Int) = _
        omega
    have e2 : IntKind.i64.wrap (n0 + 1) = ((live (es ++ [⟨A3.next, k, s, v, false⟩])).length : Nat) := by
      rw [live_snoc _ _ rfl, List.length_append, w64 (by show _ ≤ (((live es).length : Nat) : Int) + 1; omega) (by show (((live es).length : Nat) : Int) + 1 ≤ _; omega)]
      show (((live es).length : Nat) : Int) + 1 = _
      simp
    rw [e1, e2]
  case hl =>
    rw [List.map_append, List.length_append]
    exact (a2.keep fun j hj => by cases hj; exact o9 i (by omega)).slAt
  case hm => rw [o9 mi pl3.symm, a6 mi (by omega) (fun e => (pl4 mi e).2.2.1 rfl)]; exact m6
  case he =>
    intro e he
    rcases List.mem_append.1 he with he | he
    · obtain ⟨b1, b2, b3⟩ := pl5 e he
      rw [o9 _ b2, o6 _ b1 b3 (fun e' => (pl4 _ e').2.2.2 e he rfl)]
      exact h.he e he
    · simp only [List.mem_singleton] at he
      subst he
      show A9.get A3.next = _
      rw [o9 _ (by omega)]
      exact x6
  case nd =>
    rw [List.map_append]
    refine List.nodup_append.2 ⟨h.nd, by simp, fun a ha b hb' => ?_⟩
    obtain ⟨e, he, rfl⟩ := List.mem_map.1 ha
    simp only [List.map_cons, List.map_nil, List.mem_singleton] at hb'
    have := (pl5 e he).1
    omega
  case mk =>
    have hold : ∀ x ∈ M, ∃ e ∈ es ++ [⟨A3.next, k, s, v, false⟩], e.id = x.2.2 ∧ e.k = x.1 ∧ e.s = x.2.1 ∧ e.gone = false ∧ kyd e.k = true := fun x hx => by
      obtain ⟨e, he, r⟩ := h.mp.isin x hx
      exact ⟨e, List.mem_append_left _ he, r⟩
    cases hk : kyd k with
    | true =>
      refine ⟨fun x hx => ?_, fun e he hg hk' => ?_, ?_⟩
      · rcases List.mem_append.1 (show x ∈ M ++ [(k, s, A3.next)] from hx) with hx | hx
        · exact hold x hx
        · simp only [List.mem_singleton] at hx
          subst hx
          exact ⟨_, List.mem_append_right _ (List.mem_singleton_self _), rfl, rfl, rfl, rfl, hk⟩
      · show (e.k, e.s, e.id) ∈ M ++ [(k, s, A3.next)]
        rcases List.mem_append.1 he with he | he
        · exact List.mem_append_left _ (h.mp.of e he hg hk')
        · simp only [List.mem_singleton] at he
          subst he
          exact List.mem_append_right _ (List.mem_singleton_self _)
      · show ((M ++ [(k, s, A3.next)]).map fun x => (x.1, x.2.1)).Nodup
        rw [List.map_append]
        refine List.nodup_append.2 ⟨h.mp.nd, by simp, fun a ha b hb' => ?_⟩
        obtain ⟨x, hx, rfl⟩ := List.mem_map.1 ha
        simp only [List.map_cons, List.map_nil, List.mem_singleton] at hb'
        subst hb'
        intro e
        simp only [Prod.mk.injEq] at e
        exact findI_none.1 hf x hx e
    | false =>
      refine ⟨fun x hx => hold x (by simpa using hx), fun e he hg hk' => ?_, by simpa using h.mp.nd⟩
      rcases List.mem_append.1 he with he | he
      · simpa using h.mp.of e he hg hk'
      · simp only [List.mem_singleton] at he
        subst he
        rw [hk] at hk'; cases hk'
  case ok =>
    intro e he
    rcases List.mem_append.1 he with he | he
    · exact h.ok e he
    · simp only [List.mem_singleton] at he
      subst he
      exact ⟨h1, h7, hv0, hv1⟩
  case run =>
    conv => lhs; whnf
    refine bind_of (cellsAt_of q1 _ _) ?_
    conv => lhs; whnf
    refine bind_of c1 ?_
    conv => lhs; whnf
    refine bind_of (cellsAt_of q2 _ _) ?_
    conv => lhs; whnf
    refine bind_of (cellsAt_of q2 _ _) ?_
    conv => lhs; whnf
    refine bind_of (dstore_of z2 (t := 111) (o := 0) (cs' := K) rfl) ?_
    conv => lhs; whnf
    refine bind_of (cellsAt_of L3.hp _ _) ?_
    conv => lhs; whnf
    refine bind_of (cellsAt_of g3 _ _) ?_
    conv => lhs; whnf
    refine bind_of hlk ?_
    refine bif_of (one_all L3.hm rfl) ?_
    conv => lhs; whnf
    refine bind_of (cellsAt_of q3 _ _) ?_
    conv => lhs; whnf
    refine bind_of (cellsAt_of q4 _ _) ?_
    conv => lhs; whnf
    rw [kdec e3]
    conv => lhs; whnf
    refine bind_of ((cellsAt_of C4.forms _ _).trans hon) ?_
    conv => lhs; whnf
    cases ho : onceB k with
    | true =>
      have hm1 := m1 (by unfold kyd; rw [ho]; rfl)
      conv => lhs; whnf
      refine bind_of (cellsAt_of L4.hp _ _) ?_
      conv => lhs; whnf
      refine bind_of (cellsAt_of g4 _ _) ?_
      conv => lhs; whnf
      refine bind_of (dstep_mu rfl rfl rfl rfl hm1) ?_
      conv => lhs; whnf
      refine bind_of (cellsAt_of hp5 _ _) ?_
      conv => lhs; whnf
      refine bind_of a1 ?_
      conv => lhs; whnf
      refine bind_of (dstore_of hp6 (t := 106) (o := 0) (cs' := laneC nl mi f0 n0) rfl) ?_
      conv => lhs; whnf
      refine bind_of (cellsAt_of q7 _ _) ?_
      conv => lhs; whnf
      rw [kdec e3]
      conv => lhs; whnf
      refine bind_of ((cellsAt_of g7 _ _).trans (cnt_at (by omega))) ?_
      conv => lhs; whnf
      rw [kdec e3]
      conv => lhs; whnf
      refine bind_of (dstore_of g7 (t := 3) (cs' := laneC nl mi f1 n0) (cnt_put (by omega))) ?_
      conv => lhs; whnf
      refine bind_of (cellsAt_of g8 _ _) ?_
      conv => lhs; whnf
      refine bind_of (dstore_of g8 (t := 3) (o := 10) (cs' := laneC nl mi f1 (IntKind.i64.wrap (n0 + 1))) rfl) ?_
      conv => lhs; whnf
      rfl
    | false =>
      conv => lhs; whnf
      refine bind_of (cellsAt_of q4 _ _) ?_
      conv => lhs; whnf
      by_cases hk3 : k = 3
      · rw [show (((k : Nat) : Int) == 3) = true from beq_iff_eq.2 (by omega)]
        have hm1 := m1 (by unfold kyd; rw [ho]; simpa using hk3)
        conv => lhs; whnf
        refine bind_of (cellsAt_of L4.hp _ _) ?_
        conv => lhs; whnf
        refine bind_of (cellsAt_of g4 _ _) ?_
        conv => lhs; whnf
        refine bind_of (dstep_mu rfl rfl rfl rfl hm1) ?_
        conv => lhs; whnf
        refine bind_of (cellsAt_of hp5 _ _) ?_
        conv => lhs; whnf
        refine bind_of a1 ?_
        conv => lhs; whnf
        refine bind_of (dstore_of hp6 (t := 106) (o := 0) (cs' := laneC nl mi f0 n0) rfl) ?_
        conv => lhs; whnf
        refine bind_of (cellsAt_of q7 _ _) ?_
        conv => lhs; whnf
        rw [kdec e3]
        conv => lhs; whnf
        refine bind_of ((cellsAt_of g7 _ _).trans (cnt_at (by omega))) ?_
        conv => lhs; whnf
        rw [kdec e3]
        conv => lhs; whnf
        refine bind_of (dstore_of g7 (t := 3) (cs' := laneC nl mi f1 n0) (cnt_put (by omega))) ?_
        conv => lhs; whnf
        refine bind_of (cellsAt_of g8 _ _) ?_
        conv => lhs; whnf
        refine bind_of (dstore_of g8 (t := 3) (o := 10) (cs' := laneC nl mi f1 (IntKind.i64.wrap (n0 + 1))) rfl) ?_
        conv => lhs; whnf
        rfl
      · rw [show (((k : Nat) : Int) == 3) = false from beq_eq_false_iff_ne.2 (by omega)]
        obtain rfl := m2 (by unfold kyd; rw [ho]; simpa using hk3)
        conv => lhs; whnf
        refine bind_of (cellsAt_of hp5 _ _) ?_
        conv => lhs; whnf
        refine bind_of a1 ?_
        conv => lhs; whnf
        refine bind_of (dstore_of hp6 (t := 106) (o := 0) (cs' := laneC nl mi f0 n0) rfl) ?_
        conv => lhs; whnf
        refine bind_of (cellsAt_of q7 _ _) ?_
        conv => lhs; whnf
        rw [kdec e3]
        conv => lhs; whnf
        refine bind_of ((cellsAt_of g7 _ _).trans (cnt_at (by omega))) ?_
        conv => lhs; whnf
        rw [kdec e3]
        conv => lhs; whnf
        refine bind_of (dstore_of g7 (t := 3) (cs' := laneC nl mi f1 n0) (cnt_put (by omega))) ?_
        conv => lhs; whnf
        refine bind_of (cellsAt_of g8 _ _) ?_
        conv => lhs; whnf
        refine bind_of (dstore_of g8 (t := 3) (o := 10) (cs' := laneC nl mi f1 (IntKind.i64.wrap (n0 + 1))) rfl) ?_
        conv => lhs; whnf
        rfl
end
end Go.Dn.Ln
end
