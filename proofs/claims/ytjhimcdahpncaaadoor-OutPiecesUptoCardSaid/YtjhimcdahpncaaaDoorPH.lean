/-
  Part of the abstract machine for this program.
-/
import Derived.Test.YtjhimcdahpncaaaDoorPF
import Derived.Test.YtjhimcdahpncaaaDoorDnJ
import Derived.Test.YtjhimcdahpncaaaDoorPG
import Derived.Test.YtjhimcdahpncaaaDoorPD

section
/-
  'step', whatever the op; the functions known
-/
namespace Go.Dn.Pipe
open Go.Proofs
set_option maxHeartbeats 4000000
set_option maxRecDepth 100000
attribute [local irreducible] Hp.get Hp.set Hp.push dappend dcopy dstore cellsAt callD loopD dstring

/-- the document's pipe as a value, and the pipe beside it -/
structure PW (P : Nat) (all : List Value) (g : Nat) (ct : Bool) (V : Value) (A : Hp) : Prop where
  form : ∃ a c, V = .slice a all.length c
  bs : BsAt A V all
  typ : Typ5 A V
  bytes : IsB all
  gl : g ≤ all.length
  pipe : A.get P = some (.abs 1 (pxOf all g ct).dat)

def StepOK (call : CallT) (N : Nat) : Prop := ∀ {P : Nat} {A : Hp} {all : List Value} {g : Nat} {ct : Bool} {V : Value}, A.wf → PW P all g ct V A → ∀ {a2 : Option Addr} {c2 : Nat} {us : List Value} (k n : Int), IsB us → BsAt A (.slice a2 us.length c2) us → n ≤ 9223372036854775807 →
  all.length + us.length ≤ 100000000 → all.length + us.length < N →
  ∃ all' g' ct' V' A', call 25 [ptr P, .agg #[V, .int .i64 g, .bool ct], .agg #[.int .i64 k, .slice a2 us.length c2, .int .i64 n]] A = some (.tuple #[.agg #[V', .int .i64 (g' : Nat), .bool ct'], .bool true], A') ∧
    KP P A A' ∧ PW P all' g' ct' V' A' ∧ all'.length ≤ all.length + us.length

def LenOK (call : CallT) : Prop := ∀ {P : Nat} {A : Hp} {all : List Value} {g : Nat} {ct : Bool} {V : Value}, A.wf → PW P all g ct V A → all.length ≤ 100000000 →
  ∃ A', call 25 [ptr P, .agg #[V, .int .i64 g, .bool ct], .agg #[.int .i64 3, .slice none 0 0, .int .i64 0]] A = some (.tuple #[.agg #[V, .int .i64 g, .bool ct], .bool true], A') ∧ KP P A A' ∧ PW P all g ct V A'

theorem len_ok {call call2 : CallT} {N : Nat} (h : StepFns call N) (lf : Nat) (h25 : ∀ args A r, kfn Tryd.bk.E call (Tryd.bk.inf 25) lf Tryd.f25 args A = some r → call2 25 args A = some r) : LenOK call2 := by
  intro P A all g ct V hw hI hl
  obtain ⟨a, c, rfl⟩ := hI.form
  obtain ⟨A', r1, r2, r3, r4⟩ := step_len h hw hI.gl lf (a2 := none) (c2 := 0) (m2 := 0) hI.pipe hI.bs 0 (by omega)
  exact ⟨A', h25 _ _ _ r1, r2, ⟨⟨a, c, rfl⟩, r4, r2.typ hw hI.pipe hI.typ, hI.bytes, hI.gl, r3⟩⟩

theorem step_ok {call call2 : CallT} {N : Nat} (h : StepFns call N) (lf : Nat) (h25 : ∀ args A r, kfn Tryd.bk.E call (Tryd.bk.inf 25) lf Tryd.f25 args A = some r → call2 25 args A = some r) : StepOK call2 N := by
  intro P A all g ct V hw hI a2 c2 us k n hus hB hn hl hN
  obtain ⟨a, c, rfl⟩ := hI.form
  by_cases h1 : k = 1
  · subst h1
    cases ct with
    | true =>
      obtain ⟨A', r1, r2, r3, r4⟩ := step_put_cut h hw lf hI.pipe hI.bs hus hB n (by omega)
      exact ⟨all, g, true, _, A', h25 _ _ _ r1, r2, ⟨⟨a, c, rfl⟩, r4, r2.typ hw hI.pipe hI.typ, hI.bytes, hI.gl, r3⟩, by omega⟩
    | false =>
      obtain ⟨V', A', r1, r2, r3, r4, r5⟩ := step_put h hw hI.bytes hI.gl lf hI.pipe hI.bs hus hB n hl hN
      have hgl := hI.gl
      refine ⟨all ++ us, g, false, V', A', h25 _ _ _ r1, r2, ⟨r4.form, r4, r5, hI.bytes.append hus, by rw [List.length_append]; omega, r3⟩, by rw [List.length_append]; exact Nat.le_refl _⟩
  · by_cases h2 : k = 2
    · subst h2
      obtain ⟨g', A', r1, r2, r3, r4, r5⟩ := step_move h hw hI.bytes hI.gl lf hI.pipe hI.bs n hn (by omega) (by omega)
      exact ⟨all, g', ct, _, A', h25 _ _ _ r1, r3, ⟨⟨a, c, rfl⟩, r5, r3.typ hw hI.pipe hI.typ, hI.bytes, r2, r4⟩, by omega⟩
    · by_cases h3 : k = 3
      · subst h3
        obtain ⟨A', r1, r2, r3, r4⟩ := step_len h hw hI.gl lf hI.pipe hI.bs n (by omega)
        exact ⟨all, g, ct, _, A', h25 _ _ _ r1, r2, ⟨⟨a, c, rfl⟩, r4, r2.typ hw hI.pipe hI.typ, hI.bytes, hI.gl, r3⟩, by omega⟩
      · by_cases h4 : k = 4
        · subst h4
          obtain ⟨A', r1, r2, r3, r4⟩ := step_cut h hw hI.gl lf hI.pipe hI.bs n (by omega)
          exact ⟨all, g, true, _, A', h25 _ _ _ r1, r2, ⟨⟨a, c, rfl⟩, r4, r2.typ hw hI.pipe hI.typ, hI.bytes, hI.gl, r3⟩, by omega⟩
        · obtain ⟨A', r1, r2, r3, r4⟩ := step_none hw lf hI.pipe hI.bs k n h1 h2 h3 h4
          exact ⟨all, g, ct, _, A', h25 _ _ _ r1, r2, ⟨⟨a, c, rfl⟩, r4, r2.typ hw hI.pipe hI.typ, hI.bytes, hI.gl, r3⟩, by omega⟩

theorem T4_fns {base : CallT} (hw : ∀ A, base 12 [] A = some (.bool true, A)) (h0 : ∀ A, base 27 [.nilIface] A = some (.int .i64 0, A)) (h27 : ∀ A, base 27 [cutIf] A = some (.int .i64 27, A))
    (hn : ∀ f args A, f ∈ [15, 28, 30, 57, 58] → base f args A = none) (n : Nat) : StepFns (callD Tryd.bk (T4 base) (n + 2)) (n + 1) := by
  have left : ∀ k, LeftOK (callD Tryd.bk (T4 base) (k + 1)) := fun k A a m c g ct hg hm => callD_of (hn 57 _ _ (by simp)) (fn := Tryd.f57) rfl (left_walk k A a m c g ct hg hm)
  have p1 : PipeFns (callD Tryd.bk (T4 base) (n + 2)) := by
    refine ⟨fun A => callD_base (show T4 base 12 [] A = _ from hw A) _, fun h => callD_base ?_ _, fun h => callD_base ?_ _, fun hw' hx hl => callD_of (hn 15 _ _ (by simp)) (fn := Tryd.f15) rfl (copied_exact _ hw' hx hl), fun h => callD_base ?_ _, fun h => callD_base ?_ _, fun h => callD_base ?_ _, fun h => callD_base ?_ _⟩
    · exact byRel_of h fun r' h' => h.one h'
    · exact byRel_of (PutR2.put h) fun r' h' => (PutR2.put h).one h'
    · exact byRel_of h fun r' h' => h.one h'
    · exact byRel_of h fun r' h' => h.one h'
    · exact byRel_of h fun r' h' => h.one h'
    · exact byRel_of h fun r' h' => h.one h'
  refine ⟨p1, fun h => callD_base ?_ _, fun h => callD_base ?_ _, fun A => callD_base (show T4 base 27 _ A = _ from h0 A) _, fun A => callD_base (show T4 base 27 _ A = _ from h27 A) _, left _, fun hw hV hall hb hus hl hlf => ?_, fun b hw => ?_, fun n' hw hV hall hg hm hlf => ?_, fun a m c g ct hw hg hm => ?_⟩
  · exact byRel_of h fun r' h' => h.one h'
  · exact byRel_of h fun r' h' => h.one h'
  · obtain ⟨V', A', r1, r2⟩ := refput_walk (call := callD Tryd.bk (T4 base) (n + 1)) (n + 1) hw hV hall hb hus hl hlf
    exact ⟨V', A', callD_of (hn 28 _ _ (by simp)) (fn := Tryd.f28) rfl r1, r2⟩
  · obtain ⟨A', r1, r2⟩ := refput_cut (call := callD Tryd.bk (T4 base) (n + 1)) (n + 1) hw b
    exact ⟨A', callD_of (hn 28 _ _ (by simp)) (fn := Tryd.f28) rfl r1, r2⟩
  · obtain ⟨V', A', r1, r2⟩ := refmove_walk (left n) (n + 1) hw _ _ _ _ hV hall hg hm n' hlf
    exact ⟨V', A', callD_of (hn 30 _ _ (by simp)) (fn := Tryd.f30) rfl r1, r2⟩
  · obtain ⟨A', r1, r2⟩ := break_walk (left n) (n + 1) hw a m c g ct hg hm
    exact ⟨A', callD_of (hn 58 _ _ (by simp)) (fn := Tryd.f58) rfl r1, r2⟩
end Go.Dn.Pipe
end

section
/-
  arguments that are slices, read
-/
namespace Go.Dn

/-- an argument's slice -/
inductive ArgSl (e sz : Nat) (A : Hp) : Value → List Value → Nat → Prop
  | nil (c : Nat) (hc : c ≤ 1) : ArgSl e sz A (.slice none 0 c) [] 0
  | at (id n : Nat) (us : List Value) (hg : A.get id = some (.arr e us .sh)) (hl : us.length = n * sz) : ArgSl e sz A (.slice (some ⟨id, 0, some sz⟩) n (2 * n)) us n

theorem ArgSl.len {e sz : Nat} {A : Hp} {v : Value} {us : List Value} {n : Nat} (h : ArgSl e sz A v us n) : us.length = n * sz := by
  cases h with
  | nil => simp
  | «at» _ _ _ _ hl => exact hl
theorem ArgSl.keep {e sz : Nat} {A A' : Hp} {v : Value} {us : List Value} {n : Nat} (h : ArgSl e sz A v us n) (hk : ∀ i o, A.get i = some o → A'.get i = some o) : ArgSl e sz A' v us n := by
  cases h with
  | nil c hc => exact .nil c hc
  | «at» id _ us hg hl => exact .at id n us (hk _ _ hg) hl

theorem ArgR.sl {H : Type} {T : TT} {A : Hp} {t e : TypeId} {d : DataW H} {cs : List Value} {i j : TI} (h : ArgR T A t d cs) (ht : T t = some i) (hd : i.d = .slice e) (he : T e = some j) :
    ∃ v, ∃ css : List (List Value), ∃ els, cs = [v] ∧ ArgSl e j.size A v css.flatten css.length ∧ els.length = css.length ∧ (d = .nil ∧ els = [] ∨ ∃ sp, d = .slice els sp) ∧
      (∀ (k : Nat) d c, els[k]? = some d → css[k]? = some c → ArgR T A e d c) ∧ (∀ (k : Nat) c, css[k]? = some c → c.length = j.size) ∧ css.length ≤ maxLen := by
  obtain ⟨a, css, els, c, z0, z1, z2, z3, z4, z5, z6, z7⟩ := h.slice_inv ht hd he
  subst z0
  refine ⟨_, css, els, rfl, ?_, z2, z4, z6, z5, z3⟩
  rcases z7 with ⟨rfl, rfl, hc⟩ | ⟨id, rfl, rfl, hg⟩
  · exact .nil c hc
  · exact .at id _ _ hg (flat_len css j.size z5)

theorem flat_one : ∀ {css : List (List Value)}, (∀ (k : Nat) c, css[k]? = some c → c.length = 1) → ∀ (j : Nat) (x : Value), css.flatten[j]? = some x → css[j]? = some [x]
  | [], _, j, x, h => by simp at h
  | c :: css, hl, j, x, h => by
    obtain ⟨y, rfl⟩ : ∃ y, c = [y] := by
      have := hl 0 c rfl
      match c, this with
      | [y], _ => exact ⟨y, rfl⟩
    cases j with
    | zero =>
      simp at h
      subst h
      rfl
    | succ j =>
      simp only [List.flatten_cons, List.cons_append, List.nil_append, List.getElem?_cons_succ] at h ⊢
      exact flat_one (fun k c hk => hl (k + 1) c (by simpa using hk)) j x h

/-- what a slice of numbers holds -/
theorem ints_of {H : Type} {T : TT} {A : Hp} {e : TypeId} {i : TI} {k : IntKind} (he : T e = some i) (hd : i.d = .int k) {css : List (List Value)} {els : List (DataW H)} (h1 : els.length = css.length)
    (h2 : ∀ (j : Nat) d c, els[j]? = some d → css[j]? = some c → ArgR T A e d c) (h3 : ∀ (j : Nat) c, css[j]? = some c → c.length = 1) : ∀ (j : Nat) x, css.flatten[j]? = some x → ∃ n, x = .int k n ∧ (Lit.int k n).wf = true := by
  intro j x hx
  have hc := flat_one h3 j x hx
  have hj : j < els.length := by rw [h1]; exact (List.getElem?_eq_some_iff.1 hc).1
  obtain ⟨n, _, e2, e3⟩ := (h2 j _ _ (List.getElem?_eq_getElem hj) hc).int_inv he hd
  cases e2
  exact ⟨n, rfl, e3⟩
end Go.Dn
namespace Go.Dn
/-- a row of a table -/
theorem flat_row : ∀ {css : List (List Value)} {sz : Nat}, (∀ (k : Nat) c, css[k]? = some c → c.length = sz) → ∀ (k : Nat) (c : List Value), css[k]? = some c → k * sz + sz ≤ css.flatten.length ∧ (css.flatten.drop (k * sz)).take sz = c
  | [], _, _, k, c, h => by simp at h
  | r :: css, sz, hl, k, c, h => by
    have hr := hl 0 r rfl
    cases k with
    | zero =>
      simp at h
      subst h
      simp only [Nat.zero_mul, List.drop_zero, List.flatten_cons, List.length_append, Nat.zero_add]
      refine ⟨by omega, ?_⟩
      rw [← hr, List.take_left]
    | succ k =>
      simp only [List.getElem?_cons_succ] at h
      obtain ⟨h1, h2⟩ := flat_row (sz := sz) (fun j c hj => hl (j + 1) c (by simpa using hj)) k c h
      simp only [List.flatten_cons, List.length_append, hr, Nat.add_mul, Nat.one_mul]
      refine ⟨by omega, ?_⟩
      rw [show k * sz + sz = r.length + k * sz by omega, List.drop_append, List.drop_eq_nil_of_le (by omega), List.nil_append]
      rw [show r.length + k * sz - r.length = k * sz by omega]
      exact h2
end Go.Dn
end

section
/-
  'PipePlays', run
-/
namespace Go.Dn.Pipe
open Go.Proofs
set_option maxHeartbeats 4000000
set_option maxRecDepth 100000
attribute [local irreducible] Hp.get Hp.set Hp.push dappend dcopy dstore cellsAt callD loopD dstring guardL hideL backL

/-- one op of a script -/
structure OpX where
  k : Int
  us : List Value
  a : Option Addr
  c : Nat
  n : Int
def OpX.cells (o : OpX) : List Value := [.int .i64 o.k, .slice o.a o.us.length o.c, .int .i64 o.n]
structure OpX.ok (A : Hp) (o : OpX) : Prop where
  bs : BsAt A (.slice o.a o.us.length o.c) o.us
  bytes : IsB o.us
  nb : o.n ≤ 9223372036854775807
def sumL (ops : List OpX) : Nat := (ops.map fun o => o.us.length).sum

/-- a call while a new object is hidden, and back -/
theorem hidden_call {P : Nat} {A : Hp} (hw : A.wf) (hP : P < A.next) (ob : Ob) :
    (guardL (hideL (A.push ob) [A.next]) []).wf ∧ (guardL (hideL (A.push ob) [A.next]) []).next = A.next + 1 ∧ KP P A (guardL (hideL (A.push ob) [A.next]) []) ∧ (guardL (hideL (A.push ob) [A.next]) []).get P = A.get P ∧
      ∀ B', KP P (guardL (hideL (A.push ob) [A.next]) []) B' → KP P A (backL (A.push ob) (backL (A.push ob) B' []) [A.next]) ∧ (backL (A.push ob) (backL (A.push ob) B' []) [A.next]).get P = B'.get P ∧
        (backL (A.push ob) (backL (A.push ob) B' []) [A.next]).get A.next = some ob ∧ (∀ V us, BsAt B' V us → BsAt (backL (A.push ob) (backL (A.push ob) B' []) [A.next]) V us) ∧ ∀ V, Typ5 B' V → Typ5 (backL (A.push ob) (backL (A.push ob) B' []) [A.next]) V := by
  have hget : ∀ j, (guardL (hideL (A.push ob) [A.next]) []).get j = if j = A.next then none else (A.push ob).get j := by
    intro j
    rw [guardL_get, if_neg List.not_mem_nil, hideL_get]
    simp
  have hnx : (guardL (hideL (A.push ob) [A.next]) []).next = A.next + 1 := by rw [guardL_next, hideL_next, Hp.next_push]
  have hold : ∀ j, j < A.next → (guardL (hideL (A.push ob) [A.next]) []).get j = A.get j := fun j hj => by
    rw [hget, if_neg (by omega), Hp.get_push_ne _ _ (by omega)]
  have hwf : (guardL (hideL (A.push ob) [A.next]) []).wf := by
    intro j hj
    rw [hnx] at hj
    rw [hget]
    split
    · rfl
    · exact (hw.push ob) j (by simp; omega)
  refine ⟨hwf, hnx, ⟨hwf, by omega, fun j hj _ => hold j hj⟩, hold P hP, fun B' hk => ?_⟩
  have hback : ∀ j, (backL (A.push ob) (backL (A.push ob) B' []) [A.next]).get j = if j = A.next then some ob else B'.get j := by
    intro j
    rw [backL_get, backL_get, if_neg List.not_mem_nil]
    by_cases e : j = A.next
    · subst e; simp [Hp.get_push_same]
    · simp [e]
  have hbn : (backL (A.push ob) (backL (A.push ob) B' []) [A.next]).next = B'.next := by rw [backL_next, backL_next]
  have hBn := hk.nx
  rw [hnx] at hBn
  have hno : B'.get A.next = none := by
    rw [hk.old A.next (by omega) (by omega), hget, if_pos rfl]
  refine ⟨⟨fun j hj => ?_, by rw [hbn]; omega, fun j hj hjP => ?_⟩, ?_, ?_, fun V us hV => ?_, fun V hV => ?_⟩
  · rw [hbn] at hj
    rw [hback, if_neg (by omega)]
    exact hk.wf j hj
  · rw [hback, if_neg (by omega), hk.old j (by omega) hjP, hold j hj]
  · rw [hback, if_neg (by omega)]
  · rw [hback, if_pos rfl]
  · refine hV.keep fun j o hj _ => ?_
    rw [hback, if_neg]
    rintro rfl
    rw [hno] at hj
    cases hj
  · refine hV.keep fun j cs md hj => ?_
    rw [hback, if_neg]
    rintro rfl
    rw [hno] at hj
    cases hj

section
variable {call : CallT} {N : Nat} (hS : StepOK call N) (hL : LenOK call) {A0 : Hp} {P : Nat} (hPl : P < A0.next) (hw0 : A0.wf) {ops : List OpX} (hops : ∀ o ∈ ops, o.ok A0) {ib : Nat} (hib : A0.get ib = some (.arr 54 (ops.map OpX.cells).flatten .sh)) (hibP : ib ≠ P) {X : Dat} (hP0 : A0.get P = some (.abs 1 X))
include hS hL hPl hw0 hops hib hibP hP0

theorem plays_round (lf : Nat) {A : Hp} {all : List Value} {g : Nat} {ct : Bool} {V : Value} {c : Nat} {i : Nat} (hk : KP P A0 A) (hI : PW P all g ct V A) (hq : A.get A0.next = some (.arr 50 [V, .int .i64 g, .bool ct] .own)) (hi : i < ops.length) (hm : ops.length ≤ 1048576) (hb : all.length + sumL (ops.drop i) ≤ 100000000) (hN : all.length + sumL (ops.drop i) < N) :
    ∃ σ1 A1 all' g' ct' V', exec Tryd.bk.E call Tryd.f5.ntmps (Tryd.bk.inf 5) lf (loopOf Tryd.f5 0) [(0, .slice (some ⟨ib, 0, some 3⟩) ops.length c), (2, .bool false), (3, ptr P), (4, ptr A0.next), (5, .int .i64 (i : Nat))] A = some (.normal, σ1, A1) ∧
      keepSl (some [0, 2, 3, 4, 5]) σ1 = [(0, .slice (some ⟨ib, 0, some 3⟩) ops.length c), (2, .bool false), (3, ptr P), (4, ptr A0.next), (5, .int .i64 (i + 1 : Nat))] ∧ KP P A0 A1 ∧ PW P all' g' ct' V' A1 ∧ A1.get A0.next = some (.arr 50 [V', .int .i64 g', .bool ct'] .own) ∧
      all'.length + sumL (ops.drop (i + 1)) ≤ all.length + sumL (ops.drop i) := by
  obtain ⟨o, ho⟩ : ∃ o, ops[i]? = some o := ⟨_, List.getElem?_eq_getElem hi⟩
  have hok := hops o (List.mem_of_getElem? ho)
  have hgi : A.get ib = some (.arr 54 (ops.map OpX.cells).flatten .sh) := by rw [hk.old ib (hw0.lt hib) hibP]; exact hib
  obtain ⟨f1, f2⟩ := flat_row (css := ops.map OpX.cells) (sz := 3) (fun k c hc => by
    rw [List.getElem?_map] at hc
    cases hh : ops[k]? with
    | none => rw [hh] at hc; cases hc
    | some x => rw [hh] at hc; cases hc; rfl) i o.cells (by rw [List.getElem?_map, ho]; rfl)
  have hcell : cellsIn (ops.map OpX.cells).flatten (0 + i * 3) 3 = some o.cells := cellsIn_of (by omega) (by rw [Nat.zero_add]; exact f2)
  have e1 : ((i : Nat) : Int) < ((ops.length : Nat) : Int) := by omega
  obtain ⟨k, us, a2, c2, n⟩ := o
  have hsum : sumL (ops.drop i) = us.length + sumL (ops.drop (i + 1)) := by
    rw [List.drop_eq_getElem_cons hi]
    have : ops[i] = ⟨k, us, a2, c2, n⟩ := by
      rw [List.getElem?_eq_getElem hi] at ho
      exact Option.some.inj ho
    rw [this]
    rfl
  have hPA : P < A.next := by have := hk.nx; omega
  have hqA : A0.next < A.next := hk.wf.lt hq
  have hokB : IsB us := hok.bytes
  have hokn : n ≤ 9223372036854775807 := hok.nb
  let Z : Ob := .arr 50 [.slice none 0 0, .int .i64 0, .bool false] .own
  let B : Hp := guardL (hideL (A.push Z) [A.next]) []
  obtain ⟨x1, x2, x3, x4, x5⟩ := hidden_call hk.wf hPA Z
  have kB : KP P A0 B := hk.trans x3
  have hBu : BsAt B (.slice a2 us.length c2) us := kB.bs hw0 hP0 hok.bs
  obtain ⟨all1, g1, ct1, V1, B1, s1, s2, s3, s4⟩ := hS x1 ⟨hI.form, x3.bs hk.wf hI.pipe hI.bs, x3.typ hk.wf hI.pipe hI.typ, hI.bytes, hI.gl, x4.trans hI.pipe⟩ k n hokB hBu hokn (by omega) (by omega)
  obtain ⟨y1, y2, y3, y4, y5⟩ := x5 B1 s2
  obtain ⟨av, cv, rfl⟩ := s3.form
  let D : Hp := backL (A.push Z) (backL (A.push Z) B1 []) [A.next]
  let W : List Value := [.slice av all1.length cv, .int .i64 g1, .bool ct1]
  let E1 : Hp := D.set A.next (some (.arr 50 W .own))
  let E2 : Hp := E1.set A0.next (some (.arr 50 W .own))
  have hqD : D.get A0.next = some (.arr 50 [V, .int .i64 g, .bool ct] .own) := by rw [y1.old _ hqA (by omega)]; exact hq
  have hqE1 : E1.get A0.next = some (.arr 50 [V, .int .i64 g, .bool ct] .own) := by rw [Hp.get_set_ne _ _ (by omega)]; exact hqD
  have hE1w : E1.wf := y1.wf.put y3 _
  have hE2w : E2.wf := hE1w.put hqE1 _
  have hVD := y4 _ _ s3.bs
  have hTD := y5 _ s3.typ
  have hVE1 := hVD.set5 hTD (q := A.next) (fun cs md e => by rw [y3] at e; simp [Z] at e) (some (.arr 50 W .own))
  have hTE1 := hTD.set5 (q := A.next) (fun cs md e => by rw [y3] at e; simp [Z] at e) (some (.arr 50 W .own))
  have hVE2 := hVE1.set5 hTE1 (q := A0.next) (fun cs md e => by rw [hqE1] at e; cases e) (some (.arr 50 W .own))
  have hTE2 := hTE1.set5 (q := A0.next) (fun cs md e => by rw [hqE1] at e; cases e) (some (.arr 50 W .own))
  have hPE2 : E2.get P = some (.abs 1 (pxOf all1 g1 ct1).dat) := by
    rw [Hp.get_set_ne _ _ (by omega), Hp.get_set_ne _ _ (by omega), y2]; exact s3.pipe
  have kE2 : KP P A0 E2 := ((hk.trans y1).set y3 (by omega) _).set hqE1 (Nat.le_refl _) _
  obtain ⟨F1, u1, u2, u3⟩ := hL hE2w ⟨⟨av, cv, rfl⟩, hVE2, hTE2, s3.bytes, s3.gl, hPE2⟩ (by omega)
  have kF : KP P A0 F1 := kE2.trans u2
  have hDn : A.next ≤ D.next := y1.nx
  have n2 : E2.next = D.next := by simp [E2, E1]
  have hqF : F1.get A0.next = some (.arr 50 W .own) := by rw [u2.old _ (by rw [n2]; omega) (by omega)]; exact Hp.get_set_same _ _ _
  let G : Hp := (F1.push Z).set F1.next (some (.arr 50 W .own))
  have kG : KP P A0 G := (kF.trans ((Kp.push u2.wf Z).toP P)).set (Hp.get_push_same _ _) kF.nx _
  have oG : ∀ j, j < F1.next → G.get j = F1.get j := fun j hj => by
    rw [Hp.get_set_ne _ _ (by omega), Hp.get_push_ne _ _ (by omega)]
  have hw2 : IntKind.i64.wrap ((i : Int) + 1) = ((i + 1 : Nat) : Int) := by rw [wrap64 (by omega) (by omega)]; omega
  have hqFl := u2.wf.lt hqF
  refine ⟨?s, G, all1, g1, ct1, .slice av all1.length cv, kexec_run ?run, ?kp, kG, ⟨⟨av, cv, rfl⟩, u3.bs.old u2.wf oG, u3.typ.keep fun j cs md hg => oG j (u2.wf.lt hg), s3.bytes, s3.gl, (oG P (by omega)).trans u3.pipe⟩, (oG _ hqFl).trans hqF, by omega⟩
  case run =>
    conv => lhs; whnf
    rw [kdec e1]
    conv => lhs; whnf
    refine bind_of (cellsAt_of hq _ _) ?_
    conv => lhs; whnf
    rw [kdec e1]
    conv => lhs; whnf
    refine bind_of ((cellsAt_of hgi _ _).trans hcell) ?_
    conv => lhs; whnf
    refine bind_of s1 ?_
    conv => lhs; whnf
    refine bind_of (dstore_of y3 (t := 50) (o := 0) (cs' := W) rfl) ?_
    conv => lhs; whnf
    refine bind_of (cellsAt_of (A := E1) (i := A.next) (Hp.get_set_same _ _ _) 0 3) ?_
    conv => lhs; whnf
    refine bind_of (dstore_of hqE1 (t := 50) (o := 0) (cs' := W) rfl) ?_
    conv => lhs; whnf
    refine bind_of (cellsAt_of (A := E2) (i := A0.next) (Hp.get_set_same _ _ _) 0 3) ?_
    conv => lhs; whnf
    refine bind_of u1 ?_
    conv => lhs; whnf
    refine bind_of (dstore_of (Hp.get_push_same _ _) (t := 50) (o := 0) (cs' := W) rfl) ?_
    conv => lhs; whnf
    rfl
  case kp =>
    show [_, _, _, _, (5, Value.int .i64 (IntKind.i64.wrap ((i : Int) + 1)))] = _
    rw [hw2]

structure PS where
  i : Nat
  all : List Value
  g : Nat
  ct : Bool
  v : Value

omit hS hL hPl hw0 hops hib hibP hP0 in
theorem plays_end (lf : Nat) {A : Hp} (a : Option Addr) (m c i : Nat) (V3 V4 : Value) (hi : ¬ i < m) :
    ∃ σ1, exec Tryd.bk.E call Tryd.f5.ntmps (Tryd.bk.inf 5) lf (loopOf Tryd.f5 0) [(0, .slice a m c), (2, .bool false), (3, V3), (4, V4), (5, .int .i64 (i : Nat))] A = some (.exit 0, σ1, A) ∧
      keepSl (some [0, 2, 3, 4, 5]) σ1 = [(0, .slice a m c), (2, .bool false), (3, V3), (4, V4), (5, .int .i64 (i : Nat))] := by
  have e1 : ¬ ((i : Nat) : Int) < ((m : Nat) : Int) := by omega
  refine ⟨?s, kexec_run ?run, ?kp⟩
  case run =>
    conv => lhs; whnf
    rw [kdecn e1]
  case kp => rfl

theorem plays_loop (lf : Nat) {A : Hp} {c : Nat} {V : Value} (hk : KP P A0 A) (hI : PW P [] 0 false V A) (hq : A.get A0.next = some (.arr 50 [V, .int .i64 ((0 : Nat) : Int), .bool false] .own)) (hm : ops.length ≤ 1048576) (hb : sumL ops ≤ 100000000) (hN : sumL ops < N) (hlf : ops.length < lf) :
    ∃ A1 V5, loopD (some [0, 2, 3, 4, 5]) (exec Tryd.bk.E call Tryd.f5.ntmps (Tryd.bk.inf 5) lf (loopOf Tryd.f5 0)) lf [(0, .slice (some ⟨ib, 0, some 3⟩) ops.length c), (2, .bool false), (3, ptr P), (4, ptr A0.next), (5, .int .i64 ((0 : Nat) : Int))] A =
      some (.exit 0, [(0, .slice (some ⟨ib, 0, some 3⟩) ops.length c), (2, .bool false), (3, ptr P), (4, ptr A0.next), (5, V5)], A1) := by
  have key := loop_rule (ks := some [0, 2, 3, 4, 5]) (f := exec Tryd.bk.E call Tryd.f5.ntmps (Tryd.bk.inf 5) lf (loopOf Tryd.f5 0)) (S := PS)
    (fun s => [(0, .slice (some ⟨ib, 0, some 3⟩) ops.length c), (2, .bool false), (3, ptr P), (4, ptr A0.next), (5, .int .i64 (s.i : Nat))])
    (fun s A => s.i ≤ ops.length ∧ KP P A0 A ∧ PW P s.all s.g s.ct s.v A ∧ A.get A0.next = some (.arr 50 [s.v, .int .i64 s.g, .bool s.ct] .own) ∧ s.all.length + sumL (ops.drop s.i) ≤ sumL ops) (fun s => ops.length - s.i)
    (fun e σ A1 => e = .exit 0 ∧ ∃ V5, σ = [(0, .slice (some ⟨ib, 0, some 3⟩) ops.length c), (2, .bool false), (3, ptr P), (4, ptr A0.next), (5, V5)]) (fun s A hs => ?_)
    lf ⟨0, [], 0, false, V⟩ A ⟨Nat.zero_le _, hk, hI, hq, by simp⟩ (by simp only; omega)
  · obtain ⟨e, σ1, A1, k1, rfl, V5, rfl⟩ := key
    exact ⟨A1, V5, k1⟩
  · obtain ⟨i, all, g, ct, v⟩ := s
    obtain ⟨z1, z2, z3, z4, z5⟩ := hs
    simp only at z1 z2 z3 z4 z5 ⊢
    by_cases him : i < ops.length
    · obtain ⟨σ1, A1, all', g', ct', V', r1, r2, r3, r4, r5, r6⟩ := plays_round hS hL hPl hw0 hops hib hibP hP0 lf (c := c) z2 z3 z4 him hm (by omega) (by omega)
      exact ⟨.normal, σ1, A1, r1, .inl ⟨rfl, ⟨i + 1, all', g', ct', V'⟩, r2, ⟨him, r3, r4, r5, by simp only; omega⟩, by simp only; omega⟩⟩
    · obtain ⟨σ1, r1, r2⟩ := plays_end (call := call) lf (A := A) (some ⟨ib, 0, some 3⟩) ops.length c i (ptr P) (ptr A0.next) him
      exact ⟨.exit 0, σ1, A, r1, .inr ⟨by simp, rfl, _, r2⟩⟩
end

theorem loop_out {ks : Option (List Nat)} {f : Sl → Hp → Option (Ex × Sl × Hp)} {n : Nat} {σ σ1 : Sl} {A A1 : Hp} {e : Ex} (h : f σ A = some (e, σ1, A1)) (he : e ≠ .normal) (hn : 0 < n) : loopD ks f n σ A = some (e, keepSl ks σ1, A1) := by
  obtain ⟨m, rfl⟩ : ∃ m, n = m + 1 := ⟨n - 1, by omega⟩
  exact loopD_out h he

theorem plays_walk {call : CallT} {N : Nat} (hp : PipeFns call) (hS : StepOK call N) (hL : LenOK call) {A : Hp} (hw : A.wf) {ops : List OpX} (hops : ∀ o ∈ ops, o.ok A) {a : Option Addr} {c : Nat} (hv : ArgSl 54 3 A (.slice a ops.length c) (ops.map OpX.cells).flatten ops.length)
    (hm : ops.length ≤ 1048576) (hb : sumL ops ≤ 100000000) (hN : sumL ops < N) (lf : Nat) (hlf : ops.length < lf) :
    ∃ A', kfn Tryd.bk.E call (Tryd.bk.inf 5) lf Tryd.f5 [.slice a ops.length c] A = some (.bool true, A') := by
  have hnew := hp.new (NewR.mk A)
  let A1 : Hp := A.push (.abs 1 PX.new.dat)
  let Z : List Value := [.slice none 0 0, .int .i64 ((0 : Nat) : Int), .bool false]
  let A2 : Hp := (A1.push (.arr 50 Z .own)).set A1.next (some (.arr 50 Z .own))
  have hw1 : A1.wf := hw.push _
  have hn1 : A1.next = A.next + 1 := by simp [A1]
  have hP1 : A1.get A.next = some (.abs 1 PX.new.dat) := Hp.get_push_same _ _
  have k1 : KP A.next A1 A2 := ((Kp.push hw1 (.arr 50 Z .own)).toP A.next).set (Hp.get_push_same _ _) (Nat.le_refl _) _
  have old : ∀ j, j < A.next → A1.get j = A.get j := fun j hj => Hp.get_push_ne _ _ (by omega)
  have hI : PW A.next [] 0 false (.slice none 0 0) A2 := ⟨⟨none, 0, rfl⟩, .nil 0 (by omega), fun i hi => by simp [blkOf] at hi, fun j x hx => by simp at hx, Nat.le_refl _, by
    rw [Hp.get_set_ne _ _ (by omega), Hp.get_push_ne _ _ (by omega)]; exact hP1⟩
  have hq : A2.get A1.next = some (.arr 50 Z .own) := Hp.get_set_same _ _ _
  have key : ∃ A3 V5, loopD (some [0, 2, 3, 4, 5]) (exec Tryd.bk.E call Tryd.f5.ntmps (Tryd.bk.inf 5) lf (loopOf Tryd.f5 0)) lf [(0, .slice a ops.length c), (2, .bool false), (3, ptr A.next), (4, ptr A1.next), (5, .int .i64 ((0 : Nat) : Int))] A2 =
      some (.exit 0, [(0, .slice a ops.length c), (2, .bool false), (3, ptr A.next), (4, ptr A1.next), (5, V5)], A3) := by
    generalize hv0 : (Value.slice a ops.length c) = v0 at hv
    generalize hfl : (ops.map OpX.cells).flatten = fl at hv
    generalize hol : ops.length = ol at hv hv0
    cases hv with
    | nil cc hc =>
      cases hv0
      obtain ⟨σ1, r1, r2⟩ := plays_end (call := call) lf (A := A2) none 0 c 0 (ptr A.next) (ptr A1.next) (by omega)
      have := loop_out (ks := some [0, 2, 3, 4, 5]) r1 (by simp) (n := lf) (by omega)
      rw [r2] at this
      exact ⟨A2, _, this⟩
    | «at» id _ _ hg hl =>
      cases hv0
      subst hol hfl
      have hidl := hw.lt hg
      exact plays_loop hS hL (A0 := A1) (P := A.next) (by omega) hw1 (fun o ho => ⟨(hops o ho).bs.old hw old, (hops o ho).bytes, (hops o ho).nb⟩) (ib := id) (by rw [old id hidl]; exact hg) (by omega) hP1 lf k1 hI hq hm hb hN hlf
  obtain ⟨A3, V5, l1⟩ := key
  refine ⟨A3, ?run⟩
  case run =>
    conv => lhs; whnf
    refine bind_of (hp.wakes _) ?_
    conv => lhs; whnf
    refine bind_of hnew ?_
    conv => lhs; whnf
    refine bind_of (dstore_of (Hp.get_push_same _ _) (t := 50) (o := 0) (cs' := Z) rfl) ?_
    conv => lhs; whnf
    refine bind_of l1 ?_
    conv => lhs; whnf
    rfl
end Go.Dn.Pipe
end

section
/-
  'OutPieces': the frames go in
-/
namespace Go.Dn.Pipe
open Go.Proofs
set_option maxHeartbeats 4000000
set_option maxRecDepth 100000
attribute [local irreducible] Hp.get Hp.set Hp.push dappend dcopy dstore cellsAt callD loopD guardL hideL backL

theorem elI : ElT Tryd.bk.E 23 3 1 8 := ⟨⟨_, rfl, rfl⟩, ⟨_, _, rfl, rfl, rfl, rfl, rfl⟩, by decide⟩
theorem elI2 : ∃ i e2, Tryd.bk.E.T 23 = some i ∧ i.d = .slice e2 := ⟨_, _, rfl, rfl⟩

/-- one frame of the argument -/
structure FrX where
  ver : Int
  typ : Int
  fl : Int
  st : Int
  ln : Int
  us : List Value
  a : Option Addr
  c : Nat
def FrX.cells (o : FrX) : List Value := [.int .u8 o.ver, .int .u8 o.typ, .int .u16 o.fl, .int .u32 o.st, .int .u32 o.ln, .slice o.a o.us.length o.c]
structure FrX.ok (A : Hp) (o : FrX) : Prop where
  bs : BsAt A (.slice o.a o.us.length o.c) o.us
  bytes : IsB o.us
def sumF (frs : List FrX) : Nat := (frs.map fun o => o.us.length + 12).sum

/-- where each frame ends -/
def endsN : Nat → List (List Value) → List Nat
  | _, [] => []
  | s, x :: l => (s + x.length) :: endsN (s + x.length) l
def endsV (fs : List (List Value)) : List Value := (endsN 0 fs).map fun n => .int .i64 (n : Nat)

theorem endsN_len : ∀ (s : Nat) (fs : List (List Value)), (endsN s fs).length = fs.length
  | _, [] => rfl
  | s, x :: l => by simp [endsN, endsN_len (s + x.length) l]
theorem endsN_plus : ∀ (s : Nat) (fs : List (List Value)) (y : List Value), endsN s (fs ++ [y]) = endsN s fs ++ [s + fs.flatten.length + y.length]
  | s, [], y => by simp [endsN]
  | s, x :: l, y => by
    simp only [List.cons_append, endsN, endsN_plus (s + x.length) l y, List.flatten_cons, List.length_append]
    rw [show s + x.length + l.flatten.length + y.length = s + (x.length + l.flatten.length) + y.length by omega]

structure OI (A0 : Hp) (P : Nat) (fs : List (List Value)) (n : Nat) (V6 V7 : Value) (A : Hp) : Prop where
  kp : KP P A0 A
  obj : A.get P = some (.abs 2 (OX.dat ⟨fs, n⟩))
  o6 : ∃ io, CanAt 5 1 A V6 io fs.flatten fs.flatten.length ∧ ∀ i, io = some i → A0.next ≤ i
  o7 : ∃ io, CanAt 3 1 A V7 io (endsV fs) fs.length ∧ ∀ i, io = some i → A0.next ≤ i
  ne : ∀ x ∈ fs, x ≠ []
  bytes : IsB fs.flatten
  few : fs.flatten.length ≤ n

theorem KP.setO {P : Nat} {A B : Hp} (h : KP P A B) {o : Ob} (hg : B.get P = some o) (o' : Ob) : KP P A (B.set P (some o')) :=
  ⟨h.wf.put hg _, by rw [Hp.next_set]; exact h.nx, fun j hj hp => by rw [Hp.get_set_ne _ _ hp, h.old j hj hp]⟩

theorem can_keep {e : TypeId} {A A' : Hp} {P : Nat} {v : Value} {io : Option Nat} {us : List Value} {n : Nat} (h : CanAt e 1 A v io us n) (hw : A.wf) (hk : KP P A A') (hP : io ≠ some P) : CanAt e 1 A' v io us n :=
  h.keep fun i hi => by subst hi; exact hk.old i (h.lt hw) fun e => hP (by rw [e])

theorem can_ne {e e' : TypeId} {A : Hp} {v v' : Value} {io io' : Option Nat} {us us' : List Value} {n n' : Nat} (h : CanAt e 1 A v io us n) (h' : CanAt e' 1 A v' io' us' n') (hne : e ≠ e') : ∀ j, io = some j → io' ≠ some j := by
  intro j hj hj'
  subst hj
  subst hj'
  cases h with
  | «at» _ _ _ hg _ _ =>
    cases h' with
    | «at» _ _ _ hg' _ _ =>
      rw [hg] at hg'
      cases hg'
      exact hne rfl

section
variable {call : CallT} (h : OutFns call) {A0 : Hp} {P : Nat} (hPl : P < A0.next) (hw0 : A0.wf) {frs : List FrX} (hfrs : ∀ o ∈ frs, o.ok A0) {ib : Nat} (hib : A0.get ib = some (.arr 86 (frs.map FrX.cells).flatten .sh)) (hibP : ib ≠ P) {X : Dat} (hP0 : A0.get P = some (.abs 2 X)) (h5 : A0.get 5 = some (er 5))
include h hPl hw0 hfrs hib hibP hP0 h5

theorem op_round (lf : Nat) {A : Hp} {fs : List (List Value)} {n : Nat} {V1 V6 V7 : Value} {c : Nat} {i : Nat} (hI : OI A0 P fs n V6 V7 A) (hi : i < frs.length) (hm : frs.length ≤ 1048576) (hfm : fs.length ≤ 1048576) (hb : n + sumF (frs.drop i) ≤ 100000000) :
    ∃ σ1 A1 fs' n' V6' V7', exec Tryd.bk.E call Tryd.f11.ntmps (Tryd.bk.inf 11) lf (loopOf Tryd.f11 0) [(0, .slice (some ⟨ib, 0, some 6⟩) frs.length c), (1, V1), (4, .bool false), (5, ptr P), (6, V6), (7, V7), (8, .int .i64 (i : Nat))] A = some (.normal, σ1, A1) ∧
      keepSl (some [0, 1, 4, 5, 6, 7, 8]) σ1 = [(0, .slice (some ⟨ib, 0, some 6⟩) frs.length c), (1, V1), (4, .bool false), (5, ptr P), (6, V6'), (7, V7'), (8, .int .i64 (i + 1 : Nat))] ∧ OI A0 P fs' n' V6' V7' A1 ∧ n' + sumF (frs.drop (i + 1)) ≤ n + sumF (frs.drop i) ∧ fs'.length ≤ fs.length + 1 := by
  obtain ⟨o, ho⟩ : ∃ o, frs[i]? = some o := ⟨_, List.getElem?_eq_getElem hi⟩
  have hok := hfrs o (List.mem_of_getElem? ho)
  obtain ⟨f1, f2⟩ := flat_row (css := frs.map FrX.cells) (sz := 6) (fun k c hc => by
    rw [List.getElem?_map] at hc
    cases hh : frs[k]? with
    | none => rw [hh] at hc; cases hc
    | some x => rw [hh] at hc; cases hc; rfl) i o.cells (by rw [List.getElem?_map, ho]; rfl)
  have hcell : cellsIn (frs.map FrX.cells).flatten (0 + i * 6) 6 = some o.cells := cellsIn_of (by omega) (by rw [Nat.zero_add]; exact f2)
  have e1 : ((i : Nat) : Int) < ((frs.length : Nat) : Int) := by omega
  obtain ⟨ver, typ, fl, st, ln, us, a, c2⟩ := o
  have hsum : sumF (frs.drop i) = us.length + 12 + sumF (frs.drop (i + 1)) := by
    rw [List.drop_eq_getElem_cons hi]
    have : frs[i] = ⟨ver, typ, fl, st, ln, us, a, c2⟩ := by
      rw [List.getElem?_eq_getElem hi] at ho
      exact Option.some.inj ho
    rw [this]
    rfl
  have hokB : IsB us := hok.bytes
  have hkw := hI.kp.wf
  have hfew := hI.few
  have hnx := hI.kp.nx
  have hPA : P < A.next := by have := hI.kp.nx; omega
  have hBu : BsAt A (.slice a us.length c2) us := hI.kp.bs hw0 hP0 hok.bs
  obtain ⟨i1, c1, A1, p1, p2, p3, p4, p5⟩ := h.copied ver typ fl st ln hkw hBu (by omega)
  have hB1 : BsAt A1 (.slice (some ⟨i1, 0, some 1⟩) us.length c1) us := .at i1 0 us.length c1 5 us us .own p3 (by omega) (by rw [List.drop_zero, List.take_of_length_le (Nat.le_refl _)]) p4
  have hw2 : IntKind.i64.wrap ((i : Int) + 1) = ((i + 1 : Nat) : Int) := by rw [wrap64 (by omega) (by omega)]; omega
  have hgi : A.get ib = some (.arr 86 (frs.map FrX.cells).flatten .sh) := by rw [hI.kp.old ib (hw0.lt hib) hibP]; exact hib
  by_cases hsz : (us.length : Int) = szOf typ ln
  · obtain ⟨V, A2, io, q1, q2, q3, q4⟩ := h.bytes ver typ fl st ln p2.wf hB1 (by omega) hsz
    have k2 : Kp A A2 := p2.trans q2
    have hgi2 : A2.get ib = some (.arr 86 (frs.map FrX.cells).flatten .sh) := by rw [k2.old ib (hkw.lt hgi)]; exact hgi
    obtain ⟨i3, c3, A3, r1, r2, r3, r4, r5⟩ := h.copied ver typ fl st ln k2.wf (hBu.old hkw k2.old) (by omega)
    have k3 : Kp A A3 := k2.trans r2
    have hB3 : BsAt A3 (.slice (some ⟨i3, 0, some 1⟩) us.length c3) us := .at i3 0 us.length c3 5 us us .own r3 (by omega) (by rw [List.drop_zero, List.take_of_length_le (Nat.le_refl _)]) r4
    have hP3 : A3.get P = some (.abs 2 (OX.dat ⟨fs, n⟩)) := by rw [k3.old P hPA]; exact hI.obj
    have s1 := h.put (PutOR.put A3 P ⟨fs, n⟩ hP3 ver typ fl st ln i3 0 us.length c3 us us .own r3 hokB.plain hokB.plain hB3 hsz (by show n + 12 + us.length ≤ _; omega))
    let A4 : Hp := A3.set P (some (.abs 2 (OX.dat ⟨fs ++ [hdrOf ver typ fl st ln ++ us], n + 12 + us.length⟩)))
    have k4 : KP P A A4 := (k3.toP P).setO hP3 _
    obtain ⟨io6, v1, v2⟩ := hI.o6
    obtain ⟨io7, u1, u2⟩ := hI.o7
    have hV4 : BsAt A4 V (hdrOf ver typ fl st ln ++ us) := by
      refine (q3.bs).keep fun j ob hj hh => ?_
      have hjP : j ≠ P := by
        obtain ⟨b, o', s', m', c', e, rfl⟩ := hh
        subst e
        cases q3 with
        | «at» => have := p2.nx; omega
      rw [show A4.get j = A3.get j from Hp.get_set_ne _ _ hjP, r2.old j (q2.wf.lt hj)]
    have c6 := can_keep v1 hkw k4 (fun e => by have := v2 P e; omega)
    obtain ⟨V6', A5, io6', w1, w2, w3, w4, w5, w6⟩ := append_can elB elB2 c6 hV4.elems (by simp) (by rw [List.length_append, hdr_len]; omega) (by rw [List.length_append, hdr_len]; unfold maxLen; omega)
    have hfl : (fs ++ [hdrOf ver typ fl st ln ++ us]).flatten = fs.flatten ++ (hdrOf ver typ fl st ln ++ us) := by simp
    have hyl : (hdrOf ver typ fl st ln ++ us).length = 12 + us.length := by rw [List.length_append, hdr_len]
    rw [← hfl] at w2
    have hL : (fs ++ [hdrOf ver typ fl st ln ++ us]).flatten.length = fs.flatten.length + (hdrOf ver typ fl st ln ++ us).length := by rw [hfl, List.length_append]
    rw [← hL] at w2
    obtain ⟨a6, c6', rfl⟩ := w2.slAt.bs.form
    have hP4 : A4.get P = some (.abs 2 (OX.dat ⟨fs ++ [hdrOf ver typ fl st ln ++ us], n + 12 + us.length⟩)) := Hp.get_set_same _ _ _
    generalize hY : hdrOf ver typ fl st ln ++ us = ys at hP4 w1 w2 hfl hyl hL
    let L : Value := .int .i64 ((fs ++ [ys]).flatten.length : Nat)
    have k4w := k4.wf
    have h6 : ∀ j, io6 = some j → A0.next ≤ j ∧ j < A.next := fun j hj => ⟨v2 j hj, by subst hj; exact v1.lt hkw⟩
    have h7 : ∀ j, io7 = some j → A0.next ≤ j ∧ j < A.next := fun j hj => ⟨u2 j hj, by subst hj; exact u1.lt hkw⟩
    have n4 : A.next ≤ A4.next := k4.nx
    have w5' : ∀ j, j < A0.next → A5.get j = A4.get j := fun j hj => w5 j (by omega) fun e => by have := (h6 j e).1; omega
    have k5 : KP P A0 A5 := ⟨w4 k4w, by omega, fun j hj hjP => by rw [w5' j hj, k4.old j (by omega) hjP, hI.kp.old j hj hjP]⟩
    have hP5 : A5.get P = some (.abs 2 (OX.dat ⟨fs ++ [ys], n + 12 + us.length⟩)) := by rw [w5' P hPl]; exact hP4
    have c7 : CanAt 3 1 A5 V7 io7 (endsV fs) fs.length := (can_keep u1 hkw k4 (fun e => by have := (h7 P e).1; omega)).keep fun j hj => w5 j (by have := (h7 j hj).2; omega) fun e => can_ne v1 u1 (by decide) j e hj
    have h6' : ∀ j, io6' = some j → A0.next ≤ j ∧ j < A5.next := fun j hj => by
      refine ⟨?_, by subst hj; exact w2.lt k5.wf⟩
      rcases w6 with ⟨e, _⟩ | ⟨j', e, e2, _⟩
      · rw [e] at hj; exact (h6 j hj).1
      · rw [e] at hj; cases hj; omega
    let E5 : Hp := A5.push (.arr 3 [L] .own)
    have c7' : CanAt 3 1 E5 V7 io7 (endsV fs) fs.length := c7.keep fun j hj => Hp.get_push_ne _ _ (by have := (h7 j hj).2; omega)
    have hx7 : elemsOf E5 1 (.slice (some ⟨A5.next, 0, some 1⟩) 1 3) = some (1, [L]) := (BsAt.at A5.next 0 1 3 3 [L] [L] .own (Hp.get_push_same _ _) (by simp) rfl (by omega)).elems
    obtain ⟨V7', A6, io7', x1, x2, x3, x4, x5, x6⟩ := append_can elI elI2 c7' hx7 (by simp) (by omega) (by unfold maxLen; omega)
    simp only [E5, Hp.next_push] at x3 x5 x6
    have hE5w : E5.wf := k5.wf.push _
    have x5' : ∀ j, j < A0.next → A6.get j = A5.get j := fun j hj => by
      rw [x5 j (by omega) (fun e => by have := (h7 j e).1; omega)]
      exact Hp.get_push_ne _ _ (by omega)
    have k6 : KP P A0 A6 := ⟨x4 hE5w, by omega, fun j hj hjP => by rw [x5' j hj]; exact k5.old j hj hjP⟩
    have d6' : CanAt 5 1 A6 _ io6' _ _ := w2.keep fun j hj => by
      rw [x5 j (by have := (h6' j hj).2; omega) (fun e => can_ne w2 c7 (by decide) j hj e)]
      exact Hp.get_push_ne _ _ (by have := (h6' j hj).2; omega)
    have hends : endsV fs ++ [L] = endsV (fs ++ [ys]) := by
      unfold endsV
      rw [endsN_plus, List.map_append]
      simp only [List.map_cons, List.map_nil, L]
      rw [hL]
      congr 5
      omega
    rw [hends] at x2
    have h7' : ∀ j, io7' = some j → A0.next ≤ j := fun j hj => by
      rcases x6 with ⟨e, _⟩ | ⟨j', e, e2, _⟩
      · rw [e] at hj; exact (h7 j hj).1
      · rw [e] at hj; cases hj; omega
    have hysn : ys ≠ [] := by
      intro e
      rw [e] at hyl
      simp at hyl
      omega
    have hOI : OI A0 P (fs ++ [ys]) (n + 12 + us.length) (.slice a6 (fs ++ [ys]).flatten.length c6') V7' A6 := by
      refine ⟨k6, (x5' P hPl).trans hP5, ⟨io6', d6', fun j hj => (h6' j hj).1⟩, ⟨io7', by rw [List.length_append]; exact x2, h7'⟩, ?ne, ?byt, ?few⟩
      case ne =>
        intro x hx
        rcases List.mem_append.1 hx with hx | hx
        · exact hI.ne x hx
        · simp only [List.mem_singleton] at hx
          subst hx
          exact hysn
      case byt =>
        rw [hfl]
        refine hI.bytes.append ?_
        rw [← hY]
        refine IsB.append (fun j x hx => ?_) hokB
        match j, hx with
        | 0, hx => simp [hdrOf] at hx; exact ⟨_, hx.symm⟩
        | 1, hx => simp [hdrOf] at hx; exact ⟨_, hx.symm⟩
        | 2, hx => simp [hdrOf, e16] at hx; exact ⟨_, hx.symm⟩
        | 3, hx => simp [hdrOf, e16] at hx; exact ⟨_, hx.symm⟩
        | 4, hx => simp [hdrOf, e16, e32] at hx; exact ⟨_, hx.symm⟩
        | 5, hx => simp [hdrOf, e16, e32] at hx; exact ⟨_, hx.symm⟩
        | 6, hx => simp [hdrOf, e16, e32] at hx; exact ⟨_, hx.symm⟩
        | 7, hx => simp [hdrOf, e16, e32] at hx; exact ⟨_, hx.symm⟩
        | 8, hx => simp [hdrOf, e16, e32] at hx; exact ⟨_, hx.symm⟩
        | 9, hx => simp [hdrOf, e16, e32] at hx; exact ⟨_, hx.symm⟩
        | 10, hx => simp [hdrOf, e16, e32] at hx; exact ⟨_, hx.symm⟩
        | 11, hx => simp [hdrOf, e16, e32] at hx; exact ⟨_, hx.symm⟩
        | j + 12, hx => simp [hdrOf, e16, e32] at hx
      case few => rw [hL]; omega
    have hs' : n + 12 + us.length + sumF (frs.drop (i + 1)) ≤ n + sumF (frs.drop i) := by omega
    have hs2 : (fs ++ [ys]).length ≤ fs.length + 1 := by simp
    refine ⟨?sg, A6, fs ++ [ys], n + 12 + us.length, .slice a6 (fs ++ [ys]).flatten.length c6', V7', kexec_run ?run, ?kp, hOI, hs', hs2⟩
    case run =>
      conv => lhs; whnf
      rw [kdec e1]
      conv => lhs; whnf
      rw [kdec e1]
      conv => lhs; whnf
      refine bind_of ((cellsAt_of hgi _ _).trans hcell) ?_
      conv => lhs; whnf
      refine bind_of p1 ?_
      conv => lhs; whnf
      refine bind_of q1 ?_
      conv => lhs; whnf
      rw [kdec e1]
      conv => lhs; whnf
      refine bind_of ((cellsAt_of hgi2 _ _).trans hcell) ?_
      conv => lhs; whnf
      refine bind_of r1 ?_
      conv => lhs; whnf
      refine bind_of s1 ?_
      conv => lhs; whnf
      refine bind_of (h.code0 _) ?_
      conv => lhs; whnf
      refine bind_of (h.code0 _) ?_
      conv => lhs; whnf
      refine bind_of w1 ?_
      conv => lhs; whnf
      refine bind_of x1 ?_
      conv => lhs; whnf
    case kp =>
      show [_, _, _, _, _, _, (8, Value.int .i64 (IntKind.i64.wrap ((i : Int) + 1)))] = _
      rw [hw2]
  · obtain ⟨A2, q1, q2⟩ := h.nobytes ver typ fl st ln (a := some ⟨i1, 0, some 1⟩) (c := c1) p2.wf (by
      have hl5 := hw0.lt h5
      have : (5 : Nat) ≠ P := by rintro rfl; rw [hP0] at h5; cases h5
      rw [p2.old 5 (by omega), hI.kp.old 5 hl5 this]; exact h5) hsz
    have k2 : Kp A A2 := p2.trans q2
    have hgi2 : A2.get ib = some (.arr 86 (frs.map FrX.cells).flatten .sh) := by rw [k2.old ib (hkw.lt hgi)]; exact hgi
    obtain ⟨i3, c3, A3, r1, r2, r3, r4, r5⟩ := h.copied ver typ fl st ln k2.wf (hBu.old hkw k2.old) (by omega)
    have k3 : Kp A A3 := k2.trans r2
    have hP3 : A3.get P = some (.abs 2 (OX.dat ⟨fs, n⟩)) := by rw [k3.old P hPA]; exact hI.obj
    have s1 := h.put (PutOR.bad A3 P ⟨fs, n⟩ hP3 ver typ fl st ln i3 0 us.length c3 us .own r3 hokB.plain hsz)
    let A4 : Hp := A3.set P (some (.abs 2 (OX.dat ⟨fs, n⟩)))
    have k4 : KP P A A4 := (k3.toP P).setO hP3 _
    obtain ⟨io6, v1, v2⟩ := hI.o6
    obtain ⟨io7, u1, u2⟩ := hI.o7
    refine ⟨?sg2, A4, fs, n, V6, V7, kexec_run ?run2, ?kp2, ⟨hI.kp.trans k4, Hp.get_set_same _ _ _, ⟨io6, can_keep v1 hkw k4 (fun e => by have := v2 P e; omega), v2⟩, ⟨io7, can_keep u1 hkw k4 (fun e => by have := u2 P e; omega), u2⟩, hI.ne, hI.bytes, hI.few⟩, by omega, by omega⟩
    case run2 =>
      conv => lhs; whnf
      rw [kdec e1]
      conv => lhs; whnf
      rw [kdec e1]
      conv => lhs; whnf
      refine bind_of ((cellsAt_of hgi _ _).trans hcell) ?_
      conv => lhs; whnf
      refine bind_of p1 ?_
      conv => lhs; whnf
      refine bind_of q1 ?_
      conv => lhs; whnf
      rw [kdec e1]
      conv => lhs; whnf
      refine bind_of ((cellsAt_of hgi2 _ _).trans hcell) ?_
      conv => lhs; whnf
      refine bind_of r1 ?_
      conv => lhs; whnf
      refine bind_of s1 ?_
      conv => lhs; whnf
      refine bind_of (h.code48 _) ?_
      conv => lhs; whnf
      refine bind_of (h.code48 _) ?_
      conv => lhs; whnf
    case kp2 =>
      show [_, _, _, _, _, _, (8, Value.int .i64 (IntKind.i64.wrap ((i : Int) + 1)))] = _
      rw [hw2]
end
end Go.Dn.Pipe
end

section
/-
  'OutPieces': what is taken, and the frames counted
-/
namespace Go.Dn.Pipe
open Go.Proofs
set_option maxHeartbeats 4000000
set_option maxRecDepth 100000

theorem dropF_flat : ∀ (n : Nat) (fs : List (List Value)), (dropF n fs).flatten = fs.flatten.drop n
  | _, [] => by simp [dropF]
  | n, x :: l => by
    simp only [dropF]
    split
    · rename_i h
      rw [List.flatten_cons, List.flatten_cons, List.drop_append_of_le_length (by omega)]
    · rename_i h
      rw [dropF_flat (n - x.length) l, List.flatten_cons, List.drop_append]
      rw [List.drop_eq_nil_of_le (show x.length ≤ n by omega), List.nil_append]

theorem dropF_add : ∀ (m n : Nat) (fs : List (List Value)), dropF m (dropF n fs) = dropF (n + m) fs
  | _, _, [] => rfl
  | m, n, x :: l => by
    by_cases h : n < x.length
    · simp only [dropF, h, if_true, List.length_drop]
      by_cases h2 : n + m < x.length
      · rw [if_pos (by omega), if_pos h2, List.drop_drop]
      · rw [if_neg (by omega), if_neg h2]
        congr 1
        omega
    · have e1 : dropF n (x :: l) = dropF (n - x.length) l := by simp only [dropF, if_neg h]
      have e2 : dropF (n + m) (x :: l) = dropF (n + m - x.length) l := by simp only [dropF]; rw [if_neg (by omega)]
      rw [e1, e2, dropF_add m (n - x.length) l]
      congr 1
      omega

theorem dropF_all : ∀ (n : Nat) (fs : List (List Value)), fs.flatten.length ≤ n → dropF n fs = []
  | _, [], _ => rfl
  | n, x :: l, h => by
    rw [List.flatten_cons, List.length_append] at h
    have e : dropF n (x :: l) = dropF (n - x.length) l := by simp only [dropF]; rw [if_neg (by omega)]
    rw [e]
    exact dropF_all _ l (by omega)

theorem dropF_min (n : Nat) (fs : List (List Value)) : dropF (min n fs.flatten.length) fs = dropF n fs := by
  by_cases h : n ≤ fs.flatten.length
  · rw [Nat.min_eq_left h]
  · rw [dropF_all n fs (by omega), dropF_all _ fs (by omega)]

theorem count_high (a : Nat) : ∀ (s : Nat) (fs : List (List Value)), a < s → (endsN s fs).countP (fun e => decide (a < e)) = fs.length
  | _, [], _ => rfl
  | s, x :: l, h => by
    simp only [endsN, List.countP_cons, List.length_cons]
    rw [count_high a (s + x.length) l (by omega), if_pos (by simp; omega)]

theorem count_ends (a : Nat) : ∀ (s : Nat) (fs : List (List Value)), s ≤ a → (endsN s fs).countP (fun e => decide (a < e)) = (dropF (a - s) fs).length
  | _, [], _ => rfl
  | s, x :: l, h => by
    simp only [endsN, List.countP_cons, dropF]
    by_cases h2 : a - s < x.length
    · rw [if_pos h2, count_high a _ l (by omega), if_pos (by simp; omega)]
      rfl
    · rw [if_neg h2, count_ends a (s + x.length) l (by omega), if_neg (by simp; omega)]
      rw [show a - (s + x.length) = a - s - x.length by omega]
      rfl

theorem count_succ {α : Type} (p : α → Bool) (l : List α) (i : Nat) (x : α) (h : l[i]? = some x) : (l.take (i + 1)).countP p = (l.take i).countP p + (if p x then 1 else 0) := by
  rw [List.take_add_one, h, List.countP_append]
  simp [List.countP_cons]

/-- a part of what was read -/
theorem part_of {A : Hp} {V : Value} {io : Option Nat} {us : List Value} {n : Nat} (h : CanAt 5 1 A V io us n) {i j : Nat} (h1 : i ≤ j) (h2 : j ≤ n) :
    ∃ w, (∀ {R : Type} (K : Value → Option R), kslice Tryd.bk.E 22 V (some (.int .i64 (i : Nat))) (some (.int .i64 (j : Nat))) none K = K w) ∧ BsAt A w ((us.drop i).take (j - i)) := by
  cases h with
  | nil =>
    obtain rfl : j = 0 := by omega
    obtain rfl : i = 0 := by omega
    exact ⟨.slice none 0 0, fun _ => rfl, .nil 0 (by omega)⟩
  | «at» b _ _ hg hl hp =>
    rw [Nat.mul_one] at hl
    refine ⟨.slice (some ⟨b, 0 + i * 1, some 1⟩) (j - i) (2 * (2 * n / 2 - i) + 2 * n % 2), fun {R} K => ?_, .at b (0 + i * 1) (j - i) _ 5 us _ .own hg (by omega) (by simp) (by omega)⟩
    have e1 : ((j : Nat) : Int) ≤ ((2 * n / 2 : Nat) : Int) := by omega
    have e2 : ((i : Nat) : Int) ≤ (((j : Nat) : Int).toNat : Int) := by omega
    conv => lhs; whnf
    rw [kdec e1]
    conv => lhs; whnf
    rw [kdec e2]
    conv => lhs; whnf
    rfl

theorem part_end {A : Hp} {V : Value} {io : Option Nat} {us : List Value} {n : Nat} (h : CanAt 5 1 A V io us n) {i : Nat} (h1 : i ≤ n) :
    ∃ w, (∀ {R : Type} (K : Value → Option R), kslice Tryd.bk.E 22 V (some (.int .i64 (i : Nat))) none none K = K w) ∧ BsAt A w (us.drop i) := by
  cases h with
  | nil =>
    obtain rfl : i = 0 := by omega
    exact ⟨.slice none 0 0, fun _ => rfl, .nil 0 (by omega)⟩
  | «at» b _ _ hg hl hp =>
    rw [Nat.mul_one] at hl
    refine ⟨.slice (some ⟨b, 0 + i * 1, some 1⟩) (n - i) (2 * (2 * n / 2 - i) + 2 * n % 2), fun {R} K => ?_, .at b (0 + i * 1) (n - i) _ 5 us _ .own hg (by omega) (by simp; rw [List.take_of_length_le (by simp; omega)]) (by omega)⟩
    have e2 : ((i : Nat) : Int) ≤ ((n : Nat) : Int) := by omega
    conv => lhs; whnf
    rw [kdec e2]
    conv => lhs; whnf
    rfl

attribute [local irreducible] Hp.get Hp.set Hp.push dappend dcopy dstore cellsAt callD loopD guardL hideL backL

theorem count_step {call : CallT} (lf : Nat) {A : Hp} {i7 n7 c7 : Nat} {us7 : List Value} {md : Md} (hg : A.get i7 = some (.arr 3 us7 md)) {i e a : Nat} (hi : i < n7) (hm : n7 ≤ 1048576) (he : us7[i]? = some (.int .i64 (e : Nat))) {cnt : Nat} (hcn : cnt ≤ i) (V1 V5 V6 J : Value) :
    ∃ σ1, exec Tryd.bk.E call Tryd.f11.ntmps (Tryd.bk.inf 11) lf (loopOf Tryd.f11 2) [(1, V1), (4, .bool false), (5, V5), (6, V6), (7, .slice (some ⟨i7, 0, some 1⟩) n7 c7), (12, .int .i64 (a : Nat)), (13, J), (15, .int .i64 (cnt : Nat)), (16, .int .i64 (i : Nat))] A = some (.normal, σ1, A) ∧
      keepSl (some [1, 4, 5, 6, 7, 12, 13, 15, 16]) σ1 = [(1, V1), (4, .bool false), (5, V5), (6, V6), (7, .slice (some ⟨i7, 0, some 1⟩) n7 c7), (12, .int .i64 (a : Nat)), (13, J), (15, .int .i64 (cnt + (if a < e then 1 else 0) : Nat)), (16, .int .i64 (i + 1 : Nat))] := by
  have e1 : ((i : Nat) : Int) < ((n7 : Nat) : Int) := by omega
  have hcell : cellsIn us7 (0 + i * 1) 1 = some [.int .i64 (e : Nat)] := by
    have hlt : i < us7.length := (List.getElem?_eq_some_iff.1 he).1
    refine cellsIn_of (by omega) ?_
    rw [Nat.zero_add, Nat.mul_one, List.drop_eq_getElem_cons hlt, List.take_succ_cons, List.take_zero]
    rw [List.getElem?_eq_getElem hlt] at he
    rw [Option.some.inj he]
  have hw2 : IntKind.i64.wrap ((i : Int) + 1) = ((i + 1 : Nat) : Int) := by rw [wrap64 (by omega) (by omega)]; omega
  have hw3 : IntKind.i64.wrap ((cnt : Int) + 1) = ((cnt + 1 : Nat) : Int) := by rw [wrap64 (by omega) (by omega)]; omega
  by_cases h : a < e
  · have e2 : ((a : Nat) : Int) < ((e : Nat) : Int) := by omega
    refine ⟨?sg, kexec_run ?run, ?kp⟩
    case run =>
      conv => lhs; whnf
      rw [kdec e1]
      conv => lhs; whnf
      rw [kdec e1]
      conv => lhs; whnf
      refine bind_of ((cellsAt_of hg _ _).trans hcell) ?_
      conv => lhs; whnf
      rw [kdec e2]
      conv => lhs; whnf
    case kp =>
      show [_, _, _, _, _, _, _, (15, Value.int .i64 (IntKind.i64.wrap ((cnt : Int) + 1))), (16, Value.int .i64 (IntKind.i64.wrap ((i : Int) + 1)))] = _
      rw [hw2, hw3, if_pos h]
  · have e2 : ¬ ((a : Nat) : Int) < ((e : Nat) : Int) := by omega
    refine ⟨?sg2, kexec_run ?run2, ?kp2⟩
    case run2 =>
      conv => lhs; whnf
      rw [kdec e1]
      conv => lhs; whnf
      rw [kdec e1]
      conv => lhs; whnf
      refine bind_of ((cellsAt_of hg _ _).trans hcell) ?_
      conv => lhs; whnf
      rw [kdecn e2]
      conv => lhs; whnf
    case kp2 =>
      show [_, _, _, _, _, _, _, (15, Value.int .i64 (cnt : Nat)), (16, Value.int .i64 (IntKind.i64.wrap ((i : Int) + 1)))] = _
      rw [hw2, if_neg h]
      rfl

theorem count_end {call : CallT} (lf : Nat) {A : Hp} {n7 c7 : Nat} {a7 : Option Addr} {i : Nat} (hi : ¬ i < n7) (V1 V5 V6 V12 J C : Value) :
    ∃ σ1, exec Tryd.bk.E call Tryd.f11.ntmps (Tryd.bk.inf 11) lf (loopOf Tryd.f11 2) [(1, V1), (4, .bool false), (5, V5), (6, V6), (7, .slice a7 n7 c7), (12, V12), (13, J), (15, C), (16, .int .i64 (i : Nat))] A = some (.exit 4, σ1, A) ∧
      keepSl (some [1, 4, 5, 6, 7, 12, 13, 15, 16]) σ1 = [(1, V1), (4, .bool false), (5, V5), (6, V6), (7, .slice a7 n7 c7), (12, V12), (13, J), (15, C), (16, .int .i64 (i : Nat))] := by
  have e1 : ¬ ((i : Nat) : Int) < ((n7 : Nat) : Int) := by omega
  refine ⟨?sg, kexec_run ?run, ?kp⟩
  case run =>
    conv => lhs; whnf
    rw [kdecn e1]
  case kp => rfl

theorem count_loop {call : CallT} (lf : Nat) {A : Hp} {V7 : Value} {io7 : Option Nat} {fs : List (List Value)} (hV : CanAt 3 1 A V7 io7 (endsV fs) fs.length) (hm : fs.length ≤ 1048576) (hlf : fs.length < lf) (a : Nat) (V1 V5 V6 J : Value) :
    ∃ L, loopD (some [1, 4, 5, 6, 7, 12, 13, 15, 16]) (exec Tryd.bk.E call Tryd.f11.ntmps (Tryd.bk.inf 11) lf (loopOf Tryd.f11 2)) lf [(1, V1), (4, .bool false), (5, V5), (6, V6), (7, V7), (12, .int .i64 (a : Nat)), (13, J), (15, .int .i64 ((0 : Nat) : Int)), (16, .int .i64 ((0 : Nat) : Int))] A =
      some (.exit 4, [(1, V1), (4, .bool false), (5, V5), (6, V6), (7, V7), (12, .int .i64 (a : Nat)), (13, J), (15, .int .i64 ((dropF a fs).length : Nat)), (16, L)], A) := by
  have hfin : (endsN 0 fs).countP (fun e => decide (a < e)) = (dropF a fs).length := count_ends a 0 fs (Nat.zero_le _)
  obtain ⟨a7, c7, rfl⟩ : ∃ a7 c7, V7 = .slice a7 fs.length c7 := by
    have hlen : (endsV fs).length = fs.length := by simp [endsV, endsN_len]
    obtain ⟨a, c, e⟩ := hV.slAt.bs.form
    rw [hlen] at e
    exact ⟨a, c, e⟩
  have key := loop_rule (ks := some [1, 4, 5, 6, 7, 12, 13, 15, 16]) (f := exec Tryd.bk.E call Tryd.f11.ntmps (Tryd.bk.inf 11) lf (loopOf Tryd.f11 2)) (S := Nat)
    (fun i => [(1, V1), (4, .bool false), (5, V5), (6, V6), (7, .slice a7 fs.length c7), (12, .int .i64 (a : Nat)), (13, J), (15, .int .i64 (((endsN 0 fs).take i).countP (fun e => decide (a < e)) : Nat)), (16, .int .i64 (i : Nat))])
    (fun i B => i ≤ fs.length ∧ B = A) (fun i => fs.length - i)
    (fun e σ A1 => e = .exit 4 ∧ A1 = A ∧ ∃ L, σ = [(1, V1), (4, .bool false), (5, V5), (6, V6), (7, .slice a7 fs.length c7), (12, .int .i64 (a : Nat)), (13, J), (15, .int .i64 ((dropF a fs).length : Nat)), (16, L)]) (fun i B hs => ?_)
    lf 0 A ⟨Nat.zero_le _, rfl⟩ (by omega)
  · obtain ⟨e, σ1, A1, k1, rfl, rfl, L, rfl⟩ := key
    exact ⟨L, k1⟩
  · obtain ⟨z1, rfl⟩ := hs
    by_cases him : i < fs.length
    · have hex : (endsN 0 fs)[i]? = some ((endsN 0 fs)[i]'(by rw [endsN_len]; exact him)) := List.getElem?_eq_getElem _
      generalize (endsN 0 fs)[i]'(by rw [endsN_len]; exact him) = e at hex
      have hev : (endsV fs)[i]? = some (.int .i64 (e : Nat)) := by
        unfold endsV
        rw [List.getElem?_map, hex]
        rfl
      generalize hEV : endsV fs = EV at hV hev
      generalize hFL : fs.length = FL at hV him z1 hm
      cases hV with
      | nil => simp at him
      | «at» i7 _ _ hg _ _ =>
        obtain ⟨σ1, r1, r2⟩ := count_step (call := call) lf hg (c7 := 2 * FL) (a := a) him hm hev (cnt := ((endsN 0 fs).take i).countP (fun e => decide (a < e))) (by
          refine Nat.le_trans (List.countP_le_length) ?_
          simp; omega) V1 V5 V6 J
        refine ⟨.normal, σ1, B, r1, .inl ⟨rfl, i + 1, ?_, ⟨him, rfl⟩, by omega⟩⟩
        rw [r2, count_succ _ _ _ _ hex]
        simp only [decide_eq_true_eq]
    · have hi : i = fs.length := by omega
      obtain ⟨σ1, r1, r2⟩ := count_end (call := call) lf (A := B) (a7 := a7) (c7 := c7) him V1 V5 V6 (.int .i64 (a : Nat)) J (.int .i64 (((endsN 0 fs).take i).countP (fun e => decide (a < e)) : Nat))
      refine ⟨.exit 4, σ1, B, r1, .inr ⟨by simp, rfl, rfl, .int .i64 (i : Nat), ?_⟩⟩
      rw [r2, hi, List.take_of_length_le (by rw [endsN_len]; omega), hfin]
end Go.Dn.Pipe
end
