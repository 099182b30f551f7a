/-
  Part of the abstract machine for this program.
-/
import Derived.Test.YtjhimcdahpncaaaDoorDnH
import Derived.Test.YtjhimcdahpncaaaDoorPA

section
namespace Go.Dn.Pipe
open Go.Proofs
attribute [local irreducible] Hp.get Hp.set Hp.push dappend dcopy dstore cellsAt callD

theorem kdec {p : Prop} [Decidable p] (h : p) : decide p = true := decide_eq_true h
theorem kdecn {p : Prop} [Decidable p] (h : ¬ p) : decide p = false := decide_eq_false h

variable {base : CallT} (hb : ∀ f args A, f ∉ [61, 12, 20, 38, 27] → base f args A = none)
include hb

abbrev ptr (i : Nat) : Value := .pointer (some ⟨i, 0, none⟩)

theorem fifo_weight (n : Nat) {A : Hp} {f : Nat} {a b c : Value} {w : Int} {T : TypeId} {md : Md} (hf : A.get f = some (.arr T [a, b, c, .int .i64 w] md)) :
    callD Tryd.bk base (n + 1) 51 [ptr f] A = some (.int .i64 w, A) := by
  refine callD_of (hb _ _ _ (by decide)) (fn := Tryd.f51) rfl ?_
  conv => lhs; whnf
  rw [cellsAt_of hf]
  conv => lhs; whnf
  rfl

theorem fifo_len (n : Nat) {A : Hp} {f : Nat} {a b c w : Value} {T : TypeId} {md : Md} (hf : A.get f = some (.arr T [a, b, c, w] md)) {io : Option Nat} {us : List Value} {m : Nat} (hr : SlAt 143 2 A c io us m) :
    callD Tryd.bk base (n + 1) 68 [ptr f] A = some (.int .i64 m, A) := by
  refine callD_of (hb _ _ _ (by decide)) (fn := Tryd.f68) rfl ?_
  cases hr with
  | nil =>
    conv => lhs; whnf
    rw [cellsAt_of hf]
    conv => lhs; whnf
    rfl
  | «at» =>
    conv => lhs; whnf
    rw [cellsAt_of hf]
    conv => lhs; whnf
    rfl

theorem head_none (n : Nat) {A : Hp} {f : Nat} {a b c w : Value} {T : TypeId} {md : Md} (hf : A.get f = some (.arr T [a, b, c, w] md)) {io : Option Nat} {us : List Value} (hr : SlAt 143 2 A c io us 0) :
    callD Tryd.bk base (n + 2) 52 [ptr f] A = some (.tuple #[.slice none 0 0, .int .i64 0, .bool false], A) := by
  refine callD_of (hb _ _ _ (by decide)) (fn := Tryd.f52) rfl ?_
  conv => lhs; whnf
  rw [fifo_len hb n hf hr]
  conv => lhs; whnf
  rfl

theorem head_some (n : Nat) {A : Hp} {f : Nat} {a b c w : Value} {T : TypeId} {md : Md} (hf : A.get f = some (.arr T [a, b, c, w] md)) {io : Option Nat} {us : List Value} {m : Nat} {x y : Value} (hr : SlAt 143 2 A c io (x :: y :: us) (m + 1)) :
    callD Tryd.bk base (n + 2) 52 [ptr f] A = some (.tuple #[x, y, .bool true], A) := by
  refine callD_of (hb _ _ _ (by decide)) (fn := Tryd.f52) rfl ?_
  conv => lhs; whnf
  rw [fifo_len hb n hf hr]
  conv => lhs; whnf
  rw [cellsAt_of hf]
  conv => lhs; whnf
  cases hr with
  | «at» i o _ c' cs _ hc hg hl hu =>
  conv => lhs; whnf
  rw [kdec (by omega)]
  conv => lhs; whnf
  rw [cell_of hg hu 0 x rfl ?_]
  rotate_left
  · rfl
  conv => lhs; whnf
  rw [cellsAt_of hf]
  conv => lhs; whnf
  rw [kdec (by omega)]
  conv => lhs; whnf
  rw [cell_of hg hu 1 y rfl ?_]
  rotate_left
  · rfl
  conv => lhs; whnf
  rfl

end Go.Dn.Pipe
end

section
namespace Go.Dn.Pipe
open Go.Proofs
attribute [local irreducible] Hp.get Hp.set Hp.push dappend dcopy dstore cellsAt callD loopD

theorem wrap64 {n : Int} (h1 : -9223372036854775808 ≤ n) (h2 : n ≤ 9223372036854775807) : IntKind.i64.wrap n = n := by
  rw [IntKind.wrap_i64]; omega

theorem elB : ElT Tryd.bk.E 22 5 1 1 := ⟨⟨_, rfl, rfl⟩, ⟨_, _, rfl, rfl, rfl, rfl, rfl⟩, by decide⟩
theorem elB2 : ∃ i e2, Tryd.bk.E.T 22 = some i ∧ i.d = .slice e2 := ⟨_, _, rfl, rfl⟩

theorem elR : ElT Tryd.bk.E 139 143 2 32 := ⟨⟨_, rfl, rfl⟩, ⟨_, _, rfl, rfl, rfl, rfl, rfl⟩, by decide⟩
theorem elR2 : ∃ i e2, Tryd.bk.E.T 139 = some i ∧ i.d = .slice e2 := ⟨_, _, rfl, rfl⟩

variable {base : CallT} (hb : ∀ f args A, f ∉ [61, 12, 20, 38, 27] → base f args A = none)

structure JS where
  i : Nat
  v : Value
  io : Option Nat
  acc : List Value

theorem joined_loop (n n0 : Nat) {A0 : Hp} (hw0 : A0.wf) {b o m c : Nat} {cs xs : List Value} {T : TypeId} {md : Md} (hg : A0.get b = some (.arr T cs md)) (hu : (cs.drop o).take m = xs) (hm : xs.length = m)
    {yss : List (List Value)} (hy : yss.length = m) (hx : ∀ (j : Nat) x, xs[j]? = some x → ∃ us, yss[j]? = some us ∧ elemsOf A0 1 x = some (us.length, us)) (hM : m ≤ 9223372036854775806)
    (hs : yss.flatten.length ≤ 140737488355328) {cc : Code} (hcc : cc = loopOf Tryd.f50 0) (v0 : Value) :
    m < n → ∃ e σ1 A1, loopD (some [2, 3, 6, 7, 8]) (exec Tryd.bk.E (callD Tryd.bk base n0) Tryd.f50.ntmps (Tryd.bk.inf 50) n0 cc) n
      [(2, v0), (3, .slice none 0 0), (6, .slice (some ⟨b, o, some 1⟩) m c), (7, .int .i64 m), (8, .int .i64 0)] A0 = some (e, σ1, A1) ∧
      (e = .exit 0 ∧ ∃ v io, σ1 = [(2, v0), (3, v), (6, .slice (some ⟨b, o, some 1⟩) m c), (7, .int .i64 m), (8, .int .i64 m)] ∧
        A1.wf ∧ A0.next ≤ A1.next ∧ (∀ j, j < A0.next → A1.get j = A0.get j) ∧ CanAt 5 1 A1 v io yss.flatten yss.flatten.length ∧ (∀ i, io = some i → A0.next ≤ i ∧ i < A1.next)) := by
  subst hcc
  intro hn
  refine loop_rule (S := JS) (fun s => [(2, v0), (3, s.v), (6, .slice (some ⟨b, o, some 1⟩) m c), (7, .int .i64 m), (8, .int .i64 (s.i : Nat))])
    (fun s A => A.wf ∧ A0.next ≤ A.next ∧ (∀ j, j < A0.next → A.get j = A0.get j) ∧ s.i ≤ m ∧ CanAt 5 1 A s.v s.io s.acc s.acc.length ∧ (∀ i, s.io = some i → A0.next ≤ i ∧ i < A.next) ∧ s.acc = (yss.take s.i).flatten)
    (fun s => m - s.i) _ (fun s A hI => ?_) n ⟨0, .slice none 0 0, none, []⟩ A0 ⟨hw0, Nat.le_refl _, fun _ _ => rfl, Nat.zero_le _, .nil, (by simp), (by simp)⟩ (by simpa using hn)
  obtain ⟨i, v, io, acc⟩ := s
  obtain ⟨h1, h2, h3, h4, h5, h6, h7⟩ := hI
  simp only at h4 h5 h6 h7 ⊢
  by_cases hi : i < m
  · have hblt := hw0.lt hg
    have hg' : A.get b = some (.arr T cs md) := by rw [h3 b hblt]; exact hg
    obtain ⟨x, hxi⟩ : ∃ x, xs[i]? = some x := ⟨_, List.getElem?_eq_getElem (by omega)⟩
    obtain ⟨us, hyi, hxe⟩ := hx i x hxi
    have hxe' : elemsOf A 1 x = some (us.length, us) := elemsOf_keep hxe fun k ob hk _ => h3 k (hw0.lt hk)
    have hsplit : (yss.take (i + 1)).flatten = acc ++ us := by
      rw [h7, List.take_add_one, hyi]; simp
    have hle : (acc ++ us).length ≤ yss.flatten.length := by
      rw [← hsplit]
      have : yss.flatten = (yss.take (i + 1)).flatten ++ (yss.drop (i + 1)).flatten := by rw [← List.flatten_append, List.take_append_drop]
      rw [this, List.length_append]; omega
    have hle2 : acc.length + us.length ≤ 140737488355328 := by rw [List.length_append] at hle; omega
    obtain ⟨v', A', io', a1, a2, a3, a4, a5, a6⟩ := append_can elB elB2 h5 hxe' (by simp) (by omega) (by unfold maxLen; omega)
    have hwr : IntKind.i64.wrap ((i : Int) + 1) = ((i + 1 : Nat) : Int) := by rw [wrap64 (by omega) (by omega)]; omega
    refine ⟨.normal, ?s, A', kexec_run ?run, .inl ⟨rfl, ⟨i + 1, v', io', acc ++ us⟩, ?kp, ⟨a4 h1, by omega, fun j hj => ?fr, by simp only; omega, by simpa using a2, ?ids, hsplit.symm⟩, by simp only; omega⟩⟩
    case fr => rw [a5 j (by omega) (fun e => by have := (h6 j e).1; omega), h3 j hj]
    case ids =>
      intro k hk
      rcases a6 with ⟨e1, e2, _, _⟩ | ⟨k', e1, e2, e3⟩
      · subst e1; subst e2; exact h6 k hk
      · simp only at hk
        rw [e1] at hk; cases hk
        exact ⟨by omega, e3⟩
    case run =>
      conv => lhs; whnf
      rw [kdec (by omega)]
      conv => lhs; whnf
      rw [kdec (by omega)]
      conv => lhs; whnf
      rw [cell_of hg' hu i x hxi ?_]
      rotate_left
      · simp
      conv => lhs; whnf
      rw [a1]
      conv => lhs; whnf
    case kp =>
      show [_, _, _, _, _] = [_, _, _, _, _]
      rw [hwr]
  · have him : i = m := by omega
    subst him
    refine ⟨.exit 0, ?s2, A, kexec_run ?run, .inr ⟨(by simp), rfl, v, io, ?sh, h1, h2, h3, ?fl, h6⟩⟩
    case run =>
      conv => lhs; whnf
      rw [kdecn (by omega)]
    case sh => rfl
    case fl =>
      rw [← hy, List.take_length] at h7
      subst h7
      exact h5

include hb in
/-- the pieces, one behind the other, in memory of their own -/
theorem joined_ok (n : Nat) {A0 : Hp} (hw0 : A0.wf) {b o m c : Nat} {cs xs : List Value} {T : TypeId} {md : Md} (hg : A0.get b = some (.arr T cs md)) (hu : (cs.drop o).take m = xs) (hm : xs.length = m)
    {yss : List (List Value)} (hy : yss.length = m) (hx : ∀ (j : Nat) x, xs[j]? = some x → ∃ us, yss[j]? = some us ∧ elemsOf A0 1 x = some (us.length, us)) (hM : m ≤ 9223372036854775806)
    (hs : yss.flatten.length ≤ 140737488355328) (hn : m < n) :
    ∃ v io A1, callD Tryd.bk base (n + 1) 50 [.slice (some ⟨b, o, some 1⟩) m c] A0 = some (v, A1) ∧
      A1.wf ∧ A0.next ≤ A1.next ∧ (∀ j, j < A0.next → A1.get j = A0.get j) ∧ CanAt 5 1 A1 v io yss.flatten yss.flatten.length ∧ (∀ i, io = some i → A0.next ≤ i ∧ i < A1.next) := by
  obtain ⟨e, σ1, A1, h1, rfl, v, io, rfl, h3, h4, h5, h6, h7⟩ := joined_loop (base := base) n n hw0 hg hu hm hy hx hM hs (c := c) rfl (.slice none 0 0) hn
  refine ⟨v, io, A1, callD_of (hb _ _ _ (by decide)) (fn := Tryd.f50) rfl ?_, h3, h4, h5, h6, h7⟩
  conv => lhs; whnf
  refine bind_of h1 ?_
  conv => lhs; whnf
  rfl

end Go.Dn.Pipe
end

section
namespace Go.Dn.Pipe
open Go.Proofs
set_option maxHeartbeats 4000000


attribute [local irreducible] Hp.get Hp.set Hp.push dappend dcopy dstore cellsAt callD loopD

variable {base : CallT} (hb : ∀ f args A, f ∉ [61, 12, 20, 38, 27] → base f args A = none)
include hb

theorem pipe_new (n : Nat) {A : Hp} : callD Tryd.bk base (n + 2) 13 [] A = some (ptr (A.next + 1), (A.push (.arr 141 [.int .i64 9223372036854775807, .int .i64 9223372036854775807, .slice none 0 0, .int .i64 0] .own)).push
    (.arr 100 [ptr A.next, .int .i64 0, .int .u64 0, .bool false] .own)) := by
  have h48 : callD Tryd.bk base (n + 1) 48 [.int .i64 9223372036854775807, .int .i64 9223372036854775807] A =
      some (.tuple #[ptr A.next, .nilIface], A.push (.arr 141 [.int .i64 9223372036854775807, .int .i64 9223372036854775807, .slice none 0 0, .int .i64 0] .own)) := by
    refine callD_of (hb _ _ _ (by decide)) (fn := Tryd.f48) rfl ?_
    conv => lhs; whnf
    rfl
  refine callD_of (hb _ _ _ (by decide)) (fn := Tryd.f13) rfl ?_
  conv => lhs; whnf
  rw [h48]
  conv => lhs; whnf
  with_unfolding_all rfl

theorem pipe_passed (n : Nat) {A : Hp} {p : Nat} {a b s c : Value} {T : TypeId} {md : Md} (hp : A.get p = some (.arr T [a, b, s, c] md)) :
    callD Tryd.bk base (n + 1) 18 [ptr p] A = some (s, A) := by
  refine callD_of (hb _ _ _ (by decide)) (fn := Tryd.f18) rfl ?_
  conv => lhs; whnf
  rw [cellsAt_of hp]
  conv => lhs; whnf
  rfl

theorem pipe_broken (n : Nat) {A : Hp} {p : Nat} {a b s : Value} {c : Bool} {T : TypeId} {md : Md} (hp : A.get p = some (.arr T [a, b, s, .bool c] md)) :
    callD Tryd.bk base (n + 1) 19 [ptr p] A = some (.bool c, A) := by
  refine callD_of (hb _ _ _ (by decide)) (fn := Tryd.f19) rfl ?_
  conv => lhs; whnf
  rw [cellsAt_of hp]
  conv => lhs; whnf
  rfl

theorem pipe_len (n : Nat) {A : Hp} {p f : Nat} {g w : Int} {a b s c d : Value} {T T2 : TypeId} {md md2 : Md}
    (hp : A.get p = some (.arr T [ptr f, .int .i64 g, s, c] md)) (hf : A.get f = some (.arr T2 [a, b, d, .int .i64 w] md2)) (hne : f ≠ p) :
    callD Tryd.bk base (n + 2) 16 [ptr p] A = some (.int .i64 (IntKind.i64.wrap (w - g)), A) := by
  refine callD_of (hb _ _ _ (by decide)) (fn := Tryd.f16) rfl ?_
  conv => lhs; whnf
  rw [cellsAt_of hp]
  conv => lhs; whnf
  rw [cellsAt_of hp]
  conv => lhs; whnf
  rw [fifo_weight hb n (by rw [guard1_ne hne]; exact hf)]
  conv => lhs; whnf
  rw [back1 hp]
  rfl

theorem fifo_put (n : Nat) {A : Hp} {f : Nat} {t mo k w : Int} {rv : Value} {io : Option Nat} {us : List Value} {m : Nat} {xi xo xn xc : Nat}
    (hw : A.wf) (hf : A.get f = some (.arr 141 [.int .i64 t, .int .i64 mo, rv, .int .i64 w] .own)) (hr : SlAt 143 2 A rv io us m) (hk : 0 ≤ k) (hmt : (m : Int) < t) (hw0 : 0 ≤ w) (hmo : w + k ≤ mo) (hmo2 : mo ≤ 9223372036854775807)
    (hm : m ≤ 1000000000000) :
    ∃ rv' io' A', callD Tryd.bk base (n + 1) 49 [ptr f, .slice (some ⟨xi, xo, some 1⟩) xn xc, .int .i64 k] A = some (.nilIface, A') ∧ A'.wf ∧ A.next ≤ A'.next ∧
      A'.get f = some (.arr 141 [.int .i64 t, .int .i64 mo, rv', .int .i64 (w + k)] .own) ∧ SlAt 143 2 A' rv' io' (us ++ [.slice (some ⟨xi, xo, some 1⟩) xn xc, .int .i64 k]) (m + 1) ∧
      (∀ j, j < A.next → j ≠ f → io ≠ some j → A'.get j = A.get j) ∧ (∃ i', io' = some i' ∧ A.next ≤ i' ∧ i' < A'.next) := by
  have hwr : IntKind.i64.wrap (mo - w) = mo - w := wrap64 (by omega) (by omega)
  have hwr2 : IntKind.i64.wrap (w + k) = w + k := wrap64 (by omega) (by omega)
  generalize hx : Value.slice (some ⟨xi, xo, some 1⟩) xn xc = x
  have hA1 : (A.push (.arr 143 [x, .int .i64 k] .own)).wf := hw.push _
  have hfl := hw.lt hf
  have hr1 : SlAt 143 2 (A.push (.arr 143 [x, .int .i64 k] .own)) rv io us m := hr.keep fun i hi => by
    subst hi
    obtain ⟨cs, hcs⟩ := hr.lt
    exact Hp.get_push_ne _ _ (by have := hw.lt hcs; omega)
  have hx1 : elemsOf (A.push (.arr 143 [x, .int .i64 k] .own)) 2 (.slice (some ⟨A.next, 0, some 2⟩) 1 3) = some (1, [x, .int .i64 k]) := by
    show (cellsAt _ A.next 0 (1 * 2)).map _ = _
    rw [cellsAt_of (Hp.get_push_same _ _)]
    rfl
  obtain ⟨rv', A2, io', a1, a2, a3, a4, a5, a6⟩ := append_at elR elR2 hr1 hx1 (by simp) (by omega) (by unfold maxLen; omega)
  simp only [Hp.next_push] at a3 a5 a6
  have hne : io ≠ some f := by
    rintro rfl
    obtain ⟨cs, hcs⟩ := hr.lt
    rw [hf] at hcs; cases hcs
  have hf1 : (A.push (.arr 143 [x, .int .i64 k] .own)).get f = some (.arr 141 [.int .i64 t, .int .i64 mo, rv, .int .i64 w] .own) := by rw [Hp.get_push_ne _ _ (by omega), hf]
  have hf2 : A2.get f = some (.arr 141 [.int .i64 t, .int .i64 mo, rv, .int .i64 w] .own) := by rw [a5 f (by omega) hne, hf1]
  have hA2 := a4 hA1
  have hio' : ∃ i', io' = some i' ∧ A.next + 1 ≤ i' ∧ i' < A2.next := by
    rcases a6 with ⟨_, _, _, h⟩ | h
    · cases h
    · exact h
  have hne' : io' ≠ some f := by
    obtain ⟨i', h1, h2, h3⟩ := hio'
    rw [h1]; intro e; cases e; omega
  obtain ⟨i', hi1, hi2, hi3⟩ := hio'
  subst hi1
  obtain ⟨o', n', c', rfl⟩ : ∃ o' n' c', rv' = .slice (some ⟨i', o', some 2⟩) n' c' := by
    cases a2 with
    | «at» => exact ⟨_, _, _, rfl⟩
  have hrun : callD Tryd.bk base (n + 1) 49 [ptr f, x, .int .i64 k] A = some (.nilIface, (A2.set f (some (.arr 141 [.int .i64 t, .int .i64 mo, (.slice (some ⟨i', o', some 2⟩) n' c'), .int .i64 w] .own))).set f (some (.arr 141 [.int .i64 t, .int .i64 mo, (.slice (some ⟨i', o', some 2⟩) n' c'), .int .i64 (w + k)] .own))) := by
    clear a2 a3 a4 a5 a6 hr1 hx1 hne'
    subst hx
    cases hr with
    | nil =>
      refine callD_of (hb _ _ _ (by decide)) (fn := Tryd.f49) rfl ?_
      conv => lhs; whnf
      rw [kdecn (by omega)]
      conv => lhs; whnf
      rw [cellsAt_of hf]
      conv => lhs; whnf
      rw [cellsAt_of hf]
      conv => lhs; whnf
      rw [kdecn (by omega)]
      conv => lhs; whnf
      rw [cellsAt_of hf]
      conv => lhs; whnf
      rw [cellsAt_of hf]
      conv => lhs; whnf
      rw [hwr, kdecn (by omega)]
      conv => lhs; whnf
      rw [cellsAt_of hf]
      conv => lhs; whnf
      refine bind_of a1 ?_
      conv => lhs; whnf
      refine bind_of (dstore_of hf2 (t := 139) (o := 2) (cs' := [.int .i64 t, .int .i64 mo, .slice (some ⟨i', o', some 2⟩) n' c', .int .i64 w]) rfl) ?_
      conv => lhs; whnf
      rw [cellsAt_of (Hp.get_set_same _ _ _)]
      conv => lhs; whnf
      refine bind_of (dstore_of (Hp.get_set_same _ _ _) (t := 3) (o := 3) (cs' := [.int .i64 t, .int .i64 mo, .slice (some ⟨i', o', some 2⟩) n' c', .int .i64 (IntKind.i64.wrap (w + k))]) rfl) ?_
      conv => lhs; whnf
      rw [hwr2]
      rfl
    | «at» =>
      refine callD_of (hb _ _ _ (by decide)) (fn := Tryd.f49) rfl ?_
      conv => lhs; whnf
      rw [kdecn (by omega)]
      conv => lhs; whnf
      rw [cellsAt_of hf]
      conv => lhs; whnf
      rw [cellsAt_of hf]
      conv => lhs; whnf
      rw [kdecn (by omega)]
      conv => lhs; whnf
      rw [cellsAt_of hf]
      conv => lhs; whnf
      rw [cellsAt_of hf]
      conv => lhs; whnf
      rw [hwr, kdecn (by omega)]
      conv => lhs; whnf
      rw [cellsAt_of hf]
      conv => lhs; whnf
      refine bind_of a1 ?_
      conv => lhs; whnf
      refine bind_of (dstore_of hf2 (t := 139) (o := 2) (cs' := [.int .i64 t, .int .i64 mo, .slice (some ⟨i', o', some 2⟩) n' c', .int .i64 w]) rfl) ?_
      conv => lhs; whnf
      rw [cellsAt_of (Hp.get_set_same _ _ _)]
      conv => lhs; whnf
      refine bind_of (dstore_of (Hp.get_set_same _ _ _) (t := 3) (o := 3) (cs' := [.int .i64 t, .int .i64 mo, .slice (some ⟨i', o', some 2⟩) n' c', .int .i64 (IntKind.i64.wrap (w + k))]) rfl) ?_
      conv => lhs; whnf
      rw [hwr2]
      rfl
  subst hx
  refine ⟨_, some i', _, hrun, (hA2.put hf2 _).put (Hp.get_set_same _ _ _) _, by simp only [Hp.next_set]; omega, Hp.get_set_same _ _ _, ?_, fun j hj hjf hji => ?_, ⟨i', rfl, by omega, by simp only [Hp.next_set]; omega⟩⟩
  · refine SlAt.keep a2 fun j hj => ?_
    cases hj
    rw [Hp.get_set_ne _ _ (by omega), Hp.get_set_ne _ _ (by omega)]
  · rw [Hp.get_set_ne _ _ hjf, Hp.get_set_ne _ _ hjf, a5 j (by omega) hji, Hp.get_push_ne _ _ (by omega)]

end Go.Dn.Pipe
end

section
namespace Go.Dn.Pipe
open Go.Proofs
set_option maxHeartbeats 4000000
attribute [local irreducible] Hp.get Hp.set Hp.push dappend dcopy dstore cellsAt callD loopD

variable {base : CallT} (hb : ∀ f args A, f ∉ [61, 12, 20, 38, 27] → base f args A = none)
include hb

theorem fifo_get (n : Nat) {A : Hp} {f : Nat} {t mo k w : Int} {rv x : Value} {io : Option Nat} {us : List Value} {m : Nat}
    (hw : A.wf) (hf : A.get f = some (.arr 141 [.int .i64 t, .int .i64 mo, rv, .int .i64 w] .own)) (hr : SlAt 143 2 A rv io (x :: .int .i64 k :: us) (m + 1))
    (h1 : -9223372036854775808 ≤ w - k) (h2 : w - k ≤ 9223372036854775807) :
    ∃ rv' A', callD Tryd.bk base (n + 3) 53 [ptr f] A = some (.tuple #[x, .int .i64 k, .bool true], A') ∧ A'.wf ∧ A'.next = A.next ∧
      A'.get f = some (.arr 141 [.int .i64 t, .int .i64 mo, rv', .int .i64 (w - k)] .own) ∧ SlAt 143 2 A' rv' io us m ∧
      (∀ j, j ≠ f → io ≠ some j → A'.get j = A.get j) := by
  have hhead := head_some hb n hf hr
  have hwr : IntKind.i64.wrap (w - k) = w - k := wrap64 h1 h2
  cases hr with
  | «at» i o _ c cs _ hc hg hl hu =>
  have hif : f ≠ i := by
    rintro rfl
    rw [hf] at hg; cases hg
  have hA1 : (A.set i (some (.arr 143 (cellsPut cs o [.slice none 0 0, .int .i64 0]) .own))).get f = some (.arr 141 [.int .i64 t, .int .i64 mo, .slice (some ⟨i, o, some 2⟩) (m + 1) c, .int .i64 w] .own) := by
    rw [Hp.get_set_ne _ _ hif, hf]
  have hlp : o + 2 ≤ cs.length := by omega
  have hrun : callD Tryd.bk base (n + 3) 53 [ptr f] A = some (.tuple #[x, .int .i64 k, .bool true],
      ((A.set i (some (.arr 143 (cellsPut cs o [.slice none 0 0, .int .i64 0]) .own))).set f (some (.arr 141 [.int .i64 t, .int .i64 mo, .slice (some ⟨i, o + 2, some 2⟩) m (2 * (c / 2 - 1) + c % 2), .int .i64 w] .own))).set f
        (some (.arr 141 [.int .i64 t, .int .i64 mo, .slice (some ⟨i, o + 2, some 2⟩) m (2 * (c / 2 - 1) + c % 2), .int .i64 (w - k)] .own))) := by
    refine callD_of (hb _ _ _ (by decide)) (fn := Tryd.f53) rfl ?_
    conv => lhs; whnf
    rw [hhead]
    conv => lhs; whnf
    rw [cellsAt_of hf]
    conv => lhs; whnf
    rw [kdec (by omega)]
    conv => lhs; whnf
    refine bind_of (dstore_at hg (t := 143) (ti := Tryd.ti143) rfl [.slice none 0 0, .int .i64 0] rfl rfl rfl hlp) ?_
    conv => lhs; whnf
    refine bind_of (cellsAt_of hA1 2 1) ?_
    conv => lhs; whnf
    rw [kdec (by omega)]
    conv => lhs; whnf
    refine bind_of (dstore_of hA1 (t := 139) (o := 2) (cs' := [.int .i64 t, .int .i64 mo, .slice (some ⟨i, o + 2, some 2⟩) m (2 * (c / 2 - 1) + c % 2), .int .i64 w]) rfl) ?_
    conv => lhs; whnf
    rw [cellsAt_of (Hp.get_set_same _ _ _)]
    conv => lhs; whnf
    refine bind_of (dstore_of (Hp.get_set_same _ _ _) (t := 3) (o := 3) (cs' := [.int .i64 t, .int .i64 mo, .slice (some ⟨i, o + 2, some 2⟩) m (2 * (c / 2 - 1) + c % 2), .int .i64 (IntKind.i64.wrap (w - k))]) rfl) ?_
    conv => lhs; whnf
    rw [hwr]
    rfl
  have hwf1 := hw.put hg (.arr 143 (cellsPut cs o [.slice none 0 0, .int .i64 0]) .own)
  refine ⟨_, _, hrun, (hwf1.put hA1 _).put (Hp.get_set_same _ _ _) _, (by simp only [Hp.next_set]), Hp.get_set_same _ _ _, ?_, fun j hj hji => ?_⟩
  · refine .at i (o + 2) m _ (cellsPut cs o [.slice none 0 0, .int .i64 0]) us (by omega) ?_ ?_ ?_
    · rw [Hp.get_set_ne _ _ (fun e => hif e.symm), Hp.get_set_ne _ _ (fun e => hif e.symm), Hp.get_set_same]
    · rw [cellsPut_length (by simpa using hlp)]; omega
    · rw [cellsPut_drop (by simpa using hlp) (by simp)]
      have : (m + 1) * 2 = m * 2 + 2 := by omega
      rw [this] at hu
      have h3 : ((cs.drop o).take (m * 2 + 2)).drop 2 = us := by rw [hu]; rfl
      rw [← h3, List.drop_take, List.drop_drop]
      simp
  · rw [Hp.get_set_ne _ _ hj, Hp.get_set_ne _ _ hj, Hp.get_set_ne _ _ (fun e => hji (by rw [e]))]

end Go.Dn.Pipe
end

section
namespace Go.Dn.Pipe
open Go.Proofs
set_option maxHeartbeats 4000000
attribute [local irreducible] Hp.get Hp.set Hp.push dappend dcopy dstore cellsAt callD loopD

/-- a piece: its number, its slice, its bytes -/
structure Pc where
  i : Nat
  v : Value
  us : List Value

def rowOf (x : Pc) : List Value := [x.v, .int .i64 x.us.length]
def total : List Pc → Nat
  | [] => 0
  | x :: l => x.us.length + total l

def inMax : Value := .int .i64 9223372036854775807

structure IsPipe (A : Hp) (p f : Nat) (io : Option Nat) (ps : List Pc) (g : Nat) (s : Int) (c : Bool) : Prop where
  hp : A.get p = some (.arr 100 [ptr f, .int .i64 g, .int .u64 s, .bool c] .own)
  hf : ∃ rv, A.get f = some (.arr 141 [inMax, inMax, rv, .int .i64 (total ps)] .own) ∧ SlAt 143 2 A rv io (ps.flatMap rowOf) ps.length
  hx : ∀ x ∈ ps, SlAt 5 1 A x.v (some x.i) x.us x.us.length ∧ x.us ≠ []
  hg : g = 0 ∨ ∃ x ps', ps = x :: ps' ∧ g < x.us.length

theorem total_append (l : List Pc) (y : Pc) : total (l ++ [y]) = total l + y.us.length := by
  induction l with
  | nil => simp [total]
  | cons x l ih => simp only [List.cons_append, total, ih]; omega

theorem IsPipe.keep {A A' : Hp} {p f : Nat} {io : Option Nat} {ps : List Pc} {g : Nat} {s : Int} {c : Bool} (h : IsPipe A p f io ps g s c)
    (hk : ∀ j o, A.get j = some o → (j = p ∨ j = f ∨ io = some j ∨ ∃ x ∈ ps, x.i = j) → A'.get j = A.get j) : IsPipe A' p f io ps g s c := by
  obtain ⟨rv, h1, h2⟩ := h.hf
  refine ⟨by rw [hk p _ h.hp (.inl rfl)]; exact h.hp, ⟨rv, by rw [hk f _ h1 (.inr (.inl rfl))]; exact h1, h2.keep fun i hi => ?_⟩, fun x hx => ⟨(h.hx x hx).1.keep fun i hi => ?_, (h.hx x hx).2⟩, h.hg⟩
  · subst hi
    obtain ⟨cs, hcs⟩ := h2.lt
    exact hk i _ hcs (.inr (.inr (.inl rfl)))
  · cases hi
    obtain ⟨cs, hcs⟩ := (h.hx x hx).1.lt
    exact hk x.i _ hcs (.inr (.inr (.inr ⟨x, hx, rfl⟩)))

variable {base : CallT} (hb : ∀ f args A, f ∉ [61, 12, 20, 38, 27] → base f args A = none)
include hb

theorem pipe_put (n : Nat) {A : Hp} {p f : Nat} {io : Option Nat} {ps : List Pc} {g : Nat} {s : Int} (h : IsPipe A p f io ps g s false) (hw : A.wf) {bi bo bn bc : Nat} {us : List Value}
    (he : elemsOf A 1 (.slice (some ⟨bi, bo, some 1⟩) bn bc) = some (bn, us)) (hus : us.length = bn) (hpos : 0 < bn) (hbp : bi ≠ p) (hbn : total ps + bn ≤ 140737488355328) (hps : ps.length ≤ 1000000000000) (hn : 1 < n) :
    ∃ io' A' y, callD Tryd.bk base (n + 2) 14 [ptr p, .slice (some ⟨bi, bo, some 1⟩) bn bc] A = some (.tuple #[.int .i64 bn, .nilIface], A') ∧ A'.wf ∧ A.next ≤ A'.next ∧
      IsPipe A' p f io' (ps ++ [y]) g s false ∧ y.us = us ∧ A.next ≤ y.i ∧ y.i < A'.next ∧ (∀ j, j < A.next → j ≠ f → io ≠ some j → A'.get j = A.get j) ∧ (∃ i', io' = some i' ∧ A.next ≤ i' ∧ i' < A'.next) := by
  obtain ⟨rv, h1, h2⟩ := h.hf
  obtain ⟨k, rfl⟩ : ∃ k, bn = k + 1 := ⟨bn - 1, by omega⟩
  have hg1 : (A.push (.arr 22 [.slice (some ⟨bi, bo, some 1⟩) (k + 1) bc] .own)).get p = some (.arr 100 [ptr f, .int .i64 g, .int .u64 s, .bool false] .own) := by
    rw [Hp.get_push_ne _ _ (by have := hw.lt h.hp; omega)]; exact h.hp
  have hpl := hw.lt h.hp
  have hfl := hw.lt h1
  have hfp : f ≠ p := by rintro rfl; rw [h.hp] at h1; cases h1
  have hiop : io ≠ some p := by
    rintro rfl
    obtain ⟨cs, hcs⟩ := h2.lt
    rw [h.hp] at hcs; cases hcs
  have hiof : io ≠ some f := by
    rintro rfl
    obtain ⟨cs, hcs⟩ := h2.lt
    rw [h1] at hcs; cases hcs
  generalize hA1 : A.push (.arr 22 [.slice (some ⟨bi, bo, some 1⟩) (k + 1) bc] .own) = A1 at hg1
  have hA1n : A1.next = A.next + 1 := by rw [← hA1]; simp
  have hA1g : ∀ j, j < A.next → A1.get j = A.get j := fun j hj => by rw [← hA1]; exact Hp.get_push_ne _ _ (by omega)
  have hA1w : A1.wf := by rw [← hA1]; exact hw.push _
  have hGp : guardL (hideL A1 []) [p] = A1.set p (some (.arr 100 [ptr f, .int .i64 g, .int .u64 s, .bool false] .ro)) := by
    show A1.set p ((A1.get p).bind toRoO) = _
    rw [hg1]; rfl
  have hGw : (guardL (hideL A1 []) [p]).wf := by rw [hGp]; exact hA1w.put hg1 _
  have hGn : (guardL (hideL A1 []) [p]).next = A.next + 1 := by rw [hGp, Hp.next_set]; exact hA1n
  have hGg : ∀ j, j ≠ p → (guardL (hideL A1 []) [p]).get j = A1.get j := fun j hj => guard1_ne hj
  obtain ⟨v, ioj, A2, j1, j2, j3, j4, j5, j6⟩ := joined_ok hb n hGw (b := A.next) (o := 0) (m := 1) (c := 3) (cs := [.slice (some ⟨bi, bo, some 1⟩) (k + 1) bc]) (xs := [.slice (some ⟨bi, bo, some 1⟩) (k + 1) bc]) (T := 22) (md := .own)
    (by rw [hGg _ (by omega), ← hA1]; exact Hp.get_push_same _ _) rfl rfl (yss := [us]) rfl
    (by
      intro j x hx
      match j, hx with
      | 0, hx =>
        simp only [List.getElem?_cons_zero, Option.some.injEq] at hx
        subst hx
        refine ⟨us, rfl, ?_⟩
        rw [hus]
        refine elemsOf_keep he fun i o hi hb => ?_
        obtain ⟨b', o', s', n', c', e1, e2⟩ := hb
        cases e1
        subst e2
        rw [hGg _ hbp, hA1g _ (hw.lt hi)])
    (by omega) (by simp; omega) hn
  have hfl2 : [us].flatten = us := by simp
  rw [hfl2] at j5
  rw [hGn] at j3 j4 j6
  have hA3 : backL A1 (backL A1 A2 [p]) [] = A2.set p (some (.arr 100 [ptr f, .int .i64 g, .int .u64 s, .bool false] .own)) := by
    show A2.set p (A1.get p) = _
    rw [hg1]
  have hA2p : A2.get p = some (.arr 100 [ptr f, .int .i64 g, .int .u64 s, .bool false] .ro) := by rw [j4 p (by omega), hGp, Hp.get_set_same]
  have hA3w : (backL A1 (backL A1 A2 [p]) []).wf := by rw [hA3]; exact j2.put hA2p _
  have hA3n : (backL A1 (backL A1 A2 [p]) []).next = A2.next := by rw [hA3, Hp.next_set]
  have hA3g : ∀ j, j < A.next → (backL A1 (backL A1 A2 [p]) []).get j = A.get j := by
    intro j hj
    rw [hA3]
    by_cases e : j = p
    · subst e; rw [Hp.get_set_same, h.hp]
    · rw [Hp.get_set_ne _ _ e, j4 j (by omega), hGg j e, hA1g j hj]
  generalize hA3e : backL A1 (backL A1 A2 [p]) [] = A3 at hA3 hA3w hA3n hA3g
  cases j5 with
  | nil => simp at hus
  | «at» yi _ _ yh2 yl yn =>
  have hy := j6 yi rfl
  have hf3 : A3.get f = some (.arr 141 [inMax, inMax, rv, .int .i64 (total ps)] .own) := by rw [hA3g f hfl, h1]
  have hr3 : SlAt 143 2 A3 rv io (ps.flatMap rowOf) ps.length := h2.keep fun i hi => by
    subst hi
    obtain ⟨cs, hcs⟩ := h2.lt
    exact hA3g i (hw.lt hcs)
  obtain ⟨rv', io', A4, q1, q2, q3, q4, q5, q6, q7⟩ := fifo_put hb n (A := A3) (f := f) (t := 9223372036854775807) (mo := 9223372036854775807) (k := ((k + 1 : Nat) : Int)) (w := (total ps : Int)) (rv := rv) (io := io)
    (us := ps.flatMap rowOf) (m := ps.length) (xi := yi) (xo := 0) (xn := us.length) (xc := 2 * us.length) hA3w hf3 hr3 (by omega) (by omega) (by omega) (by omega) (by omega) hps
  have hrun : callD Tryd.bk base (n + 2) 14 [ptr p, .slice (some ⟨bi, bo, some 1⟩) (k + 1) bc] A = some (.tuple #[.int .i64 ((k + 1 : Nat) : Int), .nilIface], A4) := by
    refine callD_of (hb _ _ _ (by decide)) (fn := Tryd.f14) rfl ?_
    conv => lhs; whnf
    rw [cellsAt_of h.hp]
    conv => lhs; whnf
    rw [cellsAt_of h.hp]
    conv => lhs; whnf
    rw [← hA1] at j1
    refine bind_of j1 ?_
    rw [← hA1] at hA3e
    subst hA3e
    conv => lhs; whnf
    refine bind_of q1 ?_
    conv => lhs; whnf
    rfl
  have hpp : p ≠ f := fun e => hfp e.symm
  have hyf : yi ≠ f := by omega
  have hyio : io ≠ some yi := by
    rintro rfl
    obtain ⟨cs, hcs⟩ := h2.lt
    have := hw.lt hcs
    omega
  refine ⟨io', A4, ⟨yi, .slice (some ⟨yi, 0, some 1⟩) us.length (2 * us.length), us⟩, hrun, q2, by omega, ⟨?_, ⟨rv', ?_, ?_⟩, fun x hx => ?_, ?_⟩, rfl, by show A.next ≤ yi; omega, by show yi < A4.next; omega, fun j hj hjf hji => ?_, ?_⟩
  · rw [q6 p (by omega) hpp hiop, hA3g p hpl]; exact h.hp
  · rw [q4, total_append]
    simp only [hus]
    rfl
  · rw [List.flatMap_append, List.length_append]
    simp only [List.flatMap_cons, List.flatMap_nil, List.append_nil, rowOf, List.length_singleton, hus]
    rw [hus] at q5
    exact q5
  · rcases List.mem_append.1 hx with hx | hx
    · obtain ⟨a1, a2⟩ := h.hx x hx
      refine ⟨a1.keep fun i hi => ?_, a2⟩
      cases hi
      obtain ⟨cs, hcs⟩ := a1.lt
      have hxf : x.i ≠ f := by intro e; rw [e, h1] at hcs; cases hcs
      have hxio : io ≠ some x.i := by
        rintro rfl
        obtain ⟨cs2, hcs2⟩ := h2.lt
        rw [hcs2] at hcs; cases hcs
      have hxl := hw.lt hcs
      rw [q6 x.i (by omega) hxf hxio, hA3g x.i hxl]
    · simp only [List.mem_singleton] at hx
      subst hx
      have hyg : A4.get yi = A2.get yi := by
        rw [q6 yi (by omega) hyf hyio, hA3, Hp.get_set_ne _ _ (by omega)]
      exact ⟨(CanAt.at yi us.length us (by rw [hyg]; exact yh2) (by simp) yn).slAt, by intro e; subst e; simp at hus⟩
  · rcases h.hg with e | ⟨x, ps', e1, e2⟩
    · exact .inl e
    · exact .inr ⟨x, ps' ++ [_], by rw [e1]; rfl, e2⟩
  · rw [q6 j (by omega) hjf hji, hA3g j hj]
  · obtain ⟨i', e1, e2, e3⟩ := q7
    exact ⟨i', e1, by omega, e3⟩

end Go.Dn.Pipe
end

section
namespace Go.Dn.Pipe
open Go.Proofs
set_option maxHeartbeats 4000000
set_option maxRecDepth 100000
attribute [local irreducible] Hp.get Hp.set Hp.push dappend dcopy dstore cellsAt callD loopD

theorem elP : ElT Tryd.bk.E 59 22 1 24 := ⟨⟨_, rfl, rfl⟩, ⟨_, _, rfl, rfl, rfl, rfl, rfl⟩, by decide⟩
theorem elP2 : ∃ i e2, Tryd.bk.E.T 59 = some i ∧ i.d = .slice e2 := ⟨_, _, rfl, rfl⟩

/-- what is under way -/
def flow (ps : List Pc) (g : Nat) : List Value := (ps.flatMap (·.us)).drop g

theorem flow_len : ∀ (ps : List Pc), (ps.flatMap (·.us)).length = total ps
  | [] => rfl
  | x :: l => by simp only [List.flatMap_cons, List.length_append, total, flow_len l]

theorem nle {a b c : Nat} (h1 : b ≤ c - a) (h2 : a < c) : a + b ≤ c := by omega

variable {base : CallT} (hb : ∀ f args A, f ∉ [61, 12, 20, 38, 27] → base f args A = none)
include hb

theorem move_step (m : Nat) {A : Hp} {p f : Nat} {io : Option Nat} {x : Pc} {ps : List Pc} {g : Nat} {s : Int} {c : Bool} (h : IsPipe A p f io (x :: ps) g s c) (hw : A.wf) (hgx : g < x.us.length)
    {n : Int} (hn : 0 < n) (hn2 : n ≤ 9223372036854775807) (hT : total (x :: ps) ≤ 140737488355328) {pv : Value} {pio : Option Nat} {pes : List Value} {pn : Nat} (hp : SlAt 22 1 A pv pio pes pn) (hpn : pn ≤ 1000000000000)
    (hpio : pio ≠ some p ∧ pio ≠ some f ∧ pio ≠ io) {kN : Nat} (hk : (kN : Int) = if ((x.us.length - g : Nat) : Int) < n then ((x.us.length - g : Nat) : Int) else n) :
    ∃ σ1 A' ps' g' pv' pio' part, exec Tryd.bk.E (callD Tryd.bk base (m + 3)) Tryd.f17.ntmps (Tryd.bk.inf 17) (m + 3) (loopOf Tryd.f17 0) [(0, ptr p), (1, .int .i64 n), (4, .slice none 0 0), (5, pv)] A = some (.normal, σ1, A') ∧
      keepSl (some [0, 1, 4, 5]) σ1 = [(0, ptr p), (1, .int .i64 (n - kN)), (4, .slice none 0 0), (5, pv')] ∧ A'.wf ∧ A.next ≤ A'.next ∧ IsPipe A' p f io ps' g' (IntKind.u64.wrap (s + IntKind.u64.wrap kN)) c ∧
      SlAt 22 1 A' pv' pio' (pes ++ [part]) (pn + 1) ∧ elemsOf A' 1 part = some (kN, (x.us.drop g).take kN) ∧ (∃ o k c cs, part = .slice (some ⟨x.i, o, some 1⟩) k c ∧ A'.get x.i = some (.arr 5 cs .own)) ∧
      (∀ j, j < A.next → j ≠ p → j ≠ f → io ≠ some j → pio ≠ some j → A'.get j = A.get j) ∧ (∃ i', pio' = some i' ∧ A.next ≤ i' ∧ i' < A'.next) ∧
      ((g + kN = x.us.length ∧ ps' = ps ∧ g' = 0) ∨ (g + kN < x.us.length ∧ ps' = x :: ps ∧ g' = g + kN)) := by
  obtain ⟨rv, h1, h2⟩ := h.hf
  obtain ⟨hx1, hx2⟩ := h.hx x (by simp)
  obtain ⟨xi, xv, us⟩ := x
  simp only at hx1 hx2 hgx hk
  have hfp : f ≠ p := by rintro rfl; rw [h.hp] at h1; cases h1
  have hTx : total (⟨xi, xv, us⟩ :: ps) = us.length + total ps := rfl
  have hwl : IntKind.i64.wrap ((total (⟨xi, xv, us⟩ :: ps) : Int) - (g : Int)) = ((total (⟨xi, xv, us⟩ :: ps) - g : Nat) : Int) := by rw [wrap64 (by omega) (by omega)]; omega
  have hwx : IntKind.i64.wrap ((us.length : Int) - (g : Int)) = ((us.length - g : Nat) : Int) := by rw [wrap64 (by omega) (by omega)]; omega
  have hkl : kN ≤ us.length - g ∧ 0 < kN := by split at hk <;> omega
  have hwg : IntKind.i64.wrap ((g : Int) + (kN : Int)) = ((g + kN : Nat) : Int) := by rw [wrap64 (by omega) (by omega)]; omega
  cases hx1 with
  | «at» _ xo _ xc xcs _ xh1 xh2 xh3 xh4 =>
  have d1 : n > 0 := hn
  have d2 : ((total (⟨xi, .slice (some ⟨xi, xo, some 1⟩) us.length xc, us⟩ :: ps) - g : Nat) : Int) > 0 := by omega
  have d3 : (0 : Int) ≤ ((g + kN : Nat) : Int) := by omega
  have d4 : ((g + kN : Nat) : Int) ≤ ((xc / 2 : Nat) : Int) := by omega
  have d5 : ((g : Nat) : Int) ≤ ((Int.toNat ((g + kN : Nat) : Int) : Nat) : Int) := by omega
  have hpl := hw.lt h.hp
  have hpart : elemsOf (A.push (.arr 22 [.slice (some ⟨xi, xo + g * 1, some 1⟩) (g + kN - g) (2 * (xc / 2 - g) + xc % 2)] .own)) 1 (.slice (some ⟨A.next, 0, some 1⟩) 1 3) =
      some (1, [.slice (some ⟨xi, xo + g * 1, some 1⟩) (g + kN - g) (2 * (xc / 2 - g) + xc % 2)]) := by
    show (cellsAt _ A.next 0 (1 * 1)).map _ = _
    rw [cellsAt_of (Hp.get_push_same _ _)]
    rfl
  have hp1 : SlAt 22 1 (A.push (.arr 22 [.slice (some ⟨xi, xo + g * 1, some 1⟩) (g + kN - g) (2 * (xc / 2 - g) + xc % 2)] .own)) pv pio pes pn := hp.keep fun i hi => by
    subst hi
    obtain ⟨cs, hcs⟩ := hp.lt
    exact Hp.get_push_ne _ _ (by have := hw.lt hcs; omega)
  obtain ⟨pv', A2, pio', a1, a2, a3, a4, a5, a6⟩ := append_at elP elP2 hp1 hpart (by simp) (by omega) (by unfold maxLen; omega)
  simp only [Hp.next_push] at a3 a5 a6
  have hp2 : A2.get p = some (.arr 100 [ptr f, .int .i64 g, .int .u64 s, .bool c] .own) := by rw [a5 p (by omega) hpio.1, Hp.get_push_ne _ _ (by omega)]; exact h.hp
  have hwn : IntKind.i64.wrap (n - (kN : Int)) = n - kN := wrap64 (by omega) (by omega)
  have hn3 : (kN : Int) ≤ n := by split at hk <;> omega
  have hiop : io ≠ some p := by
    rintro rfl
    obtain ⟨cs, hcs⟩ := h2.lt
    rw [h.hp] at hcs; cases hcs
  have hiof : io ≠ some f := by
    rintro rfl
    obtain ⟨cs, hcs⟩ := h2.lt
    rw [h1] at hcs; cases hcs
  have hfl := hw.lt h1
  have hA2w := a4 (hw.push _)
  have hpe : (us.drop g).take kN = (xcs.drop (xo + g)).take kN := by
    rw [← xh4, List.drop_take, List.drop_drop, List.take_take]
    congr 1
    omega
  have hpart2 : ∀ A' : Hp, A'.get xi = some (.arr 5 xcs .own) → elemsOf A' 1 (.slice (some ⟨xi, xo + g * 1, some 1⟩) (g + kN - g) (2 * (xc / 2 - g) + xc % 2)) = some (kN, (us.drop g).take kN) := by
    intro A' hg'
    have e1 : g + kN - g = kN := by omega
    rw [e1]
    simp only [elemsOf, if_true]
    have e2 : Nat.beq kN 0 = false := Tr.beq_ff (by omega)
    rw [e2]
    simp only [cond_false]
    rw [cellsAt_of hg', cellsIn_of (us := (us.drop g).take kN) (by omega) (by rw [hpe]; simp)]
    rfl
  obtain ⟨pi', e1, e2, e3⟩ : ∃ i', pio' = some i' ∧ A.next + 1 ≤ i' ∧ i' < A2.next := by
    rcases a6 with ⟨_, _, _, h⟩ | h
    · cases h
    · exact h
  subst e1
  have hgk : ∀ j, j < A.next → pio ≠ some j → A2.get j = A.get j := fun j hj hji => by rw [a5 j (by omega) hji, Hp.get_push_ne _ _ (by omega)]
  have hff : ∀ o1 o2 : Ob, ((A2.set p (some o1)).set p (some o2)).get f = A.get f := fun o1 o2 => by rw [Hp.get_set_ne _ _ hfp, Hp.get_set_ne _ _ hfp, hgk f hfl hpio.2.1]
  have hxl := hw.lt xh2
  have hxp : xi ≠ p := by rintro rfl; rw [h.hp] at xh2; cases xh2
  have hxf : xi ≠ f := by rintro rfl; rw [h1] at xh2; cases xh2
  by_cases he : g + kN = us.length
  · have heq : (((g + kN : Nat) : Int) == ((us.length : Nat) : Int)) = true := by rw [he]; exact beq_self_eq_true _
    have hpi : A.next ≤ pi' := Nat.le_of_succ_le e2
    have h2' : SlAt 143 2 A rv io (.slice (some ⟨xi, xo, some 1⟩) us.length xc :: .int .i64 (us.length : Nat) :: ps.flatMap rowOf) (ps.length + 1) := h2
    have hA3 : ∃ A3, A3 = (A2.set p (some (.arr 100 [ptr f, .int .i64 ((g + kN : Nat) : Int), .int .u64 s, .bool c] .own))).set p (some (.arr 100 [ptr f, .int .i64 ((g + kN : Nat) : Int), .int .u64 (IntKind.u64.wrap (s + IntKind.u64.wrap (kN : Int))), .bool c] .own)) := ⟨_, rfl⟩
    obtain ⟨A3, hA3⟩ := hA3
    have hw3 : A3.wf := by rw [hA3]; exact (hA2w.put hp2 _).put (Hp.get_set_same _ _ _) _
    have hn3' : A3.next = A2.next := by rw [hA3, Hp.next_set, Hp.next_set]
    have hp3 : A3.get p = some (.arr 100 [ptr f, .int .i64 ((g + kN : Nat) : Int), .int .u64 (IntKind.u64.wrap (s + IntKind.u64.wrap (kN : Int))), .bool c] .own) := by rw [hA3, Hp.get_set_same]
    have hg3 : ∀ j, j < A.next → j ≠ p → pio ≠ some j → A3.get j = A.get j := fun j hj hjp hji => by rw [hA3, Hp.get_set_ne _ _ hjp, Hp.get_set_ne _ _ hjp, hgk j hj hji]
    have hf3 : A3.get f = some (.arr 141 [inMax, inMax, rv, .int .i64 (total (⟨xi, .slice (some ⟨xi, xo, some 1⟩) us.length xc, us⟩ :: ps) : Nat)] .own) := by rw [hg3 f hfl hfp hpio.2.1]; exact h1
    have hr3 := h2'.keep (A' := A3) fun i hi => by
      subst hi
      obtain ⟨cs, hcs⟩ := h2.lt
      exact hg3 i (hw.lt hcs) (fun e => hiop (by rw [e])) hpio.2.2
    have hgl : (-9223372036854775808 : Int) ≤ ((total (⟨xi, .slice (some ⟨xi, xo, some 1⟩) us.length xc, us⟩ :: ps) : Nat) : Int) - ((us.length : Nat) : Int) := by rw [hTx]; omega
    have hgh : ((total (⟨xi, .slice (some ⟨xi, xo, some 1⟩) us.length xc, us⟩ :: ps) : Nat) : Int) - ((us.length : Nat) : Int) ≤ 9223372036854775807 := by rw [hTx] at hT ⊢; omega
    obtain ⟨rv4, A4, g1, g2, g3, g4, g5, g6⟩ := fifo_get hb m hw3 hf3 hr3 hgl hgh
    have hp4 : A4.get p = some (.arr 100 [ptr f, .int .i64 ((g + kN : Nat) : Int), .int .u64 (IntKind.u64.wrap (s + IntKind.u64.wrap (kN : Int))), .bool c] .own) := by rw [g6 p (fun e => hfp e.symm) hiop, hp3]
    have hn4 : A4.next = A2.next := by rw [g3, hn3']
    have hg4 : ∀ j, j < A.next → j ≠ p → j ≠ f → io ≠ some j → pio ≠ some j → A4.get j = A.get j := fun j hj hjp hjf hji hjq => by rw [g6 j hjf hji, hg3 j hj hjp hjq]
    have htl : ((total (⟨xi, .slice (some ⟨xi, xo, some 1⟩) us.length xc, us⟩ :: ps) : Nat) : Int) - ((us.length : Nat) : Int) = ((total ps : Nat) : Int) := by rw [hTx]; omega
    refine ⟨?s2, A4.set p (some (.arr 100 [ptr f, .int .i64 0, .int .u64 (IntKind.u64.wrap (s + IntKind.u64.wrap (kN : Int))), .bool c] .own)),
      ps, 0, pv', some pi', (.slice (some ⟨xi, xo + g * 1, some 1⟩) (g + kN - g) (2 * (xc / 2 - g) + xc % 2)), kexec_run ?run, ?kp, ?w, ?nx, ?ip, ?sl, ?pt, ⟨_, _, _, xcs, rfl, ?pt2⟩, ?fr, ⟨pi', rfl, hpi, ?lt⟩, .inl ⟨he, rfl, rfl⟩⟩
    case run =>
      conv => lhs; whnf
      rw [kdec d1]
      conv => lhs; whnf
      rw [pipe_len hb (m + 1) h.hp h1 hfp]
      conv => lhs; whnf
      rw [hwl, kdec d2]
      conv => lhs; whnf
      rw [cellsAt_of h.hp]
      conv => lhs; whnf
      rw [head_some hb (m + 1) h1 h2]
      conv => lhs; whnf
      rw [cellsAt_of h.hp]
      conv => lhs; whnf
      rw [cellsAt_of h.hp]
      conv => lhs; whnf
      rw [cellsAt_of h.hp]
      conv => lhs; whnf
      rw [hwx, ← hk, hwg, kdec d3]
      conv => lhs; whnf
      rw [kdec d4]
      conv => lhs; whnf
      rw [kdec d5]
      conv => lhs; whnf
      refine bind_of a1 ?_
      conv => lhs; whnf
      rw [cellsAt_of hp2]
      conv => lhs; whnf
      refine bind_of (dstore_of hp2 (t := 3) (o := 1) (cs' := [ptr f, .int .i64 (IntKind.i64.wrap ((g : Int) + (kN : Int))), .int .u64 s, .bool c]) rfl) ?_
      conv => lhs; whnf
      rw [cellsAt_of (Hp.get_set_same _ _ _)]
      conv => lhs; whnf
      refine bind_of (dstore_of (Hp.get_set_same _ _ _) (t := 34) (o := 2) (cs' := [ptr f, .int .i64 (IntKind.i64.wrap ((g : Int) + (kN : Int))), .int .u64 (IntKind.u64.wrap (s + IntKind.u64.wrap (kN : Int))), .bool c]) rfl) ?_
      conv => lhs; whnf
      rw [cellsAt_of (Hp.get_set_same _ _ _)]
      conv => lhs; whnf
      rw [hwg]
      rw [heq, ← hA3]
      conv => lhs; whnf
      rw [cellsAt_of hp3]
      conv => lhs; whnf
      refine bind_of g1 ?_
      conv => lhs; whnf
      refine bind_of (dstore_of hp4 (t := 3) (o := 1) (cs' := [ptr f, .int .i64 0, .int .u64 (IntKind.u64.wrap (s + IntKind.u64.wrap (kN : Int))), .bool c]) rfl) ?_
      conv => lhs; whnf
    case kp =>
      show [_, _, _, _] = [_, _, _, _]
      rw [hwn]
    case w => exact g2.put hp4 _
    case nx => rw [Hp.next_set, hn4]; exact Nat.le_of_succ_le a3
    case ip =>
      refine ⟨Hp.get_set_same _ _ _, ⟨rv4, by rw [Hp.get_set_ne _ _ hfp, g4, htl]; rfl, g5.keep fun i hi => ?_⟩, fun y hy => ⟨(h.hx y (List.mem_cons_of_mem _ hy)).1.keep fun i hi => ?_, (h.hx y (List.mem_cons_of_mem _ hy)).2⟩, .inl rfl⟩
      · have hip : i ≠ p := fun e => hiop (by rw [← e, hi])
        rw [Hp.get_set_ne _ _ hip]
      · cases hi
        obtain ⟨cs, hcs⟩ := (h.hx y (List.mem_cons_of_mem _ hy)).1.lt
        have hip : y.i ≠ p := by intro e; rw [e, h.hp] at hcs; cases hcs
        have hif : y.i ≠ f := by intro e; rw [e, h1] at hcs; cases hcs
        have hiq : pio ≠ some y.i := by
          rintro rfl
          obtain ⟨cs2, hcs2⟩ := hp.lt
          rw [hcs2] at hcs; cases hcs
        have hir : io ≠ some y.i := by
          rintro rfl
          obtain ⟨cs2, hcs2⟩ := h2.lt
          rw [hcs2] at hcs; cases hcs
        rw [Hp.get_set_ne _ _ hip, hg4 y.i (hw.lt hcs) hip hif hir hiq]
    case sl =>
      refine a2.keep fun i hi => ?_
      cases hi
      have hip : pi' ≠ p := by intro e; subst e; exact absurd hpl (Nat.not_lt.2 hpi)
      have hif : pi' ≠ f := by intro e; subst e; exact absurd hfl (Nat.not_lt.2 hpi)
      have hir : io ≠ some pi' := by
        rintro rfl
        obtain ⟨cs2, hcs2⟩ := h2.lt
        exact absurd (hw.lt hcs2) (Nat.not_lt.2 hpi)
      rw [Hp.get_set_ne _ _ hip, g6 pi' hif hir, hA3, Hp.get_set_ne _ _ hip, Hp.get_set_ne _ _ hip]
    case pt =>
      refine hpart2 _ ?_
      have hiq : pio ≠ some xi := by
        rintro rfl
        obtain ⟨cs2, hcs2⟩ := hp.lt
        rw [hcs2] at xh2; cases xh2
      have hir : io ≠ some xi := by
        rintro rfl
        obtain ⟨cs2, hcs2⟩ := h2.lt
        rw [hcs2] at xh2; cases xh2
      rw [Hp.get_set_ne _ _ hxp, hg4 xi hxl hxp hxf hir hiq]
      exact xh2
    case pt2 =>
      have hiq : pio ≠ some xi := by
        rintro rfl
        obtain ⟨cs2, hcs2⟩ := hp.lt
        rw [hcs2] at xh2; cases xh2
      have hir : io ≠ some xi := by
        rintro rfl
        obtain ⟨cs2, hcs2⟩ := h2.lt
        rw [hcs2] at xh2; cases xh2
      rw [Hp.get_set_ne _ _ hxp, hg4 xi hxl hxp hxf hir hiq]
      exact xh2
    case fr =>
      intro j hj hjp hjf hji hjq
      rw [Hp.get_set_ne _ _ hjp, hg4 j hj hjp hjf hji hjq]
    case lt => rw [Hp.next_set, hn4]; exact e3
  · have hne : (((g + kN : Nat) : Int) == ((us.length : Nat) : Int)) = false := by
      rw [beq_eq_false_iff_ne]; omega
    have hlt : g + kN < us.length := Nat.lt_of_le_of_ne (nle hkl.1 hgx) he
    have hpi : A.next ≤ pi' := Nat.le_of_succ_le e2
    refine ⟨?s, (A2.set p (some (.arr 100 [ptr f, .int .i64 ((g + kN : Nat) : Int), .int .u64 s, .bool c] .own))).set p (some (.arr 100 [ptr f, .int .i64 ((g + kN : Nat) : Int), .int .u64 (IntKind.u64.wrap (s + IntKind.u64.wrap (kN : Int))), .bool c] .own)),
      _, g + kN, pv', some pi', (.slice (some ⟨xi, xo + g * 1, some 1⟩) (g + kN - g) (2 * (xc / 2 - g) + xc % 2)), kexec_run ?run, ?kp, ?w, ?nx, ?ip, ?sl, ?pt, ⟨_, _, _, xcs, rfl, ?pt2⟩, ?fr, ⟨pi', rfl, hpi, ?lt⟩, .inr ⟨hlt, rfl, rfl⟩⟩
    case run =>
      conv => lhs; whnf
      rw [kdec d1]
      conv => lhs; whnf
      rw [pipe_len hb (m + 1) h.hp h1 hfp]
      conv => lhs; whnf
      rw [hwl, kdec d2]
      conv => lhs; whnf
      rw [cellsAt_of h.hp]
      conv => lhs; whnf
      rw [head_some hb (m + 1) h1 h2]
      conv => lhs; whnf
      rw [cellsAt_of h.hp]
      conv => lhs; whnf
      rw [cellsAt_of h.hp]
      conv => lhs; whnf
      rw [cellsAt_of h.hp]
      conv => lhs; whnf
      rw [hwx, ← hk, hwg, kdec d3]
      conv => lhs; whnf
      rw [kdec d4]
      conv => lhs; whnf
      rw [kdec d5]
      conv => lhs; whnf
      refine bind_of a1 ?_
      conv => lhs; whnf
      rw [cellsAt_of hp2]
      conv => lhs; whnf
      refine bind_of (dstore_of hp2 (t := 3) (o := 1) (cs' := [ptr f, .int .i64 (IntKind.i64.wrap ((g : Int) + (kN : Int))), .int .u64 s, .bool c]) rfl) ?_
      conv => lhs; whnf
      rw [cellsAt_of (Hp.get_set_same _ _ _)]
      conv => lhs; whnf
      refine bind_of (dstore_of (Hp.get_set_same _ _ _) (t := 34) (o := 2) (cs' := [ptr f, .int .i64 (IntKind.i64.wrap ((g : Int) + (kN : Int))), .int .u64 (IntKind.u64.wrap (s + IntKind.u64.wrap (kN : Int))), .bool c]) rfl) ?_
      conv => lhs; whnf
      rw [cellsAt_of (Hp.get_set_same _ _ _)]
      conv => lhs; whnf
      rw [hwg]
      rw [hne]
    case kp =>
      show [_, _, _, _] = [_, _, _, _]
      rw [hwn]
    case w => exact (hA2w.put hp2 _).put (Hp.get_set_same _ _ _) _
    case nx => simp only [Hp.next_set]; exact Nat.le_of_succ_le a3
    case ip =>
      refine ⟨Hp.get_set_same _ _ _, ⟨rv, by rw [hff]; exact h1, h2.keep fun i hi => ?_⟩, fun y hy => ⟨(h.hx y hy).1.keep fun i hi => ?_, (h.hx y hy).2⟩, .inr ⟨_, _, rfl, hlt⟩⟩
      · subst hi
        obtain ⟨cs, hcs⟩ := h2.lt
        have hip : i ≠ p := fun e => hiop (by rw [e])
        rw [Hp.get_set_ne _ _ hip, Hp.get_set_ne _ _ hip, hgk i (hw.lt hcs) hpio.2.2]
      · cases hi
        obtain ⟨cs, hcs⟩ := (h.hx y hy).1.lt
        have hip : y.i ≠ p := by intro e; rw [e, h.hp] at hcs; cases hcs
        have hiq : pio ≠ some y.i := by
          rintro rfl
          obtain ⟨cs2, hcs2⟩ := hp.lt
          rw [hcs2] at hcs; cases hcs
        rw [Hp.get_set_ne _ _ hip, Hp.get_set_ne _ _ hip, hgk y.i (hw.lt hcs) hiq]
    case sl =>
      refine a2.keep fun i hi => ?_
      cases hi
      have hip : pi' ≠ p := by intro e; subst e; exact absurd hpl (Nat.not_lt.2 hpi)
      rw [Hp.get_set_ne _ _ hip, Hp.get_set_ne _ _ hip]
    case pt =>
      refine hpart2 _ ?_
      have hiq : pio ≠ some xi := by
        rintro rfl
        obtain ⟨cs2, hcs2⟩ := hp.lt
        rw [hcs2] at xh2; cases xh2
      rw [Hp.get_set_ne _ _ hxp, Hp.get_set_ne _ _ hxp, hgk xi hxl hiq]
      exact xh2
    case pt2 =>
      have hiq : pio ≠ some xi := by
        rintro rfl
        obtain ⟨cs2, hcs2⟩ := hp.lt
        rw [hcs2] at xh2; cases xh2
      rw [Hp.get_set_ne _ _ hxp, Hp.get_set_ne _ _ hxp, hgk xi hxl hiq]
      exact xh2
    case fr =>
      intro j hj hjp hjf hji hjq
      rw [Hp.get_set_ne _ _ hjp, Hp.get_set_ne _ _ hjp, hgk j hj hjq]
    case lt => simp only [Hp.next_set]; exact e3

end Go.Dn.Pipe
end

section
namespace Go.Dn.Pipe
open Go.Proofs
set_option maxHeartbeats 4000000
set_option maxRecDepth 100000
attribute [local irreducible] Hp.get Hp.set Hp.push dappend dcopy dstore cellsAt callD loopD

/-- a part of a piece -/
def PartAt (A : Hp) (x : Value) (us : List Value) : Prop :=
  elemsOf A 1 x = some (us.length, us) ∧ ∃ i o k c cs, x = .slice (some ⟨i, o, some 1⟩) k c ∧ A.get i = some (.arr 5 cs .own)

theorem PartAt.keep {A A' : Hp} {x : Value} {us : List Value} (h : PartAt A x us) (hk : ∀ i cs, A.get i = some (.arr 5 cs .own) → A'.get i = A.get i) : PartAt A' x us := by
  obtain ⟨h1, i, o, k, c, cs, rfl, h2⟩ := h
  refine ⟨elemsOf_keep h1 fun j ob hj hb => ?_, i, o, k, c, cs, rfl, by rw [hk i cs h2]; exact h2⟩
  obtain ⟨b, o', s', n', c', e1, e2⟩ := hb
  cases e1
  subst e2
  exact hk _ _ h2

structure MS where
  n : Int
  pv : Value
  pio : Option Nat
  pes : List Value
  ps : List Pc
  g : Nat
  s : Int
  tk : List (List Value)

structure MI (A0 : Hp) (p f : Nat) (io : Option Nat) (c : Bool) (ps0 : List Pc) (g0 : Nat) (s0 : Int) (n0 : Int) (st : MS) (A : Hp) : Prop where
  wf : A.wf
  next : A0.next ≤ A.next
  pipe : IsPipe A p f io st.ps st.g st.s c
  parts : SlAt 22 1 A st.pv st.pio st.pes st.pes.length
  pid : ∀ i, st.pio = some i → A0.next ≤ i ∧ i < A.next
  fr : ∀ j, j < A0.next → j ≠ p → j ≠ f → io ≠ some j → A.get j = A0.get j
  len : st.pes.length = st.tk.length
  at' : ∀ (j : Nat) x, st.pes[j]? = some x → ∃ us, st.tk[j]? = some us ∧ PartAt A x us
  flow : st.tk.flatten ++ flow st.ps st.g = Pipe.flow ps0 g0
  num : st.n = n0 - (st.tk.flatten.length : Nat)
  pos : st.n = n0 ∨ 0 ≤ st.n
  sum : st.s = IntKind.u64.wrap (s0 + (st.tk.flatten.length : Nat))
  sub : st.ps <:+ ps0
  few : st.pes.length + st.ps.length ≤ ps0.length + 1 ∧ (0 < st.n → st.pes.length + st.ps.length ≤ ps0.length)

theorem flow_cons (x : Pc) (ps : List Pc) (g : Nat) (h : g ≤ x.us.length) : flow (x :: ps) g = x.us.drop g ++ ps.flatMap (·.us) := by
  unfold flow
  rw [List.flatMap_cons, List.drop_append]
  have : g - x.us.length = 0 := by omega
  rw [this, List.drop_zero]

theorem u64_add (a b c : Int) : IntKind.u64.wrap (IntKind.u64.wrap (a + b) + IntKind.u64.wrap c) = IntKind.u64.wrap (a + (b + c)) := by
  rw [IntKind.wrap_u64, IntKind.wrap_u64, IntKind.wrap_u64, IntKind.wrap_u64]; omega

theorem flow_length (ps : List Pc) (g : Nat) : (flow ps g).length = total ps - g := by
  unfold flow; rw [List.length_drop, flow_len]

theorem mem_total {x : Pc} : ∀ {ps : List Pc}, x ∈ ps → x.us.length ≤ total ps
  | y :: l, h => by
    simp only [total]
    rcases List.mem_cons.1 h with rfl | h
    · omega
    · have := mem_total h; omega

def mu (st : MS) : Nat := if 0 < st.n then st.ps.length else 0

variable {base : CallT} (hb : ∀ f args A, f ∉ [61, 12, 20, 38, 27] → base f args A = none)
include hb

theorem move_round (m : Nat) {A0 : Hp} {p f : Nat} {io : Option Nat} {c : Bool} {ps0 : List Pc} {g0 : Nat} {s0 n0 : Int} (hn0 : n0 ≤ 9223372036854775807) (hT : total ps0 ≤ 70368744177664) (hP : ps0.length ≤ 100000000000)
    (hpl : p < A0.next) (hfl : f < A0.next) (hio : ∀ i, io = some i → i < A0.next) {st : MS} {A : Hp} (hI : MI A0 p f io c ps0 g0 s0 n0 st A) (hn : 0 < st.n) (hps : st.ps ≠ []) :
    ∃ σ1 A1 st', exec Tryd.bk.E (callD Tryd.bk base (m + 3)) Tryd.f17.ntmps (Tryd.bk.inf 17) (m + 3) (loopOf Tryd.f17 0) [(0, ptr p), (1, .int .i64 st.n), (4, .slice none 0 0), (5, st.pv)] A = some (.normal, σ1, A1) ∧
      keepSl (some [0, 1, 4, 5]) σ1 = [(0, ptr p), (1, .int .i64 st'.n), (4, .slice none 0 0), (5, st'.pv)] ∧ MI A0 p f io c ps0 g0 s0 n0 st' A1 ∧ mu st' < mu st := by
  obtain ⟨n, pv, pio, pes, ps, g, s, tk⟩ := st
  obtain ⟨i1, i2, i3, i4, i5, i6, i7, i8, i9, i10, i11, i12, i13, i14⟩ := hI
  simp only at *
  cases ps with
  | nil => exact absurd rfl hps
  | cons x ps =>
  have hgx : g < x.us.length := by
    rcases i3.hg with e | ⟨y, ps', e1, e2⟩
    · subst e
      have := (i3.hx x (by simp)).2
      exact List.length_pos_iff.2 this
    · cases e1; exact e2
  have hfl' := congrArg List.length i9
  rw [List.length_append, flow_length, flow_length] at hfl'
  have hxt := mem_total (i13.mem (List.mem_cons_self (a := x)))
  have hTT : total (x :: ps) ≤ 140737488355328 := by omega
  obtain ⟨rv, r1, r2⟩ := i3.hf
  obtain ⟨iv, hiv⟩ : ∃ i, io = some i := by
    cases r2 with
    | «at» i => exact ⟨i, rfl⟩
  have hq : pio ≠ some p ∧ pio ≠ some f ∧ pio ≠ io := by
    refine ⟨fun e => ?_, fun e => ?_, fun e => ?_⟩
    · have := (i5 p e).1; omega
    · have := (i5 f e).1; omega
    · rw [hiv] at e
      have h1 := (i5 iv e).1
      have h2 := hio iv hiv
      omega
  obtain ⟨kN, hk⟩ : ∃ kN : Nat, (kN : Int) = if ((x.us.length - g : Nat) : Int) < n then ((x.us.length - g : Nat) : Int) else n := by
    split
    · exact ⟨_, rfl⟩
    · exact ⟨n.toNat, by omega⟩
  have hkl : kN ≤ x.us.length - g ∧ (kN : Int) ≤ n ∧ 0 < kN := by split at hk <;> omega
  obtain ⟨σ1, A1, ps', g', pv', pio', part, e1, e2, e3, e4, e5, e6, e7, e8, e9, ⟨pi', e10, e11, e12⟩, e13⟩ :=
    move_step hb m i3 i1 hgx hn (by omega) hTT i4 (by omega) hq hk
  have htl : ((x.us.drop g).take kN).length = kN := by rw [List.length_take, List.length_drop]; omega
  have hfin : (g + kN < x.us.length) → (kN : Int) = n := by intro h; split at hk <;> omega
  refine ⟨σ1, A1, ⟨n - kN, pv', pio', pes ++ [part], ps', g', IntKind.u64.wrap (s + IntKind.u64.wrap kN), tk ++ [(x.us.drop g).take kN]⟩, e1, e2, ⟨e3, by omega, e5, by simpa using e6, ?_, ?_, by simp [i7], ?_, ?_, ?_, .inr (by simp only; omega), ?_, ?_, ?_⟩, ?_⟩
  · intro i hi
    simp only at hi
    rw [e10] at hi; cases hi
    exact ⟨by omega, e12⟩
  · intro j hj hjp hjf hji
    rw [e9 j (by omega) hjp hjf hji (fun e => by have := (i5 j e).1; omega), i6 j hj hjp hjf hji]
  · intro j y hy
    simp only at hy ⊢
    rw [List.getElem?_append] at hy
    split at hy
    · rename_i hjl
      obtain ⟨us, u1, u2⟩ := i8 j y hy
      refine ⟨us, by rw [List.getElem?_append_left (by omega)]; exact u1, u2.keep fun i cs hi => ?_⟩
      have t1 : i ≠ p := by rintro rfl; rw [i3.hp] at hi; cases hi
      have t2 : i ≠ f := by rintro rfl; rw [r1] at hi; cases hi
      have t3 : io ≠ some i := by rintro rfl; obtain ⟨cs2, hcs2⟩ := r2.lt; rw [hcs2] at hi; cases hi
      have t4 : pio ≠ some i := by rintro rfl; obtain ⟨cs2, hcs2⟩ := i4.lt; rw [hcs2] at hi; cases hi
      exact e9 i (i1.lt hi) t1 t2 t3 t4
    · rename_i hjl
      have hj0 : j - pes.length = 0 := by
        rcases Nat.eq_zero_or_pos (j - pes.length) with h | h
        · exact h
        · rw [List.getElem?_eq_none (by simp; omega)] at hy; cases hy
      rw [hj0] at hy
      simp only [List.getElem?_cons_zero, Option.some.injEq] at hy
      subst hy
      refine ⟨_, by rw [List.getElem?_append_right (by omega), ← i7, hj0]; rfl, by rw [htl]; exact e7, ?_⟩
      obtain ⟨o, k, c', cs, q1, q2⟩ := e8
      exact ⟨x.i, o, k, c', cs, q1, q2⟩
  · simp only
    rw [List.flatten_append, List.append_assoc, ← i9, flow_cons x ps g (by omega)]
    congr 1
    simp only [List.flatten_cons, List.flatten_nil, List.append_nil]
    rcases e13 with ⟨q1, rfl, rfl⟩ | ⟨q1, rfl, rfl⟩
    · rw [List.take_of_length_le (by rw [List.length_drop]; omega)]
      simp [flow]
    · rw [flow_cons x ps (g + kN) (by omega), ← List.append_assoc]
      congr 1
      rw [← List.drop_drop, List.take_append_drop]
  · simp only [List.flatten_append, List.length_append, List.flatten_cons, List.flatten_nil, List.append_nil, htl]
    omega
  · simp only [List.flatten_append, List.length_append, List.flatten_cons, List.flatten_nil, List.append_nil, htl]
    rw [i12, u64_add]
    congr 1
  · rcases e13 with ⟨q1, rfl, rfl⟩ | ⟨q1, rfl, rfl⟩
    · exact (List.suffix_cons _ _).trans i13
    · exact i13
  · simp only [List.length_append, List.length_singleton]
    have h14 := i14.2 hn
    simp only [List.length_cons] at h14
    rcases e13 with ⟨q1, rfl, rfl⟩ | ⟨q1, rfl, rfl⟩
    · exact ⟨by omega, fun _ => by omega⟩
    · have := hfin q1
      exact ⟨by simp only [List.length_cons]; omega, fun h => by omega⟩
  · simp only [mu, hn, if_true, List.length_cons]
    rcases e13 with ⟨q1, rfl, rfl⟩ | ⟨q1, rfl, rfl⟩
    · split <;> omega
    · have := hfin q1
      rw [if_neg (by omega)]; omega

end Go.Dn.Pipe
end
