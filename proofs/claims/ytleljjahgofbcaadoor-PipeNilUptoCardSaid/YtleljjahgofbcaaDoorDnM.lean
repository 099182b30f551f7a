/-
  Part of the abstract machine for this program.
-/
import Derived.Test.YtleljjahgofbcaaDoorDnH
import Derived.Test.YtleljjahgofbcaaDoorDnL

section
namespace Go.Dn.Pipe
open Go.Proofs
attribute [local irreducible] Hp.get Hp.set Hp.push dappend dcopy dstore cellsAt callD

theorem kdec {p : Prop} [Decidable p] (h : p) : decide p = true := decide_eq_true h
theorem kdecn {p : Prop} [Decidable p] (h : ¬ p) : decide p = false := decide_eq_false h

variable {base : CallT} (hb : ∀ f args A, f ∉ [61, 12, 20, 38] → base f args A = none)
include hb

abbrev ptr (i : Nat) : Value := .pointer (some ⟨i, 0, none⟩)

theorem fifo_weight (n : Nat) {A : Hp} {f : Nat} {a b c : Value} {w : Int} {T : TypeId} {md : Md} (hf : A.get f = some (.arr T [a, b, c, .int .i64 w] md)) :
    callD Tryd.bk base (n + 1) 51 [ptr f] A = some (.int .i64 w, A) := by
  refine callD_of (hb _ _ _ (by decide)) (fn := Tryd.f51) rfl ?_
  conv => lhs; whnf
  rw [cellsAt_of hf]
  conv => lhs; whnf
  rfl

theorem fifo_len (n : Nat) {A : Hp} {f : Nat} {a b c w : Value} {T : TypeId} {md : Md} (hf : A.get f = some (.arr T [a, b, c, w] md)) {io : Option Nat} {us : List Value} {m : Nat} (hr : SlAt 143 2 A c io us m) :
    callD Tryd.bk base (n + 1) 68 [ptr f] A = some (.int .i64 m, A) := by
  refine callD_of (hb _ _ _ (by decide)) (fn := Tryd.f68) rfl ?_
  cases hr with
  | nil =>
    conv => lhs; whnf
    rw [cellsAt_of hf]
    conv => lhs; whnf
    rfl
  | «at» =>
    conv => lhs; whnf
    rw [cellsAt_of hf]
    conv => lhs; whnf
    rfl

theorem head_none (n : Nat) {A : Hp} {f : Nat} {a b c w : Value} {T : TypeId} {md : Md} (hf : A.get f = some (.arr T [a, b, c, w] md)) {io : Option Nat} {us : List Value} (hr : SlAt 143 2 A c io us 0) :
    callD Tryd.bk base (n + 2) 52 [ptr f] A = some (.tuple #[.slice none 0 0, .int .i64 0, .bool false], A) := by
  refine callD_of (hb _ _ _ (by decide)) (fn := Tryd.f52) rfl ?_
  conv => lhs; whnf
  rw [fifo_len hb n hf hr]
  conv => lhs; whnf
  rfl

theorem head_some (n : Nat) {A : Hp} {f : Nat} {a b c w : Value} {T : TypeId} {md : Md} (hf : A.get f = some (.arr T [a, b, c, w] md)) {io : Option Nat} {us : List Value} {m : Nat} {x y : Value} (hr : SlAt 143 2 A c io (x :: y :: us) (m + 1)) :
    callD Tryd.bk base (n + 2) 52 [ptr f] A = some (.tuple #[x, y, .bool true], A) := by
  refine callD_of (hb _ _ _ (by decide)) (fn := Tryd.f52) rfl ?_
  conv => lhs; whnf
  rw [fifo_len hb n hf hr]
  conv => lhs; whnf
  rw [cellsAt_of hf]
  conv => lhs; whnf
  cases hr with
  | «at» i o _ c' cs _ hc hg hl hu =>
  conv => lhs; whnf
  rw [kdec (by omega)]
  conv => lhs; whnf
  rw [cell_of hg hu 0 x rfl ?_]
  rotate_left
  · rfl
  conv => lhs; whnf
  rw [cellsAt_of hf]
  conv => lhs; whnf
  rw [kdec (by omega)]
  conv => lhs; whnf
  rw [cell_of hg hu 1 y rfl ?_]
  rotate_left
  · rfl
  conv => lhs; whnf
  rfl

end Go.Dn.Pipe
end

section
namespace Go.Dn.Pipe
open Go.Proofs
attribute [local irreducible] Hp.get Hp.set Hp.push dappend dcopy dstore cellsAt callD loopD

theorem wrap64 {n : Int} (h1 : -9223372036854775808 ≤ n) (h2 : n ≤ 9223372036854775807) : IntKind.i64.wrap n = n := by
  rw [IntKind.wrap_i64]; omega

theorem elB : ElT Tryd.bk.E 22 5 1 1 := ⟨⟨_, rfl, rfl⟩, ⟨_, _, rfl, rfl, rfl, rfl, rfl⟩, by decide⟩
theorem elB2 : ∃ i e2, Tryd.bk.E.T 22 = some i ∧ i.d = .slice e2 := ⟨_, _, rfl, rfl⟩

theorem elR : ElT Tryd.bk.E 139 143 2 32 := ⟨⟨_, rfl, rfl⟩, ⟨_, _, rfl, rfl, rfl, rfl, rfl⟩, by decide⟩
theorem elR2 : ∃ i e2, Tryd.bk.E.T 139 = some i ∧ i.d = .slice e2 := ⟨_, _, rfl, rfl⟩

variable {base : CallT} (hb : ∀ f args A, f ∉ [61, 12, 20, 38] → base f args A = none)

structure JS where
  i : Nat
  v : Value
  io : Option Nat
  acc : List Value

theorem joined_loop (n n0 : Nat) {A0 : Hp} (hw0 : A0.wf) {b o m c : Nat} {cs xs : List Value} {T : TypeId} {md : Md} (hg : A0.get b = some (.arr T cs md)) (hu : (cs.drop o).take m = xs) (hm : xs.length = m)
    {yss : List (List Value)} (hy : yss.length = m) (hx : ∀ (j : Nat) x, xs[j]? = some x → ∃ us, yss[j]? = some us ∧ elemsOf A0 1 x = some (us.length, us)) (hM : m ≤ 9223372036854775806)
    (hs : yss.flatten.length ≤ 140737488355328) {cc : Code} (hcc : cc = loopOf Tryd.f50 0) (v0 : Value) :
    m < n → ∃ e σ1 A1, loopD (some [2, 3, 6, 7, 8]) (exec Tryd.bk.E (callD Tryd.bk base n0) Tryd.f50.ntmps (Tryd.bk.inf 50) n0 cc) n
      [(2, v0), (3, .slice none 0 0), (6, .slice (some ⟨b, o, some 1⟩) m c), (7, .int .i64 m), (8, .int .i64 0)] A0 = some (e, σ1, A1) ∧
      (e = .exit 0 ∧ ∃ v io, σ1 = [(2, v0), (3, v), (6, .slice (some ⟨b, o, some 1⟩) m c), (7, .int .i64 m), (8, .int .i64 m)] ∧
        A1.wf ∧ A0.next ≤ A1.next ∧ (∀ j, j < A0.next → A1.get j = A0.get j) ∧ SlAt 5 1 A1 v io yss.flatten yss.flatten.length ∧ (∀ i, io = some i → A0.next ≤ i ∧ i < A1.next)) := by
  subst hcc
  intro hn
  refine loop_rule (S := JS) (fun s => [(2, v0), (3, s.v), (6, .slice (some ⟨b, o, some 1⟩) m c), (7, .int .i64 m), (8, .int .i64 (s.i : Nat))])
    (fun s A => A.wf ∧ A0.next ≤ A.next ∧ (∀ j, j < A0.next → A.get j = A0.get j) ∧ s.i ≤ m ∧ SlAt 5 1 A s.v s.io s.acc s.acc.length ∧ (∀ i, s.io = some i → A0.next ≤ i ∧ i < A.next) ∧ s.acc = (yss.take s.i).flatten)
    (fun s => m - s.i) _ (fun s A hI => ?_) n ⟨0, .slice none 0 0, none, []⟩ A0 ⟨hw0, Nat.le_refl _, fun _ _ => rfl, Nat.zero_le _, .nil, (by simp), (by simp)⟩ (by simpa using hn)
  obtain ⟨i, v, io, acc⟩ := s
  obtain ⟨h1, h2, h3, h4, h5, h6, h7⟩ := hI
  simp only at h4 h5 h6 h7 ⊢
  by_cases hi : i < m
  · have hblt := hw0.lt hg
    have hg' : A.get b = some (.arr T cs md) := by rw [h3 b hblt]; exact hg
    obtain ⟨x, hxi⟩ : ∃ x, xs[i]? = some x := ⟨_, List.getElem?_eq_getElem (by omega)⟩
    obtain ⟨us, hyi, hxe⟩ := hx i x hxi
    have hxe' : elemsOf A 1 x = some (us.length, us) := elemsOf_keep hxe fun k ob hk _ => h3 k (hw0.lt hk)
    have hsplit : (yss.take (i + 1)).flatten = acc ++ us := by
      rw [h7, List.take_add_one, hyi]; simp
    have hle : (acc ++ us).length ≤ yss.flatten.length := by
      rw [← hsplit]
      have : yss.flatten = (yss.take (i + 1)).flatten ++ (yss.drop (i + 1)).flatten := by rw [← List.flatten_append, List.take_append_drop]
      rw [this, List.length_append]; omega
    have hle2 : acc.length + us.length ≤ 140737488355328 := by rw [List.length_append] at hle; omega
    obtain ⟨v', A', io', a1, a2, a3, a4, a5, a6⟩ := append_at elB elB2 h5 hxe' (by simp) (by omega) (by unfold maxLen; omega)
    have hwr : IntKind.i64.wrap ((i : Int) + 1) = ((i + 1 : Nat) : Int) := by rw [wrap64 (by omega) (by omega)]; omega
    refine ⟨.normal, ?s, A', kexec_run ?run, .inl ⟨rfl, ⟨i + 1, v', io', acc ++ us⟩, ?kp, ⟨a4 h1, by omega, fun j hj => ?fr, by simp only; omega, by simpa using a2, ?ids, hsplit.symm⟩, by simp only; omega⟩⟩
    case fr => rw [a5 j (by omega) (fun e => by have := (h6 j e).1; omega), h3 j hj]
    case ids =>
      intro k hk
      rcases a6 with ⟨e1, e2, _, _⟩ | ⟨k', e1, e2, e3⟩
      · subst e1; subst e2; exact h6 k hk
      · simp only at hk
        rw [e1] at hk; cases hk
        exact ⟨by omega, e3⟩
    case run =>
      conv => lhs; whnf
      rw [kdec (by omega)]
      conv => lhs; whnf
      rw [kdec (by omega)]
      conv => lhs; whnf
      rw [cell_of hg' hu i x hxi ?_]
      rotate_left
      · simp
      conv => lhs; whnf
      rw [a1]
      conv => lhs; whnf
    case kp =>
      show [_, _, _, _, _] = [_, _, _, _, _]
      rw [hwr]
  · have him : i = m := by omega
    subst him
    refine ⟨.exit 0, ?s2, A, kexec_run ?run, .inr ⟨(by simp), rfl, v, io, ?sh, h1, h2, h3, ?fl, h6⟩⟩
    case run =>
      conv => lhs; whnf
      rw [kdecn (by omega)]
    case sh => rfl
    case fl =>
      rw [← hy, List.take_length] at h7
      subst h7
      exact h5

include hb in
/-- the pieces, one behind the other, in memory of their own -/
theorem joined_ok (n : Nat) {A0 : Hp} (hw0 : A0.wf) {b o m c : Nat} {cs xs : List Value} {T : TypeId} {md : Md} (hg : A0.get b = some (.arr T cs md)) (hu : (cs.drop o).take m = xs) (hm : xs.length = m)
    {yss : List (List Value)} (hy : yss.length = m) (hx : ∀ (j : Nat) x, xs[j]? = some x → ∃ us, yss[j]? = some us ∧ elemsOf A0 1 x = some (us.length, us)) (hM : m ≤ 9223372036854775806)
    (hs : yss.flatten.length ≤ 140737488355328) (hn : m < n) :
    ∃ v io A1, callD Tryd.bk base (n + 1) 50 [.slice (some ⟨b, o, some 1⟩) m c] A0 = some (v, A1) ∧
      A1.wf ∧ A0.next ≤ A1.next ∧ (∀ j, j < A0.next → A1.get j = A0.get j) ∧ SlAt 5 1 A1 v io yss.flatten yss.flatten.length ∧ (∀ i, io = some i → A0.next ≤ i ∧ i < A1.next) := by
  obtain ⟨e, σ1, A1, h1, rfl, v, io, rfl, h3, h4, h5, h6, h7⟩ := joined_loop (base := base) n n hw0 hg hu hm hy hx hM hs (c := c) rfl (.slice none 0 0) hn
  refine ⟨v, io, A1, callD_of (hb _ _ _ (by decide)) (fn := Tryd.f50) rfl ?_, h3, h4, h5, h6, h7⟩
  conv => lhs; whnf
  refine bind_of h1 ?_
  conv => lhs; whnf
  rfl

end Go.Dn.Pipe
end

section
namespace Go.Dn.Pipe
open Go.Proofs
set_option maxHeartbeats 4000000
set_option maxRecDepth 100000
attribute [local irreducible] Hp.get Hp.set Hp.push dappend dcopy dstore cellsAt callD loopD

/-- bytes of one's own -/
theorem copied_walk {call : CallT} (lf : Nat) {A : Hp} (hw : A.wf) {x : Value} {us : List Value} (hx : elemsOf A 1 x = some (us.length, us)) (hl : us.length ≤ 140737488355328) (hl2 : us.length ≤ maxLen) :
    ∃ i o c A', kfn Tryd.bk.E call (Tryd.bk.inf 15) lf Tryd.f15 [x] A = some (.slice (some ⟨i, o, some 1⟩) us.length c, A') ∧ SlAt 5 1 A' (.slice (some ⟨i, o, some 1⟩) us.length c) (some i) us us.length ∧ A'.wf ∧ A.next ≤ i ∧ i < A'.next ∧ (∀ j, j < A.next → A'.get j = A.get j) := by
  have h1 : SlAt 5 1 (A.push (.arr 5 [] .own)) (.slice (some ⟨A.next, 0, some 1⟩) 0 1) (some A.next) [] 0 := .at A.next 0 0 1 [] [] (.inr rfl) (Hp.get_push_same _ _) (by simp) rfl
  have h2 : elemsOf (A.push (.arr 5 [] .own)) 1 x = some (us.length, us) := elemsOf_keep hx fun i o hi _ => Hp.get_push_ne _ _ (by have := hw.lt hi; omega)
  obtain ⟨v', A2, io', a1, a2, a3, a4, a5, a6⟩ := append_at elB elB2 h1 h2 (by simp) (by omega) (by omega)
  simp only [Hp.next_push, List.nil_append, Nat.zero_add] at a2 a3 a5 a6
  have hrun : kfn Tryd.bk.E call (Tryd.bk.inf 15) lf Tryd.f15 [x] A = some (v', A2) := by
    conv => lhs; whnf
    refine bind_of a1 ?_
    conv => lhs; whnf
    rfl
  obtain ⟨i, hi, hi1, hi2⟩ : ∃ i, io' = some i ∧ A.next ≤ i ∧ i < A2.next := by
    rcases a6 with ⟨e1, e2, _, _⟩ | ⟨i', e1, e2, e3⟩
    · exact ⟨A.next, e1, Nat.le_refl _, by rw [e2]; simp⟩
    · exact ⟨i', e1, by omega, e3⟩
  subst hi
  have hfr : ∀ j, j < A.next → A2.get j = A.get j := fun j hj => by
    rw [a5 j (by omega) (fun e => by cases e; omega), Hp.get_push_ne _ _ (by omega)]
  have hw2 := a4 (hw.push _)
  cases a2 with
  | «at» _ o _ c cs _ q1 q2 q3 q4 => exact ⟨i, o, c, A2, hrun, .at i o _ c cs us q1 q2 q3 q4, hw2, hi1, hi2, hfr⟩

end Go.Dn.Pipe
end

section
namespace Go.Dn
theorem callD_base {B : Bk} {base : CallT} {f : FuncId} {args : List Value} {A : Hp} {r : Value × Hp} (hb : base f args A = some r) : ∀ n, callD B base n f args A = some r
  | 0 => hb
  | n + 1 => by simp only [callD, hb]

theorem cellsAt_push_same {A : Hp} {T : TypeId} {cs : List Value} {md : Md} (o n : Nat) : cellsAt (A.push (.arr T cs md)) A.next o n = cellsIn cs o n := cellsAt_of (Hp.get_push_same _ _) o n
theorem cellsAt_push_ne {A : Hp} {ob : Ob} {i o n : Nat} (h : i ≠ A.next) : cellsAt (A.push ob) i o n = cellsAt A i o n := by
  unfold cellsAt; rw [Hp.get_push_ne _ _ h]
theorem cellsAt_set_same {A : Hp} {T : TypeId} {cs : List Value} {md : Md} {i : Nat} (o n : Nat) : cellsAt (A.set i (some (.arr T cs md))) i o n = cellsIn cs o n := cellsAt_of (Hp.get_set_same _ _ _) o n
theorem cellsAt_set_ne {A : Hp} {ob : Option Ob} {i j o n : Nat} (h : i ≠ j) : cellsAt (A.set j ob) i o n = cellsAt A i o n := by
  unfold cellsAt; rw [Hp.get_set_ne _ _ h]
end Go.Dn
namespace Go.Dn
theorem loopD_end {ks : Option (List Nat)} {f : Sl → Hp → Option (Ex × Sl × Hp)} {n : Nat} {σ σ1 : Sl} {A A1 : Hp} {e : Ex} (h : f σ A = some (e, σ1, A1)) (he : e ≠ .normal) : loopD ks f (n + 1) σ A = some (e, keepSl ks σ1, A1) := by
  simp only [loopD, h, Option.bind_some]
theorem loopD_next {ks : Option (List Nat)} {f : Sl → Hp → Option (Ex × Sl × Hp)} {n : Nat} {σ σ1 : Sl} {A A1 : Hp} (h : f σ A = some (.normal, σ1, A1)) : loopD ks f (n + 1) σ A = loopD ks f n (keepSl ks σ1) A1 := by
  simp only [loopD, h, Option.bind_some]
end Go.Dn
end

section
namespace Go.Dn.Pipe
open Go.Proofs
set_option maxHeartbeats 4000000
set_option maxRecDepth 100000
attribute [local irreducible] Hp.get Hp.set Hp.push dappend dcopy dstore cellsAt callD loopD

theorem put_nil (n : Nat) {A : Hp} {b : Value} (h0 : A.get 0 = some (er 0)) : callD Tryd.bk T2 (n + 1) 14 [.pointer none, b] A = some (.tuple #[.int .i64 0, .iface 168 (.pointer (some ⟨43, 0, none⟩))], A) := by
  refine callD_of rfl (fn := Tryd.f14) rfl ?_
  conv => lhs; whnf
  rw [cellsAt_of h0]
  conv => lhs; whnf
  rfl
theorem len_nil (n : Nat) (A : Hp) : callD Tryd.bk T2 (n + 1) 16 [.pointer none] A = some (.int .i64 0, A) := by
  refine callD_of rfl (fn := Tryd.f16) rfl ?_
  conv => lhs; whnf
  rfl
theorem cut_nil (n : Nat) (A : Hp) : callD Tryd.bk T2 (n + 1) 26 [.pointer none] A = some (.int .i64 0, A) := by
  refine callD_of rfl (fn := Tryd.f26) rfl ?_
  conv => lhs; whnf
  rfl
theorem broken_nil (n : Nat) (A : Hp) : callD Tryd.bk T2 (n + 1) 19 [.pointer none] A = some (.bool false, A) := by
  refine callD_of rfl (fn := Tryd.f19) rfl ?_
  conv => lhs; whnf
  rfl
theorem passed_nil (n : Nat) (A : Hp) : callD Tryd.bk T2 (n + 1) 18 [.pointer none] A = some (.int .u64 0, A) := by
  refine callD_of rfl (fn := Tryd.f18) rfl ?_
  conv => lhs; whnf
  rfl
theorem joined_nil (n : Nat) (A : Hp) : callD Tryd.bk T2 (n + 2) 50 [.slice none 0 0] A = some (.slice none 0 0, A) := by
  refine callD_of rfl (fn := Tryd.f50) rfl ?_
  conv => lhs; whnf
  refine bind_of (a := (.exit 0, _, A)) (loopD_end (kexec_run (r := (.exit 0, ?s, A)) ?run) (by simp)) ?rest
  case run => conv => lhs; whnf
  case rest =>
    conv => lhs; whnf
    rfl
theorem move_nil (n : Nat) (A : Hp) (k : Int) : callD Tryd.bk T2 (n + 3) 17 [.pointer none, .int .i64 k] A = some (.slice none 0 0, A) := by
  refine callD_of rfl (fn := Tryd.f17) rfl ?_
  conv => lhs; whnf
  by_cases hk : k > 0
  · refine bind_of (a := (.exit 0, _, A)) (loopD_end (kexec_run (r := (.exit 0, ?s, A)) ?run) (by simp)) ?rest
    case run =>
      conv => lhs; whnf
      rw [kdec hk]
      conv => lhs; whnf
      refine bind_of (len_nil (n + 1) A) ?_
      conv => lhs; whnf
    case rest =>
      conv => lhs; whnf
      refine bind_of (joined_nil n A) ?_
      conv => lhs; whnf
      rfl
  · refine bind_of (a := (.exit 0, _, A)) (loopD_end (kexec_run (r := (.exit 0, ?s2, A)) ?run2) (by simp)) ?rest2
    case run2 =>
      conv => lhs; whnf
      rw [kdecn hk]
      conv => lhs; whnf
    case rest2 =>
      conv => lhs; whnf
      refine bind_of (joined_nil n A) ?_
      conv => lhs; whnf
      rfl
end Go.Dn.Pipe
end

section
namespace Go.Dn.Pipe
open Go.Proofs
set_option maxHeartbeats 4000000
set_option maxRecDepth 100000
attribute [local irreducible] Hp.get Hp.set Hp.push dappend dcopy dstore cellsAt callD loopD

theorem pipeNil_walk {call : CallT} (h12 : ∀ A, call 12 [] A = some (.bool true, A)) (h14 : ∀ A b, A.get 0 = some (er 0) → call 14 [.pointer none, b] A = some (.tuple #[.int .i64 0, .iface 168 (.pointer (some ⟨43, 0, none⟩))], A))
    (h27 : ∀ A, call 27 [.iface 168 (.pointer (some ⟨43, 0, none⟩))] A = some (.int .i64 1, A)) (h17 : ∀ A n, call 17 [.pointer none, .int .i64 n] A = some (.slice none 0 0, A)) (h16 : ∀ A, call 16 [.pointer none] A = some (.int .i64 0, A))
    (h26 : ∀ A, call 26 [.pointer none] A = some (.int .i64 0, A)) (h19 : ∀ A, call 19 [.pointer none] A = some (.bool false, A)) (h18 : ∀ A, call 18 [.pointer none] A = some (.int .u64 0, A))
    {A : Hp} {k n : Int} {a : Option Addr} {m c : Nat} {v : Value} {A2 : Hp} (h15 : call 15 [.slice a m c] (A.push (.arr 54 [.int .i64 k, .slice a m c, .int .i64 n] .own)) = some (v, A2))
    (h0 : A2.get 0 = some (er 0)) (hb : A2.get A.next = some (.arr 54 [.int .i64 k, .slice a m c, .int .i64 n] .own)) (lf : Nat) :
    kfn Tryd.bk.E call (Tryd.bk.inf 7) lf Tryd.f7 [.agg #[.int .i64 k, .slice a m c, .int .i64 n]] A = some (.bool true, A2) := by
  conv => lhs; whnf
  refine bind_of (h12 _) ?_
  conv => lhs; whnf
  rw [cellsAt_push_same]
  conv => lhs; whnf
  refine bind_of h15 ?_
  conv => lhs; whnf
  refine bind_of (h14 _ _ h0) ?_
  conv => lhs; whnf
  refine bind_of (h27 _) ?_
  conv => lhs; whnf
  rw [cellsAt_of hb]
  conv => lhs; whnf
  refine bind_of (h17 _ _) ?_
  conv => lhs; whnf
  refine bind_of (h16 _) ?_
  conv => lhs; whnf
  refine bind_of (h26 _) ?_
  conv => lhs; whnf
  refine bind_of (h19 _) ?_
  conv => lhs; whnf
  refine bind_of (h18 _) ?_
  conv => lhs; whnf
  rfl
end Go.Dn.Pipe
end
