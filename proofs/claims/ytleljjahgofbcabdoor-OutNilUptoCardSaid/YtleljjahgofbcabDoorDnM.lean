/-
  Part of the abstract machine for this program.
-/
import Derived.Test.YtleljjahgofbcabDoorDnH
import Derived.Test.YtleljjahgofbcabDoorDnL

section
namespace Go.Dn
theorem kdec {p : Prop} [Decidable p] (h : p) : decide p = true := decide_eq_true h
theorem kdecn {p : Prop} [Decidable p] (h : ¬ p) : decide p = false := decide_eq_false h
theorem callD_base {B : Bk} {base : CallT} {f : FuncId} {args : List Value} {A : Hp} {r : Value × Hp} (hb : base f args A = some r) : ∀ n, callD B base n f args A = some r
  | 0 => hb
  | n + 1 => by simp only [callD, hb]
theorem cellsAt_push_same {A : Hp} {T : TypeId} {cs : List Value} {md : Md} (o n : Nat) : cellsAt (A.push (.arr T cs md)) A.next o n = cellsIn cs o n := cellsAt_of (Hp.get_push_same _ _) o n
theorem cellsAt_push_ne {A : Hp} {ob : Ob} {i o n : Nat} (h : i ≠ A.next) : cellsAt (A.push ob) i o n = cellsAt A i o n := by
  unfold cellsAt; rw [Hp.get_push_ne _ _ h]
theorem cellsAt_set_same {A : Hp} {T : TypeId} {cs : List Value} {md : Md} {i : Nat} (o n : Nat) : cellsAt (A.set i (some (.arr T cs md))) i o n = cellsIn cs o n := cellsAt_of (Hp.get_set_same _ _ _) o n
theorem cellsAt_set_ne {A : Hp} {ob : Option Ob} {i j o n : Nat} (h : i ≠ j) : cellsAt (A.set j ob) i o n = cellsAt A i o n := by
  unfold cellsAt; rw [Hp.get_set_ne _ _ h]
theorem loopD_end {ks : Option (List Nat)} {f : Sl → Hp → Option (Ex × Sl × Hp)} {n : Nat} {σ σ1 : Sl} {A A1 : Hp} {e : Ex} (h : f σ A = some (e, σ1, A1)) (he : e ≠ .normal) : loopD ks f (n + 1) σ A = some (e, keepSl ks σ1, A1) := by
  simp only [loopD, h, Option.bind_some]
theorem Hp.get_push_at {A : Hp} {i : Nat} (o : Ob) (h : i = A.next) : (A.push o).get i = some o := by subst h; exact Hp.get_push_same _ _
end Go.Dn
end

section
namespace Go.Dn.Ob
open Go.Proofs
set_option maxHeartbeats 4000000
set_option maxRecDepth 100000
attribute [local irreducible] Hp.get Hp.set Hp.push dappend dcopy dstore cellsAt callD loopD

theorem elB : ElT Tryd.bk.E 26 5 1 1 := ⟨⟨_, rfl, rfl⟩, ⟨_, _, rfl, rfl, rfl, rfl, rfl⟩, by decide⟩
theorem elB2 : ∃ i e2, Tryd.bk.E.T 26 = some i ∧ i.d = .slice e2 := ⟨_, _, rfl, rfl⟩

abbrev hd5 (a b c d e : Int) : List Value := [.int .u8 a, .int .u8 b, .int .u16 c, .int .u32 d, .int .u32 e]

theorem put_nil {call : CallT} (lf : Nat) {A : Hp} {a b c d e : Int} {v : Option Addr} {m k : Nat} (hw : A.wf) (h0 : A.get 0 = some (er 0)) :
    ∃ A', kfn Tryd.bk.E call (Tryd.bk.inf 17) lf Tryd.f17 [.pointer none, .agg #[.int .u8 a, .int .u8 b, .int .u16 c, .int .u32 d, .int .u32 e, .slice v m k]] A = some (.iface 246 (.pointer (some ⟨44, 0, none⟩)), A') ∧ (∀ j, j < A.next → A'.get j = A.get j) ∧ A.next ≤ A'.next ∧ A'.wf := by
  have hne : 0 ≠ A.next := by have := hw.lt h0; omega
  refine ⟨A.push (.arr 28 [.int .u8 a, .int .u8 b, .int .u16 c, .int .u32 d, .int .u32 e, .slice v m k] .own), ?_, fun j hj => Hp.get_push_ne _ _ (by omega), by simp, hw.push _⟩
  conv => lhs; whnf
  rw [cellsAt_push_ne hne, cellsAt_of h0]
  conv => lhs; whnf
  rfl
theorem len_nil {call : CallT} (lf : Nat) (A : Hp) : kfn Tryd.bk.E call (Tryd.bk.inf 20) lf Tryd.f20 [.pointer none] A = some (.int .i64 0, A) := by
  conv => lhs; whnf
  rfl
theorem frames_nil {call : CallT} (lf : Nat) (A : Hp) : kfn Tryd.bk.E call (Tryd.bk.inf 21) lf Tryd.f21 [.pointer none] A = some (.int .i64 0, A) := by
  conv => lhs; whnf
  rfl
theorem clear_nil {call : CallT} (h20 : ∀ A, call 20 [.pointer none] A = some (.int .i64 0, A)) (lf : Nat) (A : Hp) : kfn Tryd.bk.E call (Tryd.bk.inf 22) lf Tryd.f22 [.pointer none] A = some (.int .i64 0, A) := by
  conv => lhs; whnf
  refine bind_of (h20 _) ?_
  conv => lhs; whnf
  rfl
theorem take_nil {call : CallT} (h20 : ∀ A, call 20 [.pointer none] A = some (.int .i64 0, A)) (lf : Nat) (A : Hp) (k : Int) : kfn Tryd.bk.E call (Tryd.bk.inf 19) (lf + 1) Tryd.f19 [.pointer none, .int .i64 k] A = some (.slice none 0 0, A) := by
  conv => lhs; whnf
  by_cases hk : k > 0
  · refine bind_of (a := (.exit 0, _, A)) (loopD_end (kexec_run (r := (.exit 0, ?s, A)) ?run) (by simp)) ?rest
    case run =>
      conv => lhs; whnf
      rw [kdec hk]
      conv => lhs; whnf
      refine bind_of (h20 _) ?_
      conv => lhs; whnf
    case rest =>
      conv => lhs; whnf
      rfl
  · refine bind_of (a := (.exit 0, _, A)) (loopD_end (kexec_run (r := (.exit 0, ?s2, A)) ?run2) (by simp)) ?rest2
    case run2 =>
      conv => lhs; whnf
      rw [kdecn hk]
      conv => lhs; whnf
    case rest2 =>
      conv => lhs; whnf
      rfl

/-- a frame with a payload of its own -/
theorem copied_walk {call : CallT} (lf : Nat) {A : Hp} (hw : A.wf) {a b c d e : Int} {v : Option Addr} {m k : Nat} {us : List Value} (hx : elemsOf A 1 (.slice v m k) = some (us.length, us)) (hl : us.length ≤ 140737488355328) :
    ∃ i o n k' A', kfn Tryd.bk.E call (Tryd.bk.inf 18) lf Tryd.f18 [.agg #[.int .u8 a, .int .u8 b, .int .u16 c, .int .u32 d, .int .u32 e, .slice v m k]] A =
        some (.agg #[.int .u8 a, .int .u8 b, .int .u16 c, .int .u32 d, .int .u32 e, .slice (some ⟨i, o, some 1⟩) n k'], A') ∧ SlAt 5 1 A' (.slice (some ⟨i, o, some 1⟩) n k') (some i) us us.length ∧ A'.wf ∧ A.next ≤ A'.next ∧ (∀ j, j < A.next → A'.get j = A.get j) := by
  let F : List Value := [.int .u8 a, .int .u8 b, .int .u16 c, .int .u32 d, .int .u32 e, .slice v m k]
  let Z : List Value := [.int .u8 0, .int .u8 0, .int .u16 0, .int .u32 0, .int .u32 0, .slice none 0 0]
  let A1 : Hp := ((A.push (.arr 28 F .own)).push (.arr 28 Z .own)).push (.arr 5 [] .own)
  have hA1 : A1 = ((A.push (.arr 28 F .own)).push (.arr 28 Z .own)).push (.arr 5 [] .own) := rfl
  have hA1n : A1.next = A.next + 3 := by rw [hA1]; simp only [Hp.next_push]
  have hA1w : A1.wf := ((hw.push _).push _).push _
  have hold : ∀ j, j < A.next → A1.get j = A.get j := fun j hj => by
    rw [hA1, Hp.get_push_ne _ _ (by simp only [Hp.next_push]; omega), Hp.get_push_ne _ _ (by simp only [Hp.next_push]; omega), Hp.get_push_ne _ _ (by omega)]
  have h1 : SlAt 5 1 A1 (.slice (some ⟨A.next + 2, 0, some 1⟩) 0 1) (some (A.next + 2)) [] 0 := .at (A.next + 2) 0 0 1 [] [] (.inr rfl) (by rw [hA1]; exact Hp.get_push_at _ (by simp only [Hp.next_push])) (by simp) rfl
  have hF : A1.get A.next = some (.arr 28 F .own) := by
    rw [hA1, Hp.get_push_ne _ _ (by simp only [Hp.next_push]; omega), Hp.get_push_ne _ _ (by simp only [Hp.next_push]; omega), Hp.get_push_same]
  have hZ : A1.get (A.next + 1) = some (.arr 28 Z .own) := by
    rw [hA1, Hp.get_push_ne _ _ (by simp only [Hp.next_push]; omega)]
    exact Hp.get_push_at _ (by simp only [Hp.next_push])
  have h2 : elemsOf A1 1 (.slice v m k) = some (us.length, us) := elemsOf_keep hx fun i o hi _ => hold i (hw.lt hi)
  obtain ⟨v', A2, io', a1, a2, a3, a4, a5, a6⟩ := append_at elB elB2 h1 h2 (by simp) (by omega) (by unfold maxLen; omega)
  rw [List.nil_append, Nat.zero_add] at a2
  obtain ⟨i, hi⟩ : ∃ i, io' = some i ∧ A.next + 2 ≤ i := by
    rcases a6 with ⟨e1, _⟩ | ⟨i', e1, e2, _⟩
    · exact ⟨_, e1, by omega⟩
    · exact ⟨i', e1, by omega⟩
  obtain ⟨rfl, hib⟩ := hi
  cases a2 with
  | «at» _ o _ k' cs _ q1 q2 q3 q4 =>
  have hF2 : A2.get A.next = some (.arr 28 F .own) := by rw [a5 _ (by omega) (fun e => by have := Option.some.inj e; omega)]; exact hF
  have hZ2 : A2.get (A.next + 1) = some (.arr 28 Z .own) := by rw [a5 _ (by omega) (fun e => by have := Option.some.inj e; omega)]; exact hZ
  let F' : List Value := [.int .u8 a, .int .u8 b, .int .u16 c, .int .u32 d, .int .u32 e, .slice (some ⟨i, o, some 1⟩) us.length k']
  have hF3 : (A2.set A.next (some (.arr 28 F' .own))).get A.next = some (.arr 28 F' .own) := Hp.get_set_same _ _ _
  have hZ3 : (A2.set A.next (some (.arr 28 F' .own))).get (A.next + 1) = some (.arr 28 Z .own) := by rw [Hp.get_set_ne _ _ (by omega)]; exact hZ2
  have hn : (A.push (.arr 28 F .own)).next = A.next + 1 := by simp only [Hp.next_push]
  rw [← hn] at hZ3 hZ2
  refine ⟨i, o, us.length, k', (A2.set A.next (some (.arr 28 F' .own))).set (A.push (.arr 28 F .own)).next (some (.arr 28 F' .own)), ?_, ?_, ?_, ?_, ?_⟩
  · conv => lhs; whnf
    rw [cellsAt_push_ne (by simp only [Hp.next_push]; omega), cellsAt_push_ne (by simp only [Hp.next_push]; omega), cellsAt_push_same]
    conv => lhs; whnf
    have hX : ((A.push (.arr 28 F .own)).push (.arr 28 Z .own)).next = A.next + 2 := by simp only [Hp.next_push]
    rw [← hX] at a1
    refine bind_of a1 ?_
    conv => lhs; whnf
    refine bind_of (dstore_of hF2 (o := 5) (cs' := F') rfl) ?_
    conv => lhs; whnf
    rw [cellsAt_of hF3]
    conv => lhs; whnf
    refine bind_of (dstore_of hZ3 (o := 0) (cs' := F') rfl) ?_
    conv => lhs; whnf
    refine bind_of (a := F') ((cellsAt_set_same 0 6).trans rfl) ?_
    conv => lhs; whnf
    rfl
  · refine .at i o _ k' cs us q1 ?_ q3 q4
    rw [Hp.get_set_ne _ _ (by omega), Hp.get_set_ne _ _ (by omega)]; exact q2
  · exact ((a4 hA1w).put hF2 _).put hZ3 _
  · simp only [Hp.next_set]; omega
  · intro j hj
    rw [Hp.get_set_ne _ _ (by omega), Hp.get_set_ne _ _ (by omega), a5 j (by omega) (fun e => by have := Option.some.inj e; omega), hold j hj]

theorem outNil_walk {call : CallT} (h15 : ∀ A, call 15 [] A = some (.bool true, A)) (h16 : ∀ A, call 16 [.iface 246 (.pointer (some ⟨44, 0, none⟩))] A = some (.int .i64 1, A))
    (h19 : ∀ A n, call 19 [.pointer none, .int .i64 n] A = some (.slice none 0 0, A)) (h20 : ∀ A, call 20 [.pointer none] A = some (.int .i64 0, A)) (h21 : ∀ A, call 21 [.pointer none] A = some (.int .i64 0, A)) (h22 : ∀ A, call 22 [.pointer none] A = some (.int .i64 0, A))
    {A : Hp} {k n a b c d e : Int} {v : Option Addr} {m kk : Nat} {F : Value} {A2 A3 : Hp}
    (h18 : call 18 [.agg #[.int .u8 a, .int .u8 b, .int .u16 c, .int .u32 d, .int .u32 e, .slice v m kk]] (A.push (.arr 30 [.int .i64 k, .int .u8 a, .int .u8 b, .int .u16 c, .int .u32 d, .int .u32 e, .slice v m kk, .int .i64 n] .own)) = some (F, A2))
    (h17 : call 17 [.pointer none, F] A2 = some (.iface 246 (.pointer (some ⟨44, 0, none⟩)), A3))
    (hb : A3.get A.next = some (.arr 30 [.int .i64 k, .int .u8 a, .int .u8 b, .int .u16 c, .int .u32 d, .int .u32 e, .slice v m kk, .int .i64 n] .own)) (lf : Nat) :
    kfn Tryd.bk.E call (Tryd.bk.inf 3) lf Tryd.f3 [.agg #[.int .i64 k, .int .u8 a, .int .u8 b, .int .u16 c, .int .u32 d, .int .u32 e, .slice v m kk, .int .i64 n]] A = some (.bool true, A3) := by
  conv => lhs; whnf
  refine bind_of (h15 _) ?_
  conv => lhs; whnf
  rw [cellsAt_push_same]
  conv => lhs; whnf
  refine bind_of h18 ?_
  conv => lhs; whnf
  refine bind_of h17 ?_
  conv => lhs; whnf
  refine bind_of (h16 _) ?_
  conv => lhs; whnf
  rw [cellsAt_of hb]
  conv => lhs; whnf
  refine bind_of (h19 _ _) ?_
  conv => lhs; whnf
  refine bind_of (h20 _) ?_
  conv => lhs; whnf
  refine bind_of (h21 _) ?_
  conv => lhs; whnf
  refine bind_of (h22 _) ?_
  conv => lhs; whnf
  rfl
end Go.Dn.Ob
end
