/-
  Part of the abstract machine for this program.
-/
import Derived.Test.YtjhimcdahpncaaaDoorPH

section
namespace Go.Dn.Pipe
open Go.Proofs
set_option maxHeartbeats 4000000
set_option maxRecDepth 100000
attribute [local irreducible] Hp.get Hp.set Hp.push dappend dcopy dstore cellsAt callD loopD

/-- the document's buffer: its frames, what is left of each -/
def RF (A : Hp) (V : Value) (fs : List (List Value)) : Prop := ∃ vs io, CanAt 22 1 A V io vs fs.length ∧ Pcs A vs fs

theorem RF.keep {A A' : Hp} {V : Value} {fs : List (List Value)} (h : RF A V fs) (hk : ∀ j T cs md, A.get j = some (.arr T cs md) → A'.get j = A.get j) : RF A' V fs := by
  obtain ⟨vs, io, h1, h2⟩ := h
  refine ⟨vs, io, h1.keep fun j hj => ?_, h2.1, fun k v us a b => ?_⟩
  · subst hj
    cases h1 with
    | «at» _ _ _ hg _ _ => exact hk _ _ _ _ hg
  · obtain ⟨iv, hc⟩ := h2.2 k v us a b
    exact ⟨iv, hc.keep fun j hj => by
      cases hj
      generalize us.length = n at hc
      cases hc with
      | «at» _ _ _ hg _ _ => exact hk _ _ _ _ hg⟩
theorem RF.old {A A' : Hp} {V : Value} {fs : List (List Value)} (h : RF A V fs) (hw : A.wf) (hk : Kp A A') : RF A' V fs := h.keep fun j _ _ _ hg => hk.old j (hw.lt hg)
theorem RF.form {A : Hp} {V : Value} {fs : List (List Value)} (h : RF A V fs) : (fs = [] ∧ V = .slice none 0 0) ∨ ∃ il vs, fs ≠ [] ∧ V = .slice (some ⟨il, 0, some 1⟩) fs.length (2 * fs.length) ∧ A.get il = some (.arr 22 vs .own) ∧ Pcs A vs fs := by
  obtain ⟨vs, io, h1, h2⟩ := h
  generalize hn : fs.length = n at h1
  cases h1 with
  | nil => exact .inl ⟨List.eq_nil_of_length_eq_zero hn, rfl⟩
  | «at» il _ _ hg hl hp => exact .inr ⟨il, vs, fun e => hp (by rw [← hn, e]; rfl), rfl, hg, h2⟩

theorem RF.sl {A : Hp} {V : Value} {fs : List (List Value)} (h : RF A V fs) : ∃ a c, V = .slice a fs.length c := by
  rcases h.form with ⟨rfl, rfl⟩ | ⟨il, vs, _, rfl, _, _⟩
  · exact ⟨none, 0, rfl⟩
  · exact ⟨_, _, rfl⟩

theorem rlen_end {call : CallT} (lf : Nat) {A : Hp} {bx : Nat} {a : Option Addr} {m c : Nat} (hbx : A.get bx = some (.arr 79 [.slice a m c] .own)) (s : Value) {i : Nat} (hi : ¬ i < m) :
    ∃ σ1, exec Tryd.bk.E call Tryd.f65.ntmps (Tryd.bk.inf 65) lf (loopOf Tryd.f65 0) [(1, ptr bx), (2, .int .i64 0), (3, s), (4, .int .i64 (i : Nat))] A = some (.exit 0, σ1, A) ∧
      keepSl (some [1, 2, 3, 4]) σ1 = [(1, ptr bx), (2, .int .i64 0), (3, s), (4, .int .i64 (i : Nat))] := by
  have e1 : ¬ ((i : Nat) : Int) < ((m : Nat) : Int) := by omega
  refine ⟨?sg, kexec_run ?run, ?kp⟩
  case run =>
    conv => lhs; whnf
    refine bind_of (cellsAt_of hbx _ _) ?_
    conv => lhs; whnf
    rw [kdecn e1]
  case kp => rfl

theorem rlen_walk {call : CallT} (lf : Nat) {A : Hp} (hw : A.wf) {V : Value} {fs : List (List Value)} (h : RF A V fs) (hfl : fs.length ≤ 1048576) (hs : fs.flatten.length ≤ 1000000000) (hlf : fs.length < lf) :
    ∃ A', kfn Tryd.bk.E call (Tryd.bk.inf 65) lf Tryd.f65 [.agg #[V]] A = some (.int .i64 (fs.flatten.length : Nat), A') ∧ Kp A A' := by
  let A1 : Hp := A.push (.arr 79 [V] .own)
  have k1 : Kp A A1 := Kp.push hw _
  have hbx : A1.get A.next = some (.arr 79 [V] .own) := Hp.get_push_same _ _
  have hR := h.old hw k1
  obtain ⟨L, l1⟩ : ∃ L, loopD (some [1, 2, 3, 4]) (exec Tryd.bk.E call Tryd.f65.ntmps (Tryd.bk.inf 65) lf (loopOf Tryd.f65 0)) lf [(1, ptr A.next), (2, .int .i64 0), (3, .int .i64 ((0 : Nat) : Int)), (4, .int .i64 ((0 : Nat) : Int))] A1 =
      some (.exit 0, [(1, ptr A.next), (2, .int .i64 0), (3, .int .i64 (fs.flatten.length : Nat)), (4, L)], A1) := by
    have key := loop_rule (ks := some [1, 2, 3, 4]) (f := exec Tryd.bk.E call Tryd.f65.ntmps (Tryd.bk.inf 65) lf (loopOf Tryd.f65 0)) (S := Nat)
      (fun i => [(1, ptr A.next), (2, .int .i64 0), (3, .int .i64 ((fs.take i).flatten.length : Nat)), (4, .int .i64 (i : Nat))])
      (fun i B => i ≤ fs.length ∧ B = A1) (fun i => fs.length - i)
      (fun e σ B => e = .exit 0 ∧ B = A1 ∧ ∃ L, σ = [(1, ptr A.next), (2, .int .i64 0), (3, .int .i64 (fs.flatten.length : Nat)), (4, L)]) (fun i B hs => ?_)
      lf 0 A1 ⟨Nat.zero_le _, rfl⟩ (by omega)
    · obtain ⟨e, σ1, A2, r1, rfl, rfl, L, rfl⟩ := key
      exact ⟨L, r1⟩
    · obtain ⟨z1, rfl⟩ := hs
      rcases hR.form with ⟨rfl, rfl⟩ | ⟨il, vs, hne, rfl, hg, hP⟩
      · simp at z1
        subst z1
        obtain ⟨σ1, r1, r2⟩ := rlen_end (call := call) lf hbx (.int .i64 ((0 : Nat) : Int)) (i := 0) (by omega)
        exact ⟨.exit 0, σ1, _, r1, .inr ⟨by simp, rfl, rfl, _, r2⟩⟩
      · by_cases him : i < fs.length
        · obtain ⟨σ1, r1, r2⟩ := rlen_round (call := call) hbx hg hP hfl lf him (by assumption)
          exact ⟨.normal, σ1, _, r1, .inl ⟨rfl, i + 1, r2, ⟨him, rfl⟩, by omega⟩⟩
        · obtain rfl : i = fs.length := by omega
          obtain ⟨σ1, r1, r2⟩ := rlen_end (call := call) lf hbx (.int .i64 (((fs.take fs.length).flatten.length : Nat) : Int)) him
          refine ⟨.exit 0, σ1, _, r1, .inr ⟨by simp, rfl, rfl, .int .i64 (fs.length : Nat), ?_⟩⟩
          rw [r2, List.take_length]
  obtain ⟨a, c, rfl⟩ := h.sl
  refine ⟨A1, ?run, k1⟩
  case run =>
    conv => lhs; whnf
    refine bind_of l1 ?_
    conv => lhs; whnf
    rfl

/-! ## Put -/
structure CP (A0 : Hp) (vs : List Value) (i : Nat) (V8 : Value) (A : Hp) : Prop where
  kp : Kp A0 A
  o8 : ∃ io, CanAt 22 1 A V8 io (vs.take i) i ∧ ∀ j, io = some j → A0.next ≤ j

theorem rput_round {call : CallT} (lf : Nat) {A0 : Hp} (hw0 : A0.wf) {bx il : Nat} {vs : List Value} {m : Nat} (hbx : A0.get bx = some (.arr 79 [.slice (some ⟨il, 0, some 1⟩) m (2 * m)] .own)) (hil : A0.get il = some (.arr 22 vs .own)) (hm : vs.length = m) (hfl : m ≤ 1048576)
    {A : Hp} {V8 V4 V5 V6 : Value} {i : Nat} (hC : CP A0 vs i V8 A) (hi : i < m) {iv n c : Nat} (hv : vs[i]? = some (.slice (some ⟨iv, 0, some 1⟩) n c)) :
    ∃ σ1 A1 V8', exec Tryd.bk.E call Tryd.f63.ntmps (Tryd.bk.inf 63) lf (loopOf Tryd.f63 0) [(2, ptr bx), (4, V4), (5, V5), (6, V6), (8, V8), (9, .int .i64 (i : Nat))] A = some (.normal, σ1, A1) ∧
      keepSl (some [2, 4, 5, 6, 8, 9]) σ1 = [(2, ptr bx), (4, V4), (5, V5), (6, V6), (8, V8'), (9, .int .i64 (i + 1 : Nat))] ∧ CP A0 vs (i + 1) V8' A1 := by
  have e1 : ((i : Nat) : Int) < ((m : Nat) : Int) := by omega
  have hw2 : IntKind.i64.wrap ((i : Int) + 1) = ((i + 1 : Nat) : Int) := by rw [wrap64 (by omega) (by omega)]; omega
  obtain ⟨io, c1, c2⟩ := hC.o8
  have hbxA : A.get bx = some (.arr 79 [.slice (some ⟨il, 0, some 1⟩) m (2 * m)] .own) := by rw [hC.kp.old _ (hw0.lt hbx)]; exact hbx
  have hilA : A.get il = some (.arr 22 vs .own) := by rw [hC.kp.old _ (hw0.lt hil)]; exact hil
  obtain ⟨V', A', io', d1, d2, d3, d4, d5, d6⟩ := app_one elS elS2 hC.kp c1 c2 (.slice (some ⟨iv, 0, some 1⟩) n c) (by omega) (by unfold maxLen; omega)
  have htk : vs.take i ++ [.slice (some ⟨iv, 0, some 1⟩) n c] = vs.take (i + 1) := by rw [List.take_add_one, hv]; rfl
  rw [htk] at d2
  refine ⟨?sg, A', V', kexec_run ?run, ?kp, d4, some io', d2, fun j hj => by cases hj; have := hC.kp.nx; omega⟩
  case run =>
    conv => lhs; whnf
    refine bind_of (cellsAt_of hbxA _ _) ?_
    conv => lhs; whnf
    rw [kdec e1]
    conv => lhs; whnf
    refine bind_of (cellsAt_of hbxA _ _) ?_
    conv => lhs; whnf
    rw [kdec e1]
    conv => lhs; whnf
    refine bind_of ((cellsAt_of hilA _ _).trans (cells_one hv)) ?_
    conv => lhs; whnf
    refine bind_of d1 ?_
    conv => lhs; whnf
  case kp =>
    show [_, _, _, _, _, (9, Value.int .i64 (IntKind.i64.wrap ((i : Int) + 1)))] = _
    rw [hw2]

theorem rput_end {call : CallT} (lf : Nat) {A : Hp} {bx : Nat} {a : Option Addr} {m c : Nat} (hbx : A.get bx = some (.arr 79 [.slice a m c] .own)) (V4 V5 V6 V8 : Value) {i : Nat} (hi : ¬ i < m) :
    ∃ σ1, exec Tryd.bk.E call Tryd.f63.ntmps (Tryd.bk.inf 63) lf (loopOf Tryd.f63 0) [(2, ptr bx), (4, V4), (5, V5), (6, V6), (8, V8), (9, .int .i64 (i : Nat))] A = some (.exit 0, σ1, A) ∧
      keepSl (some [2, 4, 5, 6, 8, 9]) σ1 = [(2, ptr bx), (4, V4), (5, V5), (6, V6), (8, V8), (9, .int .i64 (i : Nat))] := by
  have e1 : ¬ ((i : Nat) : Int) < ((m : Nat) : Int) := by omega
  refine ⟨?sg, kexec_run ?run, ?kp⟩
  case run =>
    conv => lhs; whnf
    refine bind_of (cellsAt_of hbx _ _) ?_
    conv => lhs; whnf
    rw [kdecn e1]
  case kp => rfl

def RBytes (call : CallT) : Prop := ∀ {A : Hp}, A.wf → ∀ (ver typ : Int) {fl st ln : Int}, 0 ≤ fl → fl ≤ 4294967295 → 0 ≤ st → st ≤ 4294967295 → 0 ≤ ln → ln ≤ 4294967295 → ∀ {a : Option Addr} {c : Nat} {us : List Value}, BsAt A (.slice a us.length c) us → us.length ≤ 100000000 → (us.length : Int) = szOf typ ln →
    ∃ V A' i, call 73 [frm ver typ fl st ln (.slice a us.length c)] A = some (.tuple #[V, .int .i64 0], A') ∧ Kp A A' ∧ CanAt 5 1 A' V (some i) (hdrOf ver typ fl st ln ++ us) (12 + us.length) ∧ A.next ≤ i
def RBad (call : CallT) : Prop := ∀ {A : Hp}, A.wf → ∀ (ver typ fl st ln : Int) {a : Option Addr} {c m : Nat}, (m : Int) ≠ szOf typ ln → ∃ A', call 73 [frm ver typ fl st ln (.slice a m c)] A = some (.tuple #[.slice none 0 0, .int .i64 15], A') ∧ Kp A A'

theorem rput_loop {call : CallT} (lf : Nat) {A0 : Hp} (hw0 : A0.wf) {bx : Nat} {V : Value} {fs : List (List Value)} (hbx : A0.get bx = some (.arr 79 [V] .own)) (hR : RF A0 V fs) (hfl : fs.length ≤ 1048576) (hlf : fs.length < lf) (V4 V5 V6 : Value) :
    ∃ A1 V8 L vs io, loopD (some [2, 4, 5, 6, 8, 9]) (exec Tryd.bk.E call Tryd.f63.ntmps (Tryd.bk.inf 63) lf (loopOf Tryd.f63 0)) lf [(2, ptr bx), (4, V4), (5, V5), (6, V6), (8, .slice none 0 0), (9, .int .i64 ((0 : Nat) : Int))] A0 =
      some (.exit 0, [(2, ptr bx), (4, V4), (5, V5), (6, V6), (8, V8), (9, L)], A1) ∧ Kp A0 A1 ∧ CanAt 22 1 A1 V8 io vs fs.length ∧ Pcs A0 vs fs ∧ ∀ j, io = some j → A0.next ≤ j := by
  rcases hR.form with ⟨rfl, rfl⟩ | ⟨il, vs, hne, rfl, hg, hP⟩
  · obtain ⟨σ1, r1, r2⟩ := rput_end (call := call) lf hbx V4 V5 V6 (.slice none 0 0) (i := 0) (by omega)
    have := loop_out (ks := some [2, 4, 5, 6, 8, 9]) r1 (by simp) (n := lf) (by omega)
    rw [r2] at this
    exact ⟨A0, _, _, [], none, this, ⟨hw0, Nat.le_refl _, fun _ _ => rfl⟩, .nil, ⟨rfl, by simp⟩, by simp⟩
  · have hvl : vs.length = fs.length := hP.1
    have key := loop_rule (ks := some [2, 4, 5, 6, 8, 9]) (f := exec Tryd.bk.E call Tryd.f63.ntmps (Tryd.bk.inf 63) lf (loopOf Tryd.f63 0)) (S := Nat × Value)
      (fun s => [(2, ptr bx), (4, V4), (5, V5), (6, V6), (8, s.2), (9, .int .i64 (s.1 : Nat))])
      (fun s A => s.1 ≤ fs.length ∧ CP A0 vs s.1 s.2 A) (fun s => fs.length - s.1)
      (fun e σ A1 => e = .exit 0 ∧ ∃ V8 L, σ = [(2, ptr bx), (4, V4), (5, V5), (6, V6), (8, V8), (9, L)] ∧ CP A0 vs fs.length V8 A1) (fun s A hs => ?_)
      lf (0, .slice none 0 0) A0 ⟨Nat.zero_le _, ⟨hw0, Nat.le_refl _, fun _ _ => rfl⟩, none, .nil, by simp⟩ (by simp only; omega)
    · obtain ⟨e, σ1, A1, r1, rfl, V8, L, rfl, hC⟩ := key
      obtain ⟨io, c1, c2⟩ := hC.o8
      rw [List.take_of_length_le (by omega)] at c1
      exact ⟨A1, V8, L, vs, io, r1, hC.kp, c1, hP, c2⟩
    · obtain ⟨i, v8⟩ := s
      obtain ⟨z1, z2⟩ := hs
      simp only at z1 z2 ⊢
      by_cases him : i < fs.length
      · obtain ⟨iv, hv, _⟩ := hP.form (List.getElem?_eq_getElem him)
        obtain ⟨σ1, A1, V8', r1, r2, r3⟩ := rput_round (call := call) lf hw0 hbx hg hvl hfl (V4 := V4) (V5 := V5) (V6 := V6) z2 him hv
        exact ⟨.normal, σ1, A1, r1, .inl ⟨rfl, (i + 1, V8'), r2, ⟨him, r3⟩, by simp only; omega⟩⟩
      · obtain rfl : i = fs.length := by omega
        obtain ⟨σ1, r1, r2⟩ := rput_end (call := call) lf (A := A) (by rw [z2.kp.old _ (hw0.lt hbx)]; exact hbx) V4 V5 V6 v8 him
        exact ⟨.exit 0, σ1, A, r1, .inr ⟨by simp, rfl, v8, _, r2, z2⟩⟩
end Go.Dn.Pipe
end

section
/-
  the document's buffer (layer 6): Put, whole
-/
namespace Go.Dn.Pipe
open Go.Proofs
set_option maxHeartbeats 4000000
set_option maxRecDepth 100000
attribute [local irreducible] Hp.get Hp.set Hp.push dappend dcopy dstore cellsAt callD loopD

theorem _root_.Go.Dn.CanAt.some_form {e sz : Nat} {A : Hp} {v : Value} {i : Nat} {us : List Value} {n : Nat} (h : CanAt e sz A v (some i) us n) : v = .slice (some ⟨i, 0, some sz⟩) n (2 * n) ∧ A.get i = some (.arr e us .own) ∧ us.length = n * sz := by
  cases h with
  | «at» i _ _ hg hl _ => exact ⟨rfl, hg, hl⟩

theorem Pcs.keep5 {A A' : Hp} {vs : List Value} {fs : List (List Value)} (h : Pcs A vs fs) (hk : ∀ j cs, A.get j = some (.arr 5 cs .own) → (∃ v ∈ vs, j ∈ blkOf v) → A'.get j = A.get j) : Pcs A' vs fs := by
  refine ⟨h.1, fun k v us h1 h2 => ?_⟩
  obtain ⟨iv, hc⟩ := h.2 k v us h1 h2
  have hm := List.mem_of_getElem? h1
  exact ⟨iv, hc.keep fun j hj => by
    cases hj
    exact hk _ _ hc.some_form.2.1 ⟨v, hm, (blk_can hc _).1 rfl⟩⟩

theorem rput_walk {call : CallT} (hb : RBytes call) (lf : Nat) {A : Hp} (hw : A.wf) {V : Value} {fs : List (List Value)} (hR : RF A V fs) (hfl : fs.length ≤ 1048576) (hlf : fs.length < lf)
    (ver typ : Int) {fl st ln : Int} (f0 : 0 ≤ fl) (f1 : fl ≤ 4294967295) (s0 : 0 ≤ st) (s1 : st ≤ 4294967295) (l0 : 0 ≤ ln) (l1 : ln ≤ 4294967295) {a : Option Addr} {c : Nat} {us : List Value} (hB : BsAt A (.slice a us.length c) us) (hl : us.length ≤ 100000000) (hsz : (us.length : Int) = szOf typ ln) :
    ∃ V' A', kfn Tryd.bk.E call (Tryd.bk.inf 63) lf Tryd.f63 [.agg #[V], frm ver typ fl st ln (.slice a us.length c)] A = some (.tuple #[.agg #[V'], .int .i64 0], A') ∧ Kp A A' ∧ RF A' V' (fs ++ [hdrOf ver typ fl st ln ++ us]) := by
  obtain ⟨va, vc, rfl⟩ := hR.sl
  let F : List Value := [.int .u8 ver, .int .u8 typ, .int .u16 fl, .int .u32 st, .int .u32 ln, .slice a us.length c]
  let A1 : Hp := A.push (.arr 79 [.slice va fs.length vc] .own)
  let A2 : Hp := A1.push (.arr 86 F .own)
  let A3 : Hp := A2.push (.arr 79 [.slice none 0 0] .own)
  have n1 : A1.next = A.next + 1 := by simp [A1]
  have n2 : A2.next = A.next + 2 := by simp [A2, A1]
  have n3 : A3.next = A.next + 3 := by simp [A3, A2, A1]
  have k1 : Kp A A1 := Kp.push hw _
  have k2 : Kp A1 A2 := Kp.push k1.wf _
  have k3 : Kp A2 A3 := Kp.push k2.wf _
  have kA3 : Kp A A3 := (k1.trans k2).trans k3
  have q1 : A1.get A.next = some (.arr 79 [.slice va fs.length vc] .own) := Hp.get_push_same _ _
  have q3 : A3.get A.next = some (.arr 79 [.slice va fs.length vc] .own) := by rw [k3.old _ (by omega), k2.old _ (by omega)]; exact q1
  have f2 : A2.get A1.next = some (.arr 86 F .own) := Hp.get_push_same _ _
  have f3 : A3.get A1.next = some (.arr 86 F .own) := by rw [k3.old _ (by omega)]; exact f2
  have z3 : A3.get A2.next = some (.arr 79 [.slice none 0 0] .own) := Hp.get_push_same _ _
  obtain ⟨B, A4, ib, e1, e2, e3, e4⟩ := hb kA3.wf ver typ f0 f1 s0 s1 l0 l1 (hB.old hw kA3.old) hl hsz
  have kA4 : Kp A A4 := kA3.trans e2
  have hln : (hdrOf ver typ fl st ln ++ us).length = 12 + us.length := by rw [List.length_append, hdr_len]
  obtain ⟨rfl, e5, _⟩ := e3.some_form
  have n4 := e2.nx
  obtain ⟨A5, V8, L, vs, io, g1, g2, g3, g4, g5⟩ := rput_loop (call := call) lf e2.wf (bx := A.next) (by rw [e2.old _ (by omega)]; exact q3) (hR.old hw kA4) hfl hlf (ptr A2.next) (.int .i64 0) (.slice (some ⟨ib, 0, some 1⟩) (12 + us.length) (2 * (12 + us.length)))
  have kA5 : Kp A A5 := kA4.trans g2
  have n5 := g2.nx
  obtain ⟨V9, A6, io', d1, d2, d3, d4, d5, d6⟩ := app_one elS elS2 kA5 g3 (fun j hj => by have := g5 j hj; omega) (.slice (some ⟨ib, 0, some 1⟩) (12 + us.length) (2 * (12 + us.length))) (by omega) (by unfold maxLen; omega)
  obtain ⟨rfl, d7, _⟩ := d2.some_form
  have z4 : A4.get A2.next = some (.arr 79 [.slice none 0 0] .own) := by rw [e2.old _ (by omega)]; exact z3
  have z5 : A5.get A2.next = some (.arr 79 [.slice none 0 0] .own) := by rw [g2.old _ (by omega)]; exact z4
  have z6 : A6.get A2.next = some (.arr 79 [.slice none 0 0] .own) := by rw [d6 _ (by omega) (fun e => by have := g5 _ e; omega)]; exact z5
  let V9 : Value := .slice (some ⟨io', 0, some 1⟩) (fs.length + 1) (2 * (fs.length + 1))
  have hP5 : Pcs A5 vs fs := g4.old e2.wf g2
  have old6 : ∀ j cs, A5.get j = some (.arr 5 cs .own) → A6.get j = A5.get j := fun j cs hj => d6 j (g2.wf.lt hj) (by
    rintro rfl
    rw [g3.some_form.2.1] at hj; cases hj)
  have eb5 : A5.get ib = some (.arr 5 (hdrOf ver typ fl st ln ++ us) .own) := by rw [g2.old ib (e2.wf.lt e5)]; exact e5
  have hib : CanAt 5 1 A6 (.slice (some ⟨ib, 0, some 1⟩) (12 + us.length) (2 * (12 + us.length))) (some ib) (hdrOf ver typ fl st ln ++ us) (hdrOf ver typ fl st ln ++ us).length := by
    rw [hln]
    exact .at ib _ _ (by rw [old6 ib _ eb5]; exact eb5) (by omega) (by omega)
  have hP6 := (hP5.keep5 (fun j cs hj _ => old6 j cs hj)).plus hib
  have kA7 : Kp A (A6.set A2.next (some (.arr 79 [V9] .own))) := d4.set z6 (by omega) _
  have hne : ∀ j cs, A6.get j = some (.arr 5 cs .own) → (A6.set A2.next (some (.arr 79 [V9] .own))).get j = A6.get j := fun j cs hj => Hp.get_set_ne _ _ (by rintro rfl; rw [z6] at hj; cases hj)
  refine ⟨V9, _, ?run, kA7, vs ++ [.slice (some ⟨ib, 0, some 1⟩) (12 + us.length) (2 * (12 + us.length))], some io', ?can, hP6.keep5 fun j cs hj _ => hne j cs hj⟩
  case can =>
    rw [List.length_append, List.length_singleton]
    exact d2.keep fun j hj => by cases hj; exact Hp.get_set_ne _ _ (by omega)
  case run =>
    conv => lhs; whnf
    refine bind_of (cellsAt_of f3 _ _) ?_
    conv => lhs; whnf
    refine bind_of e1 ?_
    conv => lhs; whnf
    refine bind_of g1 ?_
    conv => lhs; whnf
    refine bind_of d1 ?_
    conv => lhs; whnf
    refine bind_of (dstore_of z6 (t := 79) (o := 0) (cs' := [V9]) rfl) ?_
    conv => lhs; whnf
    refine bind_of (cellsAt_of (A := A6.set A2.next (some (.arr 79 [V9] .own))) (i := A2.next) (Hp.get_set_same _ _ _) 0 1) ?_
    conv => lhs; whnf
    rfl

theorem rput_bad {call : CallT} (hb : RBad call) (lf : Nat) {A : Hp} (hw : A.wf) {va : Option Addr} {vn vc : Nat} (ver typ fl st ln : Int) {a : Option Addr} {c m : Nat} (hsz : (m : Int) ≠ szOf typ ln) :
    ∃ A', kfn Tryd.bk.E call (Tryd.bk.inf 63) lf Tryd.f63 [.agg #[.slice va vn vc], frm ver typ fl st ln (.slice a m c)] A = some (.tuple #[.agg #[.slice va vn vc], .int .i64 15], A') ∧ Kp A A' := by
  let F : List Value := [.int .u8 ver, .int .u8 typ, .int .u16 fl, .int .u32 st, .int .u32 ln, .slice a m c]
  let A1 : Hp := A.push (.arr 79 [.slice va vn vc] .own)
  let A2 : Hp := A1.push (.arr 86 F .own)
  let A3 : Hp := A2.push (.arr 79 [.slice none 0 0] .own)
  have n1 : A1.next = A.next + 1 := by simp [A1]
  have n2 : A2.next = A.next + 2 := by simp [A2, A1]
  have n3 : A3.next = A.next + 3 := by simp [A3, A2, A1]
  have k1 : Kp A A1 := Kp.push hw _
  have k2 : Kp A1 A2 := Kp.push k1.wf _
  have k3 : Kp A2 A3 := Kp.push k2.wf _
  have kA3 : Kp A A3 := (k1.trans k2).trans k3
  have q1 : A1.get A.next = some (.arr 79 [.slice va vn vc] .own) := Hp.get_push_same _ _
  have q3 : A3.get A.next = some (.arr 79 [.slice va vn vc] .own) := by rw [k3.old _ (by omega), k2.old _ (by omega)]; exact q1
  have f2 : A2.get A1.next = some (.arr 86 F .own) := Hp.get_push_same _ _
  have f3 : A3.get A1.next = some (.arr 86 F .own) := by rw [k3.old _ (by omega)]; exact f2
  have z3 : A3.get A2.next = some (.arr 79 [.slice none 0 0] .own) := Hp.get_push_same _ _
  obtain ⟨A4, e1, e2⟩ := hb kA3.wf ver typ fl st ln (a := a) (c := c) hsz
  have kA4 : Kp A A4 := kA3.trans e2
  have q4 : A4.get A.next = some (.arr 79 [.slice va vn vc] .own) := by rw [e2.old _ (by omega)]; exact q3
  have z4 : A4.get A2.next = some (.arr 79 [.slice none 0 0] .own) := by rw [e2.old _ (by omega)]; exact z3
  refine ⟨_, ?run, kA4.set z4 (by omega) (.arr 79 [.slice va vn vc] .own)⟩
  case run =>
    conv => lhs; whnf
    refine bind_of (cellsAt_of f3 _ _) ?_
    conv => lhs; whnf
    refine bind_of e1 ?_
    conv => lhs; whnf
    refine bind_of (cellsAt_of q4 _ _) ?_
    conv => lhs; whnf
    refine bind_of (dstore_of z4 (t := 79) (o := 0) (cs' := [.slice va vn vc]) rfl) ?_
    conv => lhs; whnf
    refine bind_of (cellsAt_of (A := A4.set A2.next (some (.arr 79 [.slice va vn vc] .own))) (i := A2.next) (Hp.get_set_same _ _ _) 0 1) ?_
    conv => lhs; whnf
    rfl
end Go.Dn.Pipe
end

section
/-
  the document's buffer (layer 6): Take
-/
namespace Go.Dn.Pipe
open Go.Proofs
set_option maxHeartbeats 4000000
set_option maxRecDepth 100000
attribute [local irreducible] Hp.get Hp.set Hp.push dappend dcopy dstore cellsAt callD loopD

theorem _root_.Go.Dn.CanAt.sl3 {e sz : Nat} {A : Hp} {v : Value} {io : Option Nat} {us : List Value} {n : Nat} (h : CanAt e sz A v io us n) : ∃ a n c, v = .slice a n c := by
  cases h with
  | nil => exact ⟨_, _, _, rfl⟩
  | «at» => exact ⟨_, _, _, rfl⟩

theorem _root_.Go.Dn.CanAt.typ5 {A : Hp} {v : Value} {io : Option Nat} {us : List Value} {n : Nat} (h : CanAt 5 1 A v io us n) : Typ5 A v := fun j hj => by
  have := (blk_can h j).2 hj
  subst this
  exact ⟨_, _, h.some_form.2.1⟩

/-- what is left of the frame behind, if anything -/
def plusF (R : List (List Value)) (L : List Value) : List (List Value) := if L = [] then R else R ++ [L]

theorem dropF_ge : ∀ (n : Nat) (l : List (List Value)), l.flatten.length ≤ n → (∀ y ∈ l, y ≠ []) → dropF n l = []
  | _, [], _, _ => rfl
  | n, y :: l, h, hne => by
    rw [List.flatten_cons, List.length_append] at h
    simp only [dropF]
    rw [if_neg (by omega)]
    exact dropF_ge _ l (by omega) fun z hz => hne z (List.mem_cons_of_mem _ hz)

theorem dropF_snoc : ∀ (l : List (List Value)) (n : Nat) (x : List Value), x ≠ [] → (∀ y ∈ l, y ≠ []) → dropF n (l ++ [x]) = plusF (dropF n l) (x.drop (n - l.flatten.length))
  | [], n, x, hx, _ => by
    simp only [List.nil_append, dropF, List.flatten_nil, List.length_nil, Nat.sub_zero, plusF]
    by_cases h : n < x.length
    · rw [if_pos h, if_neg (by intro e; have := congrArg List.length e; simp at this; omega)]
    · rw [if_neg h, if_pos (List.drop_eq_nil_of_le (by omega))]
  | y :: l, n, x, hx, hne => by
    have hyl : 0 < x.length := List.length_pos_iff.2 hx
    simp only [List.cons_append, dropF, List.flatten_cons, List.length_append]
    by_cases h : n < y.length
    · rw [if_pos h, if_pos h, show n - (y.length + l.flatten.length) = 0 by omega, List.drop_zero]
      unfold plusF
      rw [if_neg hx]
      rfl
    · rw [if_neg h, if_neg h, dropF_snoc l _ x hx fun z hz => hne z (List.mem_cons_of_mem _ hz)]
      rw [show n - y.length - l.flatten.length = n - (y.length + l.flatten.length) by omega]

structure TK (A0 : Hp) (G L : List Value) (R : List (List Value)) (V6 V9 V7 : Value) (A : Hp) : Prop where
  kp : Kp A0 A
  w : ∃ ig il ir vs, CanAt 5 1 A V6 ig G G.length ∧ CanAt 5 1 A V9 il L L.length ∧ CanAt 22 1 A V7 ir vs R.length ∧ Pcs A vs R ∧ (∀ j, ig = some j → A0.next ≤ j) ∧ (∀ j, il = some j → A0.next ≤ j) ∧ (∀ j, ir = some j → A0.next ≤ j) ∧
    (∀ j, ig = some j → il ≠ some j ∧ ∀ v ∈ vs, j ∉ blkOf v) ∧ (∀ j, il = some j → ∀ v ∈ vs, j ∉ blkOf v)

theorem TK.got {A0 A : Hp} {G L : List Value} {R : List (List Value)} {V6 V9 V7 : Value} (h : TK A0 G L R V6 V9 V7 A) (x : Value) (hl : G.length ≤ 4000000000) :
    ∃ V6' A', dappend Tryd.bk.E 22 22 (A.push (.arr 5 [x] .own)) V6 (.slice (some ⟨A.next, 0, some 1⟩) 1 3) = some (V6', A') ∧ TK A0 (G ++ [x]) L R V6' V9 V7 A' := by
  obtain ⟨hk, ig, il, ir, vs, c1, c2, c3, c4, f1, f2, f3, d1, d2⟩ := h
  obtain ⟨V', A', io', a1, a2, a3, a4, a5, a6⟩ := app_one elB elB2 hk c1 f1 x (by omega) (by unfold maxLen; omega)
  have hpl := c4.lt hk.wf
  refine ⟨V', A', a1, a4, some io', il, ir, vs, by rw [List.length_append]; exact a2, c2.keep fun j hj => ?_, c3.keep fun j hj => ?_, c4.keep fun v hv j hj => ?_, fun j hj => by cases hj; have := hk.nx; omega, f2, f3, fun j hj => ?_, d2⟩
  · subst hj
    exact a6 j (c2.lt hk.wf) fun e => (d1 j e).1 rfl
  · subst hj
    refine a6 j (c3.lt hk.wf) ?_
    rintro rfl
    have h1 := c1.some_form.2.1
    rw [c3.some_form.2.1] at h1; cases h1
  · exact a6 j (hpl v hv j hj) fun e => (d1 j e).2 v hv hj
  · cases hj
    refine ⟨?_, fun v hv hj => ?_⟩
    · rintro rfl
      have := c2.lt hk.wf
      omega
    · have := hpl v hv io' hj
      omega

theorem TK.left {A0 A : Hp} {G L : List Value} {R : List (List Value)} {V6 V9 V7 : Value} (h : TK A0 G L R V6 V9 V7 A) (x : Value) (hl : L.length ≤ 4000000000) :
    ∃ V9' A', dappend Tryd.bk.E 22 22 (A.push (.arr 5 [x] .own)) V9 (.slice (some ⟨A.next, 0, some 1⟩) 1 3) = some (V9', A') ∧ TK A0 G (L ++ [x]) R V6 V9' V7 A' := by
  obtain ⟨hk, ig, il, ir, vs, c1, c2, c3, c4, f1, f2, f3, d1, d2⟩ := h
  obtain ⟨V', A', io', a1, a2, a3, a4, a5, a6⟩ := app_one elB elB2 hk c2 f2 x (by omega) (by unfold maxLen; omega)
  have hpl := c4.lt hk.wf
  refine ⟨V', A', a1, a4, ig, some io', ir, vs, c1.keep fun j hj => ?_, by rw [List.length_append]; exact a2, c3.keep fun j hj => ?_, c4.keep fun v hv j hj => ?_, f1, fun j hj => by cases hj; have := hk.nx; omega, f3, fun j hj => ⟨?_, (d1 j hj).2⟩, fun j hj v hv hb => ?_⟩
  · subst hj
    exact a6 j (c1.lt hk.wf) (d1 j rfl).1
  · subst hj
    refine a6 j (c3.lt hk.wf) ?_
    rintro rfl
    have h1 := c2.some_form.2.1
    rw [c3.some_form.2.1] at h1; cases h1
  · exact a6 j (hpl v hv j hj) fun e => d2 j e v hv hj
  · subst hj
    rintro e
    cases e
    have := c1.lt hk.wf
    omega
  · cases hj
    have := hpl v hv _ hb
    omega

theorem TK.rest {A0 A : Hp} {G L : List Value} {R : List (List Value)} {V6 V9 V7 : Value} (h : TK A0 G L R V6 V9 V7 A) (hL : L ≠ []) (hl : R.length ≤ 1048576) :
    ∃ i n c V7' A', V9 = .slice (some ⟨i, 0, some 1⟩) n c ∧ dappend Tryd.bk.E 59 59 (A.push (.arr 22 [V9] .own)) V7 (.slice (some ⟨A.next, 0, some 1⟩) 1 3) = some (V7', A') ∧ TK A0 G [] (R ++ [L]) V6 (.slice none 0 0) V7' A' := by
  obtain ⟨hk, ig, il, ir, vs, c1, c2, c3, c4, f1, f2, f3, d1, d2⟩ := h
  obtain ⟨i, rfl⟩ : ∃ i, il = some i := by
    generalize hn : L.length = n at c2
    cases c2 with
    | nil => exact absurd (List.eq_nil_of_length_eq_zero hn) hL
    | «at» i _ _ _ _ _ => exact ⟨i, rfl⟩
  obtain ⟨V', A', io', a1, a2, a3, a4, a5, a6⟩ := app_one elS elS2 hk c3 f3 V9 (by omega) (by unfold maxLen; omega)
  have hpl := c4.lt hk.wf
  have old5 : ∀ j cs, A.get j = some (.arr 5 cs .own) → A'.get j = A.get j := fun j cs hj => a6 j (hk.wf.lt hj) (by
    rintro rfl
    rw [c3.some_form.2.1] at hj; cases hj)
  have c2' : CanAt 5 1 A' V9 (some i) L L.length := c2.keep fun j hj => by cases hj; exact old5 i _ c2.some_form.2.1
  obtain ⟨e9, _, _⟩ := c2.some_form
  refine ⟨i, L.length, 2 * L.length, V', A', e9, a1, a4, ig, none, some io', vs ++ [V9], c1.keep fun j hj => by subst hj; exact old5 j _ c1.some_form.2.1, .nil, by rw [List.length_append, List.length_singleton]; exact a2,
    (c4.keep5 fun j cs hj _ => old5 j cs hj).plus c2', f1, by simp, fun j hj => by cases hj; have := hk.nx; omega, fun j hj => ⟨by simp, fun v hv hb => ?_⟩, by simp⟩
  rcases List.mem_append.1 hv with hv | hv
  · exact (d1 j hj).2 v hv hb
  · simp only [List.mem_singleton] at hv
    subst hv
    exact (d1 j hj).1 ((blk_can c2 j).2 hb)

section
variable {call : CallT} {A0 : Hp} (hw0 : A0.wf) {bx il : Nat} {vs : List Value} {fs : List (List Value)} (hbx : A0.get bx = some (.arr 79 [.slice (some ⟨il, 0, some 1⟩) fs.length (2 * fs.length)] .own)) (hil : A0.get il = some (.arr 22 vs .own)) (hP : Pcs A0 vs fs) (hfl : fs.length ≤ 1048576)
  {n : Int} {V4 V5 : Value}

include hw0 hbx hil hP in
/-- one byte -/
theorem rtake_byte (lf : Nat) {A : Hp} {G L : List Value} {R : List (List Value)} {V6 V9 V7 : Value} {i k : Nat} {us : List Value} {x : Value} (hT : TK A0 G L R V6 V9 V7 A) (hi : fs[i]? = some us) (hk : us[k]? = some x) (hG : G.length ≤ 1000000000) (hL : L.length ≤ 1000000000) (hkl : us.length ≤ 1000000000) (hx : ∃ u, x = .int .u8 u) :
    ∃ σ1 A1 V6' V9', exec Tryd.bk.E call Tryd.f64.ntmps (Tryd.bk.inf 64) lf (loopOf Tryd.f64 1) [(1, .int .i64 n), (2, ptr bx), (4, V4), (5, V5), (6, V6), (7, V7), (8, .int .i64 (i : Nat)), (9, V9), (10, .int .i64 (k : Nat))] A = some (.normal, σ1, A1) ∧
      keepSl (some [1, 2, 4, 5, 6, 7, 8, 9, 10]) σ1 = [(1, .int .i64 n), (2, ptr bx), (4, V4), (5, V5), (6, V6'), (7, V7), (8, .int .i64 (i : Nat)), (9, V9'), (10, .int .i64 (k + 1 : Nat))] ∧
      (((G.length : Nat) : Int) < n ∧ TK A0 (G ++ [x]) L R V6' V9' V7 A1 ∨ ¬ ((G.length : Nat) : Int) < n ∧ TK A0 G (L ++ [x]) R V6' V9' V7 A1) := by
  obtain ⟨u, rfl⟩ := hx
  obtain ⟨iv, hv, hg⟩ := hP.form hi
  have hil1 := (List.getElem?_eq_some_iff.1 hi).1
  have hkl1 := (List.getElem?_eq_some_iff.1 hk).1
  have e1 : ((i : Nat) : Int) < ((fs.length : Nat) : Int) := by omega
  have e2 : ((k : Nat) : Int) < ((us.length : Nat) : Int) := by omega
  have hw2 : IntKind.i64.wrap ((k : Int) + 1) = ((k + 1 : Nat) : Int) := by rw [wrap64 (by omega) (by omega)]; omega
  have old := hT.kp.old
  have qbx : A.get bx = some (.arr 79 [.slice (some ⟨il, 0, some 1⟩) fs.length (2 * fs.length)] .own) := by rw [old _ (hw0.lt hbx)]; exact hbx
  have qil : A.get il = some (.arr 22 vs .own) := by rw [old _ (hw0.lt hil)]; exact hil
  have qiv : A.get iv = some (.arr 5 us .own) := by rw [old _ (hw0.lt hg)]; exact hg
  obtain ⟨a6, c6, hV6⟩ : ∃ a c, V6 = .slice a G.length c := by
    obtain ⟨_, _, _, _, _, c1, _⟩ := hT
    generalize G.length = m at c1
    cases c1 with
    | nil => exact ⟨_, _, rfl⟩
    | «at» => exact ⟨_, _, rfl⟩
  subst hV6
  by_cases hgn : ((G.length : Nat) : Int) < n
  · obtain ⟨V6', A1, d1, d2⟩ := hT.got (.int .u8 u) (by omega)
    refine ⟨?sg, A1, V6', V9, kexec_run ?run, ?kp, .inl ⟨hgn, d2⟩⟩
    case run =>
      conv => lhs; whnf
      refine bind_of (cellsAt_of qbx _ _) ?_
      conv => lhs; whnf
      rw [kdec e1]
      conv => lhs; whnf
      refine bind_of ((cellsAt_of qil _ _).trans (cells_one hv)) ?_
      conv => lhs; whnf
      rw [kdec e2]
      conv => lhs; whnf
      rw [kdec hgn]
      conv => lhs; whnf
      refine bind_of (cellsAt_of qbx _ _) ?_
      conv => lhs; whnf
      rw [kdec e1]
      conv => lhs; whnf
      refine bind_of ((cellsAt_of qil _ _).trans (cells_one hv)) ?_
      conv => lhs; whnf
      rw [kdec e2]
      conv => lhs; whnf
      refine bind_of ((cellsAt_of qiv _ _).trans (cells_one hk)) ?_
      conv => lhs; whnf
      refine bind_of d1 ?_
      conv => lhs; whnf
    case kp =>
      show [_, _, _, _, _, _, _, _, (10, Value.int .i64 (IntKind.i64.wrap ((k : Int) + 1)))] = _
      rw [hw2]
  · obtain ⟨V9', A1, d1, d2⟩ := hT.left (.int .u8 u) (by omega)
    refine ⟨?sg2, A1, .slice a6 G.length c6, V9', kexec_run ?run2, ?kp2, .inr ⟨hgn, d2⟩⟩
    case run2 =>
      conv => lhs; whnf
      refine bind_of (cellsAt_of qbx _ _) ?_
      conv => lhs; whnf
      rw [kdec e1]
      conv => lhs; whnf
      refine bind_of ((cellsAt_of qil _ _).trans (cells_one hv)) ?_
      conv => lhs; whnf
      rw [kdec e2]
      conv => lhs; whnf
      rw [kdecn hgn]
      conv => lhs; whnf
      refine bind_of (cellsAt_of qbx _ _) ?_
      conv => lhs; whnf
      rw [kdec e1]
      conv => lhs; whnf
      refine bind_of ((cellsAt_of qil _ _).trans (cells_one hv)) ?_
      conv => lhs; whnf
      rw [kdec e2]
      conv => lhs; whnf
      refine bind_of ((cellsAt_of qiv _ _).trans (cells_one hk)) ?_
      conv => lhs; whnf
      refine bind_of d1 ?_
      conv => lhs; whnf
    case kp2 =>
      show [_, _, _, _, _, _, _, _, (10, Value.int .i64 (IntKind.i64.wrap ((k : Int) + 1)))] = _
      rw [hw2]

include hw0 hbx hil hP in
theorem rtake_byte_end (lf : Nat) {A : Hp} {V6 V9 V7 : Value} {i k : Nat} {us : List Value} (hk : Kp A0 A) (hi : fs[i]? = some us) (hkn : ¬ k < us.length) :
    ∃ σ1, exec Tryd.bk.E call Tryd.f64.ntmps (Tryd.bk.inf 64) lf (loopOf Tryd.f64 1) [(1, .int .i64 n), (2, ptr bx), (4, V4), (5, V5), (6, V6), (7, V7), (8, .int .i64 (i : Nat)), (9, V9), (10, .int .i64 (k : Nat))] A = some (.exit 2, σ1, A) ∧
      keepSl (some [1, 2, 4, 5, 6, 7, 8, 9, 10]) σ1 = [(1, .int .i64 n), (2, ptr bx), (4, V4), (5, V5), (6, V6), (7, V7), (8, .int .i64 (i : Nat)), (9, V9), (10, .int .i64 (k : Nat))] := by
  obtain ⟨iv, hv, hg⟩ := hP.form hi
  have hil1 := (List.getElem?_eq_some_iff.1 hi).1
  have e1 : ((i : Nat) : Int) < ((fs.length : Nat) : Int) := by omega
  have e2 : ¬ ((k : Nat) : Int) < ((us.length : Nat) : Int) := by omega
  have qbx : A.get bx = some (.arr 79 [.slice (some ⟨il, 0, some 1⟩) fs.length (2 * fs.length)] .own) := by rw [hk.old _ (hw0.lt hbx)]; exact hbx
  have qil : A.get il = some (.arr 22 vs .own) := by rw [hk.old _ (hw0.lt hil)]; exact hil
  refine ⟨?sg, kexec_run ?run, ?kp⟩
  case run =>
    conv => lhs; whnf
    refine bind_of (cellsAt_of qbx _ _) ?_
    conv => lhs; whnf
    rw [kdec e1]
    conv => lhs; whnf
    refine bind_of ((cellsAt_of qil _ _).trans (cells_one hv)) ?_
    conv => lhs; whnf
    rw [kdecn e2]
  case kp => rfl

structure KS where
  k : Nat
  G : List Value
  L : List Value
  v6 : Value
  v9 : Value

include hw0 hbx hil hP in
theorem rtake_frame (lf : Nat) {A : Hp} {G : List Value} {R : List (List Value)} {V6 V7 : Value} {i N : Nat} {us : List Value} (hT : TK A0 G [] R V6 (.slice none 0 0) V7 A) (hi : fs[i]? = some us) (hus : IsB us) (hn : N = n.toNat) (hGN : G.length ≤ N) (hul : us.length ≤ 400000000) (hGl : G.length ≤ 400000000) (hlf : us.length < lf) :
    ∃ A1 V6' V9' L10, loopD (some [1, 2, 4, 5, 6, 7, 8, 9, 10]) (exec Tryd.bk.E call Tryd.f64.ntmps (Tryd.bk.inf 64) lf (loopOf Tryd.f64 1)) lf [(1, .int .i64 n), (2, ptr bx), (4, V4), (5, V5), (6, V6), (7, V7), (8, .int .i64 (i : Nat)), (9, .slice none 0 0), (10, .int .i64 ((0 : Nat) : Int))] A =
      some (.exit 2, [(1, .int .i64 n), (2, ptr bx), (4, V4), (5, V5), (6, V6'), (7, V7), (8, .int .i64 (i : Nat)), (9, V9'), (10, L10)], A1) ∧ TK A0 (G ++ us.take (N - G.length)) (us.drop (N - G.length)) R V6' V9' V7 A1 := by
  have key := loop_rule (ks := some [1, 2, 4, 5, 6, 7, 8, 9, 10]) (f := exec Tryd.bk.E call Tryd.f64.ntmps (Tryd.bk.inf 64) lf (loopOf Tryd.f64 1)) (S := KS)
    (fun s => [(1, .int .i64 n), (2, ptr bx), (4, V4), (5, V5), (6, s.v6), (7, V7), (8, .int .i64 (i : Nat)), (9, s.v9), (10, .int .i64 (s.k : Nat))])
    (fun s A => s.k ≤ us.length ∧ TK A0 s.G s.L R s.v6 s.v9 V7 A ∧ s.G = G ++ (us.take s.k).take (N - G.length) ∧ s.L = (us.take s.k).drop (N - G.length)) (fun s => us.length - s.k)
    (fun e σ A1 => e = .exit 2 ∧ ∃ V6' V9' L10, σ = [(1, .int .i64 n), (2, ptr bx), (4, V4), (5, V5), (6, V6'), (7, V7), (8, .int .i64 (i : Nat)), (9, V9'), (10, L10)] ∧ TK A0 (G ++ us.take (N - G.length)) (us.drop (N - G.length)) R V6' V9' V7 A1) (fun s A hs => ?_)
    lf ⟨0, G, [], V6, .slice none 0 0⟩ A ⟨Nat.zero_le _, hT, by simp, by simp⟩ (by simp only; omega)
  · obtain ⟨e, σ1, A1, k1, rfl, V6', V9', L10, rfl, k2⟩ := key
    exact ⟨A1, V6', V9', L10, k1, k2⟩
  · obtain ⟨k, G', L', v6, v9⟩ := s
    obtain ⟨z1, z2, z3, z4⟩ := hs
    simp only at z1 z2 z3 z4 ⊢
    by_cases hk : k < us.length
    · have hx : us[k]? = some us[k] := List.getElem?_eq_getElem hk
      have hlk : (us.take k).length = k := by rw [List.length_take]; omega
      have hGl' : G'.length = G.length + min (N - G.length) k := by rw [z3, List.length_append, List.length_take, hlk]
      have hLl' : L'.length = k - (N - G.length) := by rw [z4, List.length_drop, hlk]
      have htk := take_succ hx
      obtain ⟨σ1, A1, V6', V9', r1, r2, r3⟩ := rtake_byte hw0 hbx hil hP (n := n) (V4 := V4) (V5 := V5) (call := call) lf z2 hi hx (by omega) (by omega) (by omega) (hus k _ hx)
      rcases r3 with ⟨c1, c2⟩ | ⟨c1, c2⟩
      · refine ⟨.normal, σ1, A1, r1, .inl ⟨rfl, ⟨k + 1, G' ++ [us[k]], L', V6', V9'⟩, r2, ⟨hk, c2, ?_, ?_⟩, by simp only; omega⟩⟩
        · simp only
          rw [htk, List.take_append, hlk, z3, List.append_assoc]
          congr 2
          rw [List.take_of_length_le (by simp; omega)]
        · simp only
          have h0 : [us[k]].drop (N - G.length - k) = [] := List.drop_eq_nil_of_le (by simp; omega)
          rw [htk, List.drop_append, hlk, z4, h0, List.append_nil]
      · refine ⟨.normal, σ1, A1, r1, .inl ⟨rfl, ⟨k + 1, G', L' ++ [us[k]], V6', V9'⟩, r2, ⟨hk, c2, ?_, ?_⟩, by simp only; omega⟩⟩
        · simp only
          rw [htk, List.take_append, hlk, z3, show N - G.length - k = 0 by omega, List.take_zero, List.append_nil]
        · simp only
          rw [htk, List.drop_append, hlk, z4, show N - G.length - k = 0 by omega, List.drop_zero]
    · obtain rfl : k = us.length := by omega
      obtain ⟨σ1, r1, r2⟩ := rtake_byte_end hw0 hbx hil hP (n := n) (V4 := V4) (V5 := V5) (V6 := v6) (V9 := v9) (V7 := V7) (call := call) lf z2.kp hi (by omega : ¬ us.length < us.length)
      refine ⟨.exit 2, σ1, A, r1, .inr ⟨by simp, rfl, v6, v9, _, r2, ?_⟩⟩
      rw [List.take_length] at z3 z4
      rw [← z3, ← z4]
      exact z2

structure FS where
  i : Nat
  v6 : Value
  v7 : Value

theorem flat_take_le (fs : List (List Value)) (i : Nat) : (fs.take i).flatten.length ≤ fs.flatten.length := by
  conv => rhs; rw [← List.take_append_drop i fs]
  rw [List.flatten_append, List.length_append]
  omega

include hw0 hbx hil hP hfl in
theorem rtake_round (lf : Nat) {A : Hp} {V6 V7 : Value} {i : Nat} (hlf : ∀ us ∈ fs, us.length < lf) (hne : ∀ us ∈ fs, us ≠ []) (hus : IsB fs.flatten) (hsum : fs.flatten.length ≤ 400000000) (hi : i < fs.length)
    (hT : TK A0 ((fs.take i).flatten.take n.toNat) [] (dropF n.toNat (fs.take i)) V6 (.slice none 0 0) V7 A) :
    ∃ σ1 A1 V6' V7', exec Tryd.bk.E call Tryd.f64.ntmps (Tryd.bk.inf 64) lf (loopOf Tryd.f64 0) [(1, .int .i64 n), (2, ptr bx), (4, V4), (5, V5), (6, V6), (7, V7), (8, .int .i64 (i : Nat))] A = some (.normal, σ1, A1) ∧
      keepSl (some [1, 2, 4, 5, 6, 7, 8]) σ1 = [(1, .int .i64 n), (2, ptr bx), (4, V4), (5, V5), (6, V6'), (7, V7'), (8, .int .i64 (i + 1 : Nat))] ∧
      TK A0 ((fs.take (i + 1)).flatten.take n.toNat) [] (dropF n.toNat (fs.take (i + 1))) V6' (.slice none 0 0) V7' A1 := by
  obtain ⟨us, hx⟩ : ∃ us, fs[i]? = some us := ⟨_, List.getElem?_eq_getElem hi⟩
  have hmem := List.mem_of_getElem? hx
  have e1 : ((i : Nat) : Int) < ((fs.length : Nat) : Int) := by omega
  have hw2 : IntKind.i64.wrap ((i : Int) + 1) = ((i + 1 : Nat) : Int) := by rw [wrap64 (by omega) (by omega)]; omega
  have htk : fs.take (i + 1) = fs.take i ++ [us] := by rw [List.take_add_one, hx]; rfl
  have h1 := flat_take_le fs i
  have h2 := flat_take_le fs (i + 1)
  have hfe : (fs.take (i + 1)).flatten = (fs.take i).flatten ++ us := by rw [htk]; simp
  have h3 : (fs.take (i + 1)).flatten.length = (fs.take i).flatten.length + us.length := by rw [hfe, List.length_append]
  have hGl : ((fs.take i).flatten.take n.toNat).length = min n.toNat (fs.take i).flatten.length := List.length_take
  have hN : n.toNat - ((fs.take i).flatten.take n.toNat).length = n.toNat - (fs.take i).flatten.length := by omega
  have husB : IsB us := fun j x hj => by
    have e : fs.flatten = (fs.take i).flatten ++ (us ++ (fs.drop (i + 1)).flatten) := by
      conv => lhs; rw [← List.take_append_drop (i + 1) fs]
      rw [List.flatten_append, hfe, List.append_assoc]
    have hj1 := (List.getElem?_eq_some_iff.1 hj).1
    exact hus ((fs.take i).flatten.length + j) x (by
      rw [e, List.getElem?_append_right (by omega), List.getElem?_append_left (by omega)]
      rw [show (fs.take i).flatten.length + j - (fs.take i).flatten.length = j by omega]
      exact hj)
  have hdr : dropF n.toNat (fs.take (i + 1)) = plusF (dropF n.toNat (fs.take i)) (us.drop (n.toNat - (fs.take i).flatten.length)) := by
    rw [htk]
    exact dropF_snoc _ _ us (hne us hmem) fun y hy => hne y (List.mem_of_mem_take hy)
  have hgt : (fs.take (i + 1)).flatten.take n.toNat = (fs.take i).flatten.take n.toNat ++ us.take (n.toNat - (fs.take i).flatten.length) := by rw [hfe, List.take_append]
  have hRl : (dropF n.toNat (fs.take i)).length ≤ 1048576 := by
    have : ∀ (m : Nat) (l : List (List Value)), (dropF m l).length ≤ l.length := by
      intro m l
      induction l generalizing m with
      | nil => simp [dropF]
      | cons y l ih =>
        simp only [dropF]
        split
        · simp
        · have := ih (m - y.length); simp; omega
    have := this n.toNat (fs.take i)
    rw [List.length_take] at this
    omega
  have qbx : A.get bx = some (.arr 79 [.slice (some ⟨il, 0, some 1⟩) fs.length (2 * fs.length)] .own) := by rw [hT.kp.old _ (hw0.lt hbx)]; exact hbx
  obtain ⟨A1, V6', V9', L10, l1, l2⟩ := rtake_frame hw0 hbx hil hP (n := n) (V4 := V4) (V5 := V5) (call := call) lf hT hx husB rfl (by omega) (by omega) (by omega) (hlf us hmem)
  rw [hN, ← hgt] at l2
  by_cases hL : us.drop (n.toNat - (fs.take i).flatten.length) = []
  · rw [hL] at l2
    have hR : dropF n.toNat (fs.take (i + 1)) = dropF n.toNat (fs.take i) := by rw [hdr, hL]; rfl
    rw [← hR] at l2
    have hV9 : V9' = .slice none 0 0 := by
      obtain ⟨_, _, _, _, _, _, c2, _⟩ := l2
      generalize hn0 : ([] : List Value).length = m at c2
      cases c2 with
      | nil => rfl
      | «at» _ _ _ _ _ hp => exact absurd hn0.symm hp
    subst hV9
    refine ⟨?sg, A1, V6', V7, kexec_run ?run, ?kp, l2⟩
    case run =>
      conv => lhs; whnf
      refine bind_of (cellsAt_of qbx _ _) ?_
      conv => lhs; whnf
      rw [kdec e1]
      conv => lhs; whnf
      refine bind_of l1 ?_
      conv => lhs; whnf
    case kp =>
      show [_, _, _, _, _, _, (8, Value.int .i64 (IntKind.i64.wrap ((i : Int) + 1)))] = _
      rw [hw2]
  · have hLp : ((us.drop (n.toNat - (fs.take i).flatten.length)).length : Int) > 0 := by
      have := List.length_pos_iff.2 hL
      omega
    have hR : dropF n.toNat (fs.take (i + 1)) = dropF n.toNat (fs.take i) ++ [us.drop (n.toNat - (fs.take i).flatten.length)] := by
      rw [hdr]
      unfold plusF
      rw [if_neg hL]
    obtain ⟨i9, m9, c9, V7', A2, e9, d1, d2⟩ := l2.rest hL hRl
    rw [← hR] at d2
    have hm9 : m9 = (us.drop (n.toNat - (fs.take i).flatten.length)).length := by
      obtain ⟨_, _, _, _, _, _, c2, _⟩ := l2
      rw [e9] at c2
      generalize (us.drop (n.toNat - (fs.take i).flatten.length)).length = m at c2
      cases c2 with
      | «at» => rfl
    subst e9 hm9
    refine ⟨?sg2, A2, V6', V7', kexec_run ?run2, ?kp2, d2⟩
    case run2 =>
      conv => lhs; whnf
      refine bind_of (cellsAt_of qbx _ _) ?_
      conv => lhs; whnf
      rw [kdec e1]
      conv => lhs; whnf
      refine bind_of l1 ?_
      conv => lhs; whnf
      rw [kdec hLp]
      conv => lhs; whnf
      refine bind_of d1 ?_
      conv => lhs; whnf
    case kp2 =>
      show [_, _, _, _, _, _, (8, Value.int .i64 (IntKind.i64.wrap ((i : Int) + 1)))] = _
      rw [hw2]
end

theorem rtake_end {call : CallT} (lf : Nat) {A : Hp} {bx : Nat} {a : Option Addr} {m c : Nat} (hbx : A.get bx = some (.arr 79 [.slice a m c] .own)) (V1 V4 V5 V6 V7 : Value) {i : Nat} (hi : ¬ i < m) :
    ∃ σ1, exec Tryd.bk.E call Tryd.f64.ntmps (Tryd.bk.inf 64) lf (loopOf Tryd.f64 0) [(1, V1), (2, ptr bx), (4, V4), (5, V5), (6, V6), (7, V7), (8, .int .i64 (i : Nat))] A = some (.exit 0, σ1, A) ∧
      keepSl (some [1, 2, 4, 5, 6, 7, 8]) σ1 = [(1, V1), (2, ptr bx), (4, V4), (5, V5), (6, V6), (7, V7), (8, .int .i64 (i : Nat))] := by
  have e1 : ¬ ((i : Nat) : Int) < ((m : Nat) : Int) := by omega
  refine ⟨?sg, kexec_run ?run, ?kp⟩
  case run =>
    conv => lhs; whnf
    refine bind_of (cellsAt_of hbx _ _) ?_
    conv => lhs; whnf
    rw [kdecn e1]
  case kp => rfl

/-- what Take gives: what is left, and the bytes -/
theorem rtake_walk {call : CallT} (lf : Nat) {A : Hp} (hw : A.wf) {V : Value} {fs : List (List Value)} (hR : RF A V fs) (hfl : fs.length ≤ 1048576) (hne : ∀ us ∈ fs, us ≠ []) (hus : IsB fs.flatten) (hsum : fs.flatten.length ≤ 400000000) (hlf : fs.flatten.length < lf) (n : Int) :
    ∃ V' Vo A', kfn Tryd.bk.E call (Tryd.bk.inf 64) lf Tryd.f64 [.agg #[V], .int .i64 n] A = some (.tuple #[.agg #[V'], Vo], A') ∧ Kp A A' ∧ RF A' V' (dropF n.toNat fs) ∧ BsAt A' Vo (fs.flatten.take n.toNat) ∧ Typ5 A' Vo := by
  have hfl2 : fs.length ≤ fs.flatten.length := by
    clear hR hlf hsum hus hfl
    induction fs with
    | nil => simp
    | cons y l ih =>
      have := List.length_pos_iff.2 (hne y (by simp))
      have := ih fun z hz => hne z (List.mem_cons_of_mem _ hz)
      simp only [List.length_cons, List.flatten_cons, List.length_append]
      omega
  have hmlf : ∀ us ∈ fs, us.length < lf := fun us hu => by
    have : us.length ≤ fs.flatten.length := by
      obtain ⟨s, t, e⟩ := List.append_of_mem hu
      rw [e]
      simp only [List.flatten_append, List.flatten_cons, List.length_append]
      omega
    omega
  let A1 : Hp := A.push (.arr 79 [V] .own)
  let A2 : Hp := A1.push (.arr 79 [.slice none 0 0] .own)
  have n1 : A1.next = A.next + 1 := by simp [A1]
  have n2 : A2.next = A.next + 2 := by simp [A2, A1]
  have k1 : Kp A A1 := Kp.push hw _
  have k2 : Kp A1 A2 := Kp.push k1.wf _
  have kA2 : Kp A A2 := k1.trans k2
  have q1 : A1.get A.next = some (.arr 79 [V] .own) := Hp.get_push_same _ _
  have q2 : A2.get A.next = some (.arr 79 [V] .own) := by rw [k2.old _ (by omega)]; exact q1
  have z2 : A2.get A1.next = some (.arr 79 [.slice none 0 0] .own) := Hp.get_push_same _ _
  have hR2 := hR.old hw kA2
  have hT0 : TK A2 [] [] [] (.slice none 0 0) (.slice none 0 0) (.slice none 0 0) A2 := ⟨⟨kA2.wf, Nat.le_refl _, fun _ _ => rfl⟩, none, none, none, [], .nil, .nil, .nil, ⟨rfl, by simp⟩, by simp, by simp, by simp, by simp, by simp⟩
  obtain ⟨A3, V6, V7, L, g1, g2⟩ : ∃ A3 V6 V7 L, loopD (some [1, 2, 4, 5, 6, 7, 8]) (exec Tryd.bk.E call Tryd.f64.ntmps (Tryd.bk.inf 64) lf (loopOf Tryd.f64 0)) lf [(1, .int .i64 n), (2, ptr A.next), (4, ptr A1.next), (5, .slice none 0 0), (6, .slice none 0 0), (7, .slice none 0 0), (8, .int .i64 ((0 : Nat) : Int))] A2 =
      some (.exit 0, [(1, .int .i64 n), (2, ptr A.next), (4, ptr A1.next), (5, .slice none 0 0), (6, V6), (7, V7), (8, L)], A3) ∧ TK A2 (fs.flatten.take n.toNat) [] (dropF n.toNat fs) V6 (.slice none 0 0) V7 A3 := by
    rcases hR2.form with ⟨rfl, rfl⟩ | ⟨il, vs, hnn, rfl, hg, hP⟩
    · obtain ⟨σ1, r1, r2⟩ := rtake_end (call := call) lf q2 (.int .i64 n) (ptr A1.next) (.slice none 0 0) (.slice none 0 0) (.slice none 0 0) (i := 0) (by omega)
      have := loop_out (ks := some [1, 2, 4, 5, 6, 7, 8]) r1 (by simp) (n := lf) (by omega)
      rw [r2] at this
      refine ⟨A2, _, _, _, this, ?_⟩
      simpa [dropF] using hT0
    · have key := loop_rule (ks := some [1, 2, 4, 5, 6, 7, 8]) (f := exec Tryd.bk.E call Tryd.f64.ntmps (Tryd.bk.inf 64) lf (loopOf Tryd.f64 0)) (S := FS)
        (fun s => [(1, .int .i64 n), (2, ptr A.next), (4, ptr A1.next), (5, .slice none 0 0), (6, s.v6), (7, s.v7), (8, .int .i64 (s.i : Nat))])
        (fun s A => s.i ≤ fs.length ∧ TK A2 ((fs.take s.i).flatten.take n.toNat) [] (dropF n.toNat (fs.take s.i)) s.v6 (.slice none 0 0) s.v7 A) (fun s => fs.length - s.i)
        (fun e σ B => e = .exit 0 ∧ ∃ V6 V7 L, σ = [(1, .int .i64 n), (2, ptr A.next), (4, ptr A1.next), (5, .slice none 0 0), (6, V6), (7, V7), (8, L)] ∧ TK A2 (fs.flatten.take n.toNat) [] (dropF n.toNat fs) V6 (.slice none 0 0) V7 B) (fun s B hs => ?_)
        lf ⟨0, .slice none 0 0, .slice none 0 0⟩ A2 ⟨Nat.zero_le _, by simpa [dropF] using hT0⟩ (by simp only; omega)
      · obtain ⟨e, σ1, A3, r1, rfl, V6, V7, L, rfl, r2⟩ := key
        exact ⟨A3, V6, V7, L, r1, r2⟩
      · obtain ⟨i, v6, v7⟩ := s
        obtain ⟨z1, z3⟩ := hs
        simp only at z1 z3 ⊢
        by_cases him : i < fs.length
        · obtain ⟨σ1, B1, V6', V7', r1, r2, r3⟩ := rtake_round kA2.wf q2 hg hP hfl (n := n) (V4 := ptr A1.next) (V5 := .slice none 0 0) (call := call) lf hmlf hne hus hsum him z3
          exact ⟨.normal, σ1, B1, r1, .inl ⟨rfl, ⟨i + 1, V6', V7'⟩, r2, ⟨him, r3⟩, by simp only; omega⟩⟩
        · obtain rfl : i = fs.length := by omega
          obtain ⟨σ1, r1, r2⟩ := rtake_end (call := call) lf (A := B) (by rw [z3.kp.old A.next (by omega)]; exact q2) (.int .i64 n) (ptr A1.next) (.slice none 0 0) v6 v7 him
          rw [List.take_length] at z3
          exact ⟨.exit 0, σ1, B, r1, .inr ⟨by simp, rfl, v6, v7, _, r2, z3⟩⟩
  obtain ⟨kp, ig, il, ir, vs, c1, c2, c3, c4, f1, f2, f3, d1, d2⟩ := g2
  have z3 : A3.get A1.next = some (.arr 79 [.slice none 0 0] .own) := by rw [kp.old _ (by omega)]; exact z2
  obtain ⟨a7, n7, c7, rfl⟩ := c3.sl3
  obtain ⟨a6, n6, c6, rfl⟩ := c1.sl3
  have hne3 : ∀ j, j ≠ A1.next → (A3.set A1.next (some (.arr 79 [.slice a7 n7 c7] .own))).get j = A3.get j := fun j hj => Hp.get_set_ne _ _ hj
  refine ⟨.slice a7 n7 c7, .slice a6 n6 c6, _, ?run, (kA2.trans kp).set z3 (by omega) (.arr 79 [.slice a7 n7 c7] .own), ⟨vs, ir, c3.keep fun j hj => hne3 j (by have := f3 j hj; omega), c4.keep5 fun j cs hj _ => hne3 j (by rintro rfl; rw [z3] at hj; cases hj)⟩,
    (c1.keep fun j hj => hne3 j (by have := f1 j hj; omega)).slAt.bs, (c1.keep fun j hj => hne3 j (by have := f1 j hj; omega)).typ5⟩
  case run =>
    obtain ⟨va, vc, rfl⟩ := hR.sl
    conv => lhs; whnf
    refine bind_of g1 ?_
    conv => lhs; whnf
    refine bind_of (dstore_of z3 (t := 79) (o := 0) (cs' := [.slice a7 n7 c7]) rfl) ?_
    conv => lhs; whnf
    refine bind_of (cellsAt_of (A := A3.set A1.next (some (.arr 79 [.slice a7 n7 c7] .own))) (i := A1.next) (Hp.get_set_same _ _ _) 0 1) ?_
    conv => lhs; whnf
    rfl
end Go.Dn.Pipe
end
