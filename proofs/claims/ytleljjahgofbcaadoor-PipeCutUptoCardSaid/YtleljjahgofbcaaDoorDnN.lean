/-
  Part of the abstract machine for this program.
-/
import Derived.Test.YtleljjahgofbcaaDoorDnM
import Derived.Test.YtleljjahgofbcaaDoorDnL
import Derived.Test.YtleljjahgofbcaaDoorDnI
import Derived.Test.YtleljjahgofbcaaDoorDnJ

section
namespace Go.Dn.Pipe
open Go.Proofs
set_option maxHeartbeats 4000000
set_option maxRecDepth 100000
attribute [local irreducible] Hp.get Hp.set Hp.push dappend dcopy dstore cellsAt callD loopD

/-- a part of a piece -/
def PartAt (A : Hp) (x : Value) (us : List Value) : Prop :=
  elemsOf A 1 x = some (us.length, us) ∧ ∃ i o k c cs, x = .slice (some ⟨i, o, some 1⟩) k c ∧ A.get i = some (.arr 5 cs .own)

theorem PartAt.keep {A A' : Hp} {x : Value} {us : List Value} (h : PartAt A x us) (hk : ∀ i cs, A.get i = some (.arr 5 cs .own) → A'.get i = A.get i) : PartAt A' x us := by
  obtain ⟨h1, i, o, k, c, cs, rfl, h2⟩ := h
  refine ⟨elemsOf_keep h1 fun j ob hj hb => ?_, i, o, k, c, cs, rfl, by rw [hk i cs h2]; exact h2⟩
  obtain ⟨b, o', s', n', c', e1, e2⟩ := hb
  cases e1
  subst e2
  exact hk _ _ h2

structure MS where
  n : Int
  pv : Value
  pio : Option Nat
  pes : List Value
  ps : List Pc
  g : Nat
  s : Int
  tk : List (List Value)

structure MI (A0 : Hp) (p f : Nat) (io : Option Nat) (c : Bool) (ps0 : List Pc) (g0 : Nat) (s0 : Int) (n0 : Int) (st : MS) (A : Hp) : Prop where
  wf : A.wf
  next : A0.next ≤ A.next
  pipe : IsPipe A p f io st.ps st.g st.s c
  parts : SlAt 22 1 A st.pv st.pio st.pes st.pes.length
  pid : ∀ i, st.pio = some i → A0.next ≤ i ∧ i < A.next
  fr : ∀ j, j < A0.next → j ≠ p → j ≠ f → io ≠ some j → A.get j = A0.get j
  len : st.pes.length = st.tk.length
  at' : ∀ (j : Nat) x, st.pes[j]? = some x → ∃ us, st.tk[j]? = some us ∧ PartAt A x us
  flow : st.tk.flatten ++ flow st.ps st.g = Pipe.flow ps0 g0
  num : st.n = n0 - (st.tk.flatten.length : Nat)
  pos : st.n = n0 ∨ 0 ≤ st.n
  sum : st.s = IntKind.u64.wrap (s0 + (st.tk.flatten.length : Nat))
  sub : st.ps <:+ ps0
  few : st.pes.length + st.ps.length ≤ ps0.length + 1 ∧ (0 < st.n → st.pes.length + st.ps.length ≤ ps0.length)

theorem flow_cons (x : Pc) (ps : List Pc) (g : Nat) (h : g ≤ x.us.length) : flow (x :: ps) g = x.us.drop g ++ ps.flatMap (·.us) := by
  unfold flow
  rw [List.flatMap_cons, List.drop_append]
  have : g - x.us.length = 0 := by omega
  rw [this, List.drop_zero]

theorem u64_add (a b c : Int) : IntKind.u64.wrap (IntKind.u64.wrap (a + b) + IntKind.u64.wrap c) = IntKind.u64.wrap (a + (b + c)) := by
  rw [IntKind.wrap_u64, IntKind.wrap_u64, IntKind.wrap_u64, IntKind.wrap_u64]; omega

theorem flow_length (ps : List Pc) (g : Nat) : (flow ps g).length = total ps - g := by
  unfold flow; rw [List.length_drop, flow_len]

theorem mem_total {x : Pc} : ∀ {ps : List Pc}, x ∈ ps → x.us.length ≤ total ps
  | y :: l, h => by
    simp only [total]
    rcases List.mem_cons.1 h with rfl | h
    · omega
    · have := mem_total h; omega

def mu (st : MS) : Nat := if 0 < st.n then st.ps.length else 0

variable {base : CallT} (hb : ∀ f args A, f ∉ [61, 12, 20, 38, 27] → base f args A = none)
include hb

theorem move_round (m : Nat) {A0 : Hp} {p f : Nat} {io : Option Nat} {c : Bool} {ps0 : List Pc} {g0 : Nat} {s0 n0 : Int} (hn0 : n0 ≤ 9223372036854775807) (hT : total ps0 ≤ 70368744177664) (hP : ps0.length ≤ 100000000000)
    (hpl : p < A0.next) (hfl : f < A0.next) (hio : ∀ i, io = some i → i < A0.next) {st : MS} {A : Hp} (hI : MI A0 p f io c ps0 g0 s0 n0 st A) (hn : 0 < st.n) (hps : st.ps ≠ []) :
    ∃ σ1 A1 st', exec Tryd.bk.E (callD Tryd.bk base (m + 3)) Tryd.f17.ntmps (Tryd.bk.inf 17) (m + 3) (loopOf Tryd.f17 0) [(0, ptr p), (1, .int .i64 st.n), (4, .slice none 0 0), (5, st.pv)] A = some (.normal, σ1, A1) ∧
      keepSl (some [0, 1, 4, 5]) σ1 = [(0, ptr p), (1, .int .i64 st'.n), (4, .slice none 0 0), (5, st'.pv)] ∧ MI A0 p f io c ps0 g0 s0 n0 st' A1 ∧ mu st' < mu st := by
  obtain ⟨n, pv, pio, pes, ps, g, s, tk⟩ := st
  obtain ⟨i1, i2, i3, i4, i5, i6, i7, i8, i9, i10, i11, i12, i13, i14⟩ := hI
  simp only at *
  cases ps with
  | nil => exact absurd rfl hps
  | cons x ps =>
  have hgx : g < x.us.length := by
    rcases i3.hg with e | ⟨y, ps', e1, e2⟩
    · subst e
      have := (i3.hx x (by simp)).2
      exact List.length_pos_iff.2 this
    · cases e1; exact e2
  have hfl' := congrArg List.length i9
  rw [List.length_append, flow_length, flow_length] at hfl'
  have hxt := mem_total (i13.mem (List.mem_cons_self (a := x)))
  have hTT : total (x :: ps) ≤ 140737488355328 := by omega
  obtain ⟨rv, r1, r2⟩ := i3.hf
  obtain ⟨iv, hiv⟩ : ∃ i, io = some i := by
    cases r2 with
    | «at» i => exact ⟨i, rfl⟩
  have hq : pio ≠ some p ∧ pio ≠ some f ∧ pio ≠ io := by
    refine ⟨fun e => ?_, fun e => ?_, fun e => ?_⟩
    · have := (i5 p e).1; omega
    · have := (i5 f e).1; omega
    · rw [hiv] at e
      have h1 := (i5 iv e).1
      have h2 := hio iv hiv
      omega
  obtain ⟨kN, hk⟩ : ∃ kN : Nat, (kN : Int) = if ((x.us.length - g : Nat) : Int) < n then ((x.us.length - g : Nat) : Int) else n := by
    split
    · exact ⟨_, rfl⟩
    · exact ⟨n.toNat, by omega⟩
  have hkl : kN ≤ x.us.length - g ∧ (kN : Int) ≤ n ∧ 0 < kN := by split at hk <;> omega
  obtain ⟨σ1, A1, ps', g', pv', pio', part, e1, e2, e3, e4, e5, e6, e7, e8, e9, ⟨pi', e10, e11, e12⟩, e13⟩ :=
    move_step hb m i3 i1 hgx hn (by omega) hTT i4 (by omega) hq hk
  have htl : ((x.us.drop g).take kN).length = kN := by rw [List.length_take, List.length_drop]; omega
  have hfin : (g + kN < x.us.length) → (kN : Int) = n := by intro h; split at hk <;> omega
  refine ⟨σ1, A1, ⟨n - kN, pv', pio', pes ++ [part], ps', g', IntKind.u64.wrap (s + IntKind.u64.wrap kN), tk ++ [(x.us.drop g).take kN]⟩, e1, e2, ⟨e3, by omega, e5, by simpa using e6, ?_, ?_, by simp [i7], ?_, ?_, ?_, .inr (by simp only; omega), ?_, ?_, ?_⟩, ?_⟩
  · intro i hi
    simp only at hi
    rw [e10] at hi; cases hi
    exact ⟨by omega, e12⟩
  · intro j hj hjp hjf hji
    rw [e9 j (by omega) hjp hjf hji (fun e => by have := (i5 j e).1; omega), i6 j hj hjp hjf hji]
  · intro j y hy
    simp only at hy ⊢
    rw [List.getElem?_append] at hy
    split at hy
    · rename_i hjl
      obtain ⟨us, u1, u2⟩ := i8 j y hy
      refine ⟨us, by rw [List.getElem?_append_left (by omega)]; exact u1, u2.keep fun i cs hi => ?_⟩
      have t1 : i ≠ p := by rintro rfl; rw [i3.hp] at hi; cases hi
      have t2 : i ≠ f := by rintro rfl; rw [r1] at hi; cases hi
      have t3 : io ≠ some i := by rintro rfl; obtain ⟨cs2, hcs2⟩ := r2.lt; rw [hcs2] at hi; cases hi
      have t4 : pio ≠ some i := by rintro rfl; obtain ⟨cs2, hcs2⟩ := i4.lt; rw [hcs2] at hi; cases hi
      exact e9 i (i1.lt hi) t1 t2 t3 t4
    · rename_i hjl
      have hj0 : j - pes.length = 0 := by
        rcases Nat.eq_zero_or_pos (j - pes.length) with h | h
        · exact h
        · rw [List.getElem?_eq_none (by simp; omega)] at hy; cases hy
      rw [hj0] at hy
      simp only [List.getElem?_cons_zero, Option.some.injEq] at hy
      subst hy
      refine ⟨_, by rw [List.getElem?_append_right (by omega), ← i7, hj0]; rfl, by rw [htl]; exact e7, ?_⟩
      obtain ⟨o, k, c', cs, q1, q2⟩ := e8
      exact ⟨x.i, o, k, c', cs, q1, q2⟩
  · simp only
    rw [List.flatten_append, List.append_assoc, ← i9, flow_cons x ps g (by omega)]
    congr 1
    simp only [List.flatten_cons, List.flatten_nil, List.append_nil]
    rcases e13 with ⟨q1, rfl, rfl⟩ | ⟨q1, rfl, rfl⟩
    · rw [List.take_of_length_le (by rw [List.length_drop]; omega)]
      simp [flow]
    · rw [flow_cons x ps (g + kN) (by omega), ← List.append_assoc]
      congr 1
      rw [← List.drop_drop, List.take_append_drop]
  · simp only [List.flatten_append, List.length_append, List.flatten_cons, List.flatten_nil, List.append_nil, htl]
    omega
  · simp only [List.flatten_append, List.length_append, List.flatten_cons, List.flatten_nil, List.append_nil, htl]
    rw [i12, u64_add]
    congr 1
  · rcases e13 with ⟨q1, rfl, rfl⟩ | ⟨q1, rfl, rfl⟩
    · exact (List.suffix_cons _ _).trans i13
    · exact i13
  · simp only [List.length_append, List.length_singleton]
    have h14 := i14.2 hn
    simp only [List.length_cons] at h14
    rcases e13 with ⟨q1, rfl, rfl⟩ | ⟨q1, rfl, rfl⟩
    · exact ⟨by omega, fun _ => by omega⟩
    · have := hfin q1
      exact ⟨by simp only [List.length_cons]; omega, fun h => by omega⟩
  · simp only [mu, hn, if_true, List.length_cons]
    rcases e13 with ⟨q1, rfl, rfl⟩ | ⟨q1, rfl, rfl⟩
    · split <;> omega
    · have := hfin q1
      rw [if_neg (by omega)]; omega

end Go.Dn.Pipe
end

section
namespace Go.Dn.Pipe
open Go.Proofs
set_option maxHeartbeats 4000000
set_option maxRecDepth 100000
attribute [local irreducible] Hp.get Hp.set Hp.push dappend dcopy dstore cellsAt callD loopD

theorem loopD_out {ks : Option (List Nat)} {f : Sl → Hp → Option (Ex × Sl × Hp)} {n : Nat} {σ σ1 : Sl} {A A1 : Hp} {e : Ex} (h : f σ A = some (e, σ1, A1)) (he : e ≠ .normal) : loopD ks f (n + 1) σ A = some (e, keepSl ks σ1, A1) := by
  simp only [loopD, h, Option.bind_some]

variable {base : CallT} (hb : ∀ f args A, f ∉ [61, 12, 20, 38, 27] → base f args A = none)
include hb

theorem joined_nil (n : Nat) {A : Hp} : callD Tryd.bk base (n + 2) 50 [.slice none 0 0] A = some (.slice none 0 0, A) := by
  have h1 : ∃ σ1, exec Tryd.bk.E (callD Tryd.bk base (n + 1)) Tryd.f50.ntmps (Tryd.bk.inf 50) (n + 1) (loopOf Tryd.f50 0)
      [(2, .slice none 0 0), (3, .slice none 0 0), (6, .slice none 0 0), (7, .int .i64 ((0 : Nat) : Int)), (8, .int .i64 0)] A = some (.exit 0, σ1, A) ∧
      keepSl (some [2, 3, 6, 7, 8]) σ1 = [(2, .slice none 0 0), (3, .slice none 0 0), (6, .slice none 0 0), (7, .int .i64 ((0 : Nat) : Int)), (8, .int .i64 0)] := by
    refine ⟨?s, kexec_run ?run, ?kp⟩
    case run =>
      conv => lhs; whnf
    case kp => rfl
  obtain ⟨σ1, h1, h2⟩ := h1
  have h3 := loopD_out (ks := some [2, 3, 6, 7, 8]) (n := n) h1 (by simp)
  rw [h2] at h3
  refine callD_of (hb _ _ _ (by decide)) (fn := Tryd.f50) rfl ?_
  conv => lhs; whnf
  refine bind_of h3 ?_
  conv => lhs; whnf
  rfl

theorem move_loop (m : Nat) {A0 : Hp} {p f : Nat} {io : Option Nat} {c : Bool} {ps0 : List Pc} {g0 : Nat} {s0 n0 : Int} (hn0 : n0 ≤ 9223372036854775807) (hT : total ps0 ≤ 70368744177664) (hP : ps0.length ≤ 100000000000)
    (hpl : p < A0.next) (hfl : f < A0.next) (hio : ∀ i, io = some i → i < A0.next) {st : MS} (hI : MI A0 p f io c ps0 g0 s0 n0 st A0) (hm : ps0.length ≤ m) :
    ∃ A1 st', loopD (some [0, 1, 4, 5]) (exec Tryd.bk.E (callD Tryd.bk base (m + 3)) Tryd.f17.ntmps (Tryd.bk.inf 17) (m + 3) (loopOf Tryd.f17 0)) (m + 3) [(0, ptr p), (1, .int .i64 st.n), (4, .slice none 0 0), (5, st.pv)] A0 =
      some (.exit 0, [(0, ptr p), (1, .int .i64 st'.n), (4, .slice none 0 0), (5, st'.pv)], A1) ∧ MI A0 p f io c ps0 g0 s0 n0 st' A1 ∧ (st'.n ≤ 0 ∨ st'.ps = []) := by
  have key := loop_rule (ks := some [0, 1, 4, 5]) (f := exec Tryd.bk.E (callD Tryd.bk base (m + 3)) Tryd.f17.ntmps (Tryd.bk.inf 17) (m + 3) (loopOf Tryd.f17 0)) (S := MS)
    (fun st => [(0, ptr p), (1, .int .i64 st.n), (4, .slice none 0 0), (5, st.pv)]) (fun st A => MI A0 p f io c ps0 g0 s0 n0 st A) mu
    (fun e σ A1 => e = .exit 0 ∧ ∃ st', σ = [(0, ptr p), (1, .int .i64 st'.n), (4, .slice none 0 0), (5, st'.pv)] ∧ MI A0 p f io c ps0 g0 s0 n0 st' A1 ∧ (st'.n ≤ 0 ∨ st'.ps = [])) (fun st A hI => ?_)
    (m + 3) st A0 hI (by
      have h1 := hI.few.1
      have : st.ps.length ≤ ps0.length + 1 := by omega
      unfold mu
      split <;> omega)
  · obtain ⟨e, σ1, A1, h1, rfl, st', rfl, h3, h4⟩ := key
    exact ⟨A1, st', h1, h3, h4⟩
  · by_cases hn : 0 < st.n
    · by_cases hps : st.ps = []
      · obtain ⟨n, pv, pio, pes, ps, g, s, tk⟩ := st
        simp only at hps hn ⊢
        subst hps
        have hg : g = 0 := by
          rcases hI.pipe.hg with e | ⟨y, ps', e1, e2⟩
          · exact e
          · cases e1
        obtain ⟨rv, r1, r2⟩ := hI.pipe.hf
        have hfp : f ≠ p := by rintro rfl; rw [hI.pipe.hp] at r1; cases r1
        simp only at r1 hg
        subst hg
        have hn' : n > 0 := hn
        refine ⟨.exit 0, ?s, A, kexec_run ?run, .inr ⟨(by simp), rfl, ⟨n, pv, pio, pes, [], 0, s, tk⟩, ?kp, hI, .inr rfl⟩⟩
        case run =>
          conv => lhs; whnf
          rw [kdec hn']
          conv => lhs; whnf
          rw [pipe_len hb (m + 1) hI.pipe.hp r1 hfp]
          conv => lhs; whnf
        case kp => rfl
      · obtain ⟨σ1, A1, st', h1, h2, h3, h4⟩ := move_round hb m hn0 hT hP hpl hfl hio hI hn hps
        exact ⟨.normal, σ1, A1, h1, .inl ⟨rfl, st', h2, h3, h4⟩⟩
    · obtain ⟨n, pv, pio, pes, ps, g, s, tk⟩ := st
      simp only at hn ⊢
      have hn' : ¬ n > 0 := hn
      refine ⟨.exit 0, ?s2, A, kexec_run ?run, .inr ⟨(by simp), rfl, ⟨n, pv, pio, pes, ps, g, s, tk⟩, ?kp, hI, .inl (by simp only; omega)⟩⟩
      case run =>
        conv => lhs; whnf
        rw [kdecn hn']
        conv => lhs; whnf
      case kp => rfl

/-- Move: what comes out, and what stays -/
theorem pipe_move (m : Nat) {A : Hp} {p f : Nat} {io : Option Nat} {c : Bool} {ps : List Pc} {g : Nat} {s n : Int} (h : IsPipe A p f io ps g s c) (hw : A.wf) (hs : s = IntKind.u64.wrap s) (hn : n ≤ 9223372036854775807)
    (hT : total ps ≤ 70368744177664) (hP : ps.length ≤ 100000000000) (hm : ps.length + 2 ≤ m) :
    ∃ v iv out A' ps' g', callD Tryd.bk base (m + 4) 17 [ptr p, .int .i64 n] A = some (v, A') ∧ CanAt 5 1 A' v iv out out.length ∧ out = (flow ps g).take n.toNat ∧ flow ps' g' = (flow ps g).drop n.toNat ∧
      IsPipe A' p f io ps' g' (IntKind.u64.wrap (s + (out.length : Nat))) c ∧ A'.wf ∧ A.next ≤ A'.next ∧ (∀ i, iv = some i → A.next ≤ i ∧ i < A'.next) ∧
      (∀ j, j < A.next → j ≠ p → j ≠ f → io ≠ some j → A'.get j = A.get j) ∧ ps' <:+ ps := by
  obtain ⟨rv, r1, r2⟩ := h.hf
  have hpl := hw.lt h.hp
  have hfl := hw.lt r1
  have hio : ∀ i, io = some i → i < A.next := by
    rintro i rfl
    obtain ⟨cs, hcs⟩ := r2.lt
    exact hw.lt hcs
  have hI : MI A p f io c ps g s n ⟨n, .slice none 0 0, none, [], ps, g, s, []⟩ A :=
    ⟨hw, Nat.le_refl _, h, .nil, by simp, fun _ _ _ _ _ => rfl, rfl, by simp, by simp, by simp, .inl rfl, by simpa using hs, List.suffix_refl _, ⟨by simp, by simp⟩⟩
  obtain ⟨A1, st, l1, l2, l3⟩ := move_loop hb m hn hT hP hpl hfl hio hI (by omega)
  obtain ⟨n1, pv, pio, pes, ps1, g1, s1, tk⟩ := st
  obtain ⟨i1, i2, i3, i4, i5, i6, i7, i8, i9, i10, i11, i12, i13, i14⟩ := l2
  simp only at *
  have hlen := congrArg List.length i9
  rw [List.length_append, flow_length, flow_length] at hlen
  have hsz : tk.flatten.length ≤ 140737488355328 := by omega
  have htake : tk.flatten = (flow ps g).take n.toNat ∧ flow ps1 g1 = (flow ps g).drop n.toNat := by
    rw [← i9]
    by_cases hz : n1 ≤ 0
    · have : n.toNat = tk.flatten.length := by
        rcases i11 with e | e <;> omega
      rw [this, List.take_left, List.drop_left]
      exact ⟨rfl, rfl⟩
    · have hps : ps1 = [] := l3.resolve_left hz
      subst hps
      have hfl0 : flow [] g1 = [] := by simp [flow]
      rw [hfl0, List.append_nil]
      have : tk.flatten.length ≤ n.toNat := by rcases i11 with e | e <;> omega
      rw [List.take_of_length_le this, List.drop_eq_nil_of_le this]
      exact ⟨rfl, rfl⟩
  have hjoin : ∃ v io2 A2, callD Tryd.bk base (m + 3) 50 [pv] A1 = some (v, A2) ∧ A2.wf ∧ A1.next ≤ A2.next ∧ (∀ j, j < A1.next → A2.get j = A1.get j) ∧ CanAt 5 1 A2 v io2 tk.flatten tk.flatten.length ∧ (∀ i, io2 = some i → A1.next ≤ i ∧ i < A2.next) := by
    generalize hln : pes.length = ln at i4
    cases i4 with
    | nil =>
      have htk : tk = [] := List.eq_nil_of_length_eq_zero (by omega)
      subst htk
      exact ⟨_, none, A1, joined_nil hb (m + 1), i1, Nat.le_refl _, fun _ _ => rfl, .nil, by simp⟩
    | «at» i o _ cc cs _ q1 q2 q3 q4 =>
      rw [Nat.mul_one] at q4
      exact joined_ok hb (m + 2) i1 q2 q4 hln (by omega) (fun j x hx => by
        obtain ⟨us, u1, u2⟩ := i8 j x hx
        exact ⟨us, u1, u2.1⟩) (by omega) hsz (by omega)
  obtain ⟨v, io2, A2, j1, j2, j3, j4, j5, j6⟩ := hjoin
  refine ⟨v, io2, tk.flatten, A2, ps1, g1, callD_of (hb _ _ _ (by decide)) (fn := Tryd.f17) rfl ?run, j5, htake.1, htake.2, ?ip, j2, by omega, fun i hi => ?ids, fun j hj hjp hjf hji => ?fr, i13⟩
  case run =>
    conv => lhs; whnf
    refine bind_of l1 ?_
    conv => lhs; whnf
    rw [j1]
    conv => lhs; whnf
    rfl
  case ip =>
    rw [← i12]
    exact i3.keep fun j o hj _ => j4 j (i1.lt hj)
  case ids => exact ⟨by have := (j6 i hi).1; omega, (j6 i hi).2⟩
  case fr => rw [j4 j (by omega), i6 j hj hjp hjf hji]

end Go.Dn.Pipe
end

section
namespace Go.Dn.Pipe
open Go.Proofs
set_option maxHeartbeats 4000000
set_option maxRecDepth 100000
attribute [local irreducible] Hp.get Hp.set Hp.push dappend dcopy dstore cellsAt callD loopD

/-- bytes of one's own -/
theorem copied_walk {call : CallT} (lf : Nat) {A : Hp} (hw : A.wf) {x : Value} {us : List Value} (hx : elemsOf A 1 x = some (us.length, us)) (hl : us.length ≤ 140737488355328) (hl2 : us.length ≤ maxLen) :
    ∃ i o c A', kfn Tryd.bk.E call (Tryd.bk.inf 15) lf Tryd.f15 [x] A = some (.slice (some ⟨i, o, some 1⟩) us.length c, A') ∧ SlAt 5 1 A' (.slice (some ⟨i, o, some 1⟩) us.length c) (some i) us us.length ∧ A'.wf ∧ A.next ≤ i ∧ i < A'.next ∧ (∀ j, j < A.next → A'.get j = A.get j) := by
  have h1 : SlAt 5 1 (A.push (.arr 5 [] .own)) (.slice (some ⟨A.next, 0, some 1⟩) 0 1) (some A.next) [] 0 := .at A.next 0 0 1 [] [] (.inr rfl) (Hp.get_push_same _ _) (by simp) rfl
  have h2 : elemsOf (A.push (.arr 5 [] .own)) 1 x = some (us.length, us) := elemsOf_keep hx fun i o hi _ => Hp.get_push_ne _ _ (by have := hw.lt hi; omega)
  obtain ⟨v', A2, io', a1, a2, a3, a4, a5, a6⟩ := append_at elB elB2 h1 h2 (by simp) (by omega) (by omega)
  simp only [Hp.next_push, List.nil_append, Nat.zero_add] at a2 a3 a5 a6
  have hrun : kfn Tryd.bk.E call (Tryd.bk.inf 15) lf Tryd.f15 [x] A = some (v', A2) := by
    conv => lhs; whnf
    refine bind_of a1 ?_
    conv => lhs; whnf
    rfl
  obtain ⟨i, hi, hi1, hi2⟩ : ∃ i, io' = some i ∧ A.next ≤ i ∧ i < A2.next := by
    rcases a6 with ⟨e1, e2, _, _⟩ | ⟨i', e1, e2, e3⟩
    · exact ⟨A.next, e1, Nat.le_refl _, by rw [e2]; simp⟩
    · exact ⟨i', e1, by omega, e3⟩
  subst hi
  have hfr : ∀ j, j < A.next → A2.get j = A.get j := fun j hj => by
    rw [a5 j (by omega) (fun e => by cases e; omega), Hp.get_push_ne _ _ (by omega)]
  have hw2 := a4 (hw.push _)
  cases a2 with
  | «at» _ o _ c cs _ q1 q2 q3 q4 => exact ⟨i, o, c, A2, hrun, .at i o _ c cs us q1 q2 q3 q4, hw2, hi1, hi2, hfr⟩

end Go.Dn.Pipe
end

section
/-
  a pipe as an abstract object
-/
namespace Go.Dn.Pipe
open Go.Proofs
set_option maxHeartbeats 4000000
set_option maxRecDepth 100000
attribute [local irreducible] Hp.get Hp.set Hp.push dappend dcopy dstore cellsAt callD loopD

/-- what a pipe holds: the bytes under way; a bound of all that ever went in; how many passed; whether it is cut -/
structure PX where
  fl : List Value
  n : Nat
  s : Int
  c : Bool

def PX.dat (x : PX) : Dat := .l [.l (x.fl.map .v), .v (.int .i64 x.n), .v (.int .u64 x.s), .v (.bool x.c)]

theorem map_v_inj : ∀ {a b : List Value}, a.map Dat.v = b.map Dat.v → a = b
  | [], [], _ => rfl
  | [], _ :: _, h => by simp at h
  | _ :: _, [], h => by simp at h
  | x :: a, y :: b, h => by
    simp only [List.map_cons, List.cons.injEq, Dat.v.injEq] at h
    rw [h.1, map_v_inj h.2]

theorem PX.dat_inj {x y : PX} (h : x.dat = y.dat) : x = y := by
  obtain ⟨a, b, c, d⟩ := x
  obtain ⟨a', b', c', d'⟩ := y
  simp only [PX.dat, Dat.l.injEq, List.cons.injEq, Dat.v.injEq, Value.int.injEq, Value.bool.injEq, and_true, true_and] at h
  obtain ⟨h1, h2, h3, h4⟩ := h
  have := map_v_inj h1
  have h2 : b = b' := by omega
  subst h2 h3 h4 this
  rfl

def RepP (x : PX) (B : Hp) (r : Nat) : Prop := ∃ f io ps g, IsPipe B r f io ps g x.s x.c ∧ flow ps g = x.fl ∧ total ps ≤ x.n ∧ ps.length ≤ x.n ∧ x.s = IntKind.u64.wrap x.s ∧ ∀ y ∈ ps, ∀ u ∈ y.us, plain0 u = true
def repP (k : Nat) (d : Dat) (B : Hp) (r : Nat) : Prop := k = 1 ∧ B.wf ∧ ∃ x, d = PX.dat x ∧ RepP x B r

/-- the part of a heap that a pipe needs -/
theorem IsPipe.close [Reps] {A : Hp} {p f : Nat} {io : Option Nat} {ps : List Pc} {g : Nat} {s : Int} {c : Bool} (h : IsPipe A p f io ps g s c) (hw : A.wf) (hC : ∀ i o, Reps.C.get i = some o → A.get i = some o) :
    ∃ B2, (∀ i o, B2.get i = some o → A.get i = some o) ∧ B2.next = A.next ∧ (∀ i o, Reps.C.get i = some o → B2.get i = some o) ∧ IsPipe B2 p f io ps g s c ∧ B2.wf ∧ (∃ o, B2.get p = some o ∧ o.md = .own) ∧ Tight B2 ∧
      ∀ j, Reps.C.next ≤ j → j ≠ p → j ≠ f → io ≠ some j → (∀ x ∈ ps, x.i ≠ j) → B2.get j = none := by
  obtain ⟨rv, h1, h2⟩ := h.hf
  let L : List Nat := p :: f :: (io.toList ++ (ps.map (·.i) ++ List.range Reps.C.next))
  have mem : ∀ j, j ∈ L ↔ (j = p ∨ j = f ∨ io = some j ∨ (∃ x ∈ ps, x.i = j) ∨ j < Reps.C.next) := by
    intro j
    simp only [L, List.mem_cons, List.mem_append, Option.mem_toList, List.mem_map, List.mem_range]
  have hP : IsPipe (pickL A L) p f io ps g s c := h.keep fun j o _ hj => pickL_in ((mem j).2 (by
    rcases hj with e | e | e | e
    · exact .inl e
    · exact .inr (.inl e)
    · exact .inr (.inr (.inl e))
    · exact .inr (.inr (.inr (.inl e)))))
  refine ⟨pickL A L, fun i o hi => (pickL_sub hi).1, pickL_next A L, fun i o hi => ?_, hP, pickL_wf hw L, ⟨_, hP.hp, rfl⟩, fun j o hj => ?_, fun j j1 j2 j3 j4 j5 => pickL_out fun hm => ?_⟩
  · rw [pickL_in ((mem i).2 (.inr (.inr (.inr (.inr (Reps.Cro i o hi).1)))))]; exact hC i o hi
  · obtain ⟨q1, q2⟩ := pickL_sub hj
    rcases (mem j).1 q2 with e | e | e | ⟨x, hx, e⟩ | e
    · subst e; rw [h.hp] at q1; cases q1; exact .inr rfl
    · subst e; rw [h1] at q1; cases q1; exact .inr rfl
    · subst e
      obtain ⟨cs, hcs⟩ := h2.lt
      rw [hcs] at q1; cases q1; exact .inr rfl
    · subst e
      obtain ⟨cs, hcs⟩ := (h.hx x hx).1.lt
      rw [hcs] at q1; cases q1; exact .inr rfl
    · exact .inl e
  · rcases (mem j).1 hm with e | e | e | ⟨x, hx, e⟩ | e
    · exact j2 e
    · exact j3 e
    · exact j4 e
    · exact j5 x hx e
    · omega
end Go.Dn.Pipe
end

section
/-
  Put, by its contract
-/
namespace Go.Dn.Pipe
open Go.Proofs
set_option maxHeartbeats 4000000
set_option maxRecDepth 100000
attribute [local irreducible] Hp.get Hp.set Hp.push dappend dcopy dstore cellsAt callD loopD

theorem nc_none : ∀ f args A, f ∉ [61, 12, 20, 38, 27] → noCalls f args A = none := fun _ _ _ _ => rfl

theorem elemsOf_move {A B : Hp} {i j T : Nat} {cs : List Value} {m m' : Md} (hi : A.get i = some (.arr T cs m)) (hj : B.get j = some (.arr T cs m')) (sz o s n c : Nat) :
    elemsOf B sz (.slice (some ⟨j, o, some s⟩) n c) = elemsOf A sz (.slice (some ⟨i, o, some s⟩) n c) := by
  unfold elemsOf cellsAt
  simp only [hi, hj]

variable [Reps] (hR : ∀ k d B r, Reps.rep k d B r ↔ repP k d B r)
include hR

theorem put_call {g : Gh} {A : Hp} {w : World} (hA : RelX Tryd.prog g A w) {i : Nat} {x : PX} (hi : A.get i = some (.abs 1 x.dat)) (hx : x.c = false) {bi bo bn bc : Nat} {us cs : List Value} {m : Md}
    (hb : A.get bi = some (.arr 5 cs m)) (hpl : ∀ u ∈ cs, plain0 u = true) (hpu : ∀ u ∈ us, plain0 u = true) (he : elemsOf A 1 (.slice (some ⟨bi, bo, some 1⟩) bn bc) = some (bn, us)) (hus : us.length = bn) (hpos : 0 < bn) (hn : x.n + bn ≤ 1073741824) {args' : Array Value}
    (ha : AR g.ρ [ptr i, .slice (some ⟨bi, bo, some 1⟩) bn bc].toArray args') :
    Calls Tryd.prog 14 args' w fun e w' => ∃ v', e = .returned v' ∧ After Tryd.prog g A w (.tuple #[.int .i64 bn, .nilIface]) (A.set i (some (.abs 1 (PX.dat { x with fl := x.fl ++ us, n := x.n + bn })))) v' w' := by
  have hC := callD_ok Tryd.good (noCalls_ok _) 6
  refine call_method hC hA hi (k' := 1) (im := [(5, cs)]) (ims := [bi]) rfl ?_ [] (by simp) ha (fun r n => [ptr r, .slice (some ⟨n, bo, some 1⟩) bn bc]) ?_ (.tuple #[.int .i64 bn, .nilIface]) ?_
  · intro t e j h1 h2
    match t, h1, h2 with
    | 0, h1, h2 =>
      simp only [List.getElem?_cons_zero, Option.some.injEq] at h1 h2
      subst h1 h2
      exact ⟨⟨m, hb⟩, hpl⟩
  · intro r n
    exact .cons (.ptr 0 (.inl ⟨rfl, rfl⟩)) (.cons (.slice bo 1 bn bc (.inr (.inr ⟨0, rfl, rfl⟩))) .nil)
  · intro B r hCB hw hCn hrep
    obtain ⟨_, _, y, e1, f, io, ps, gg, r1, r2, r3, r4, r5, r6⟩ := (hR _ _ _ _).1 hrep
    obtain rfl := PX.dat_inj e1
    have hBw : (B.push (.arr 5 cs .sh)).wf := hw.push _
    have hP : IsPipe (B.push (.arr 5 cs .sh)) r f io ps gg x.s x.c := r1.keep fun j o hj _ => Hp.get_push_ne _ _ (by have := hw.lt hj; omega)
    rw [hx] at hP
    have hrl := hw.lt r1.hp
    obtain ⟨io', A', y', q1, q2, q3, q4, q5, q6, q7, q8, _⟩ := pipe_put nc_none 4 hP hBw (bi := B.next) (bo := bo) (bn := bn) (bc := bc) (us := us)
      (by rw [elemsOf_move hb (Hp.get_push_same B _)]; exact he) hus hpos (by omega) (by omega) (by omega) (by omega)
    simp only [Hp.next_push] at q3 q6 q8
    have hCA : ∀ i o, Reps.C.get i = some o → A'.get i = some o := by
      intro j o hj
      have hjl := (Reps.Cro j o hj).1
      have hjB := hCB j o hj
      have hjf : j ≠ f := by
        rintro rfl
        obtain ⟨rv, h1, _⟩ := r1.hf
        rw [hjB] at h1
        cases h1
        have := (Reps.Cro _ _ hj).2
        cases this
      have hjo : io ≠ some j := by
        rintro rfl
        obtain ⟨rv, _, h2⟩ := r1.hf
        obtain ⟨cs2, hcs⟩ := h2.lt
        rw [hjB] at hcs
        cases hcs
        have := (Reps.Cro _ _ hj).2
        cases this
      rw [q8 j (by omega) hjf hjo, Hp.get_push_ne _ _ (by omega)]
      exact hjB
    obtain ⟨B2, c1, c2, c3, c4, c5, c6, c7, _⟩ := q4.close q2 hCA
    refine ⟨_, A', B2, [], q1, c1, by omega, c3, (hR _ _ _ _).2 ⟨rfl, c5, _, rfl, f, io', ps ++ [y'], gg, ?_, ?_, ?_, ?_, r5, ?_⟩, c6, c7, rfl, .nil, by simp, ?_⟩
    · show IsPipe B2 r f io' (ps ++ [y']) gg x.s x.c
      rw [hx]; exact c4
    · show flow (ps ++ [y']) gg = x.fl ++ us
      rw [← r2]
      unfold flow
      rw [List.flatMap_append, List.flatMap_cons, List.flatMap_nil, List.append_nil, q5, List.drop_append_of_le_length]
      rw [flow_len]
      rcases r1.hg with e | ⟨z, ps', e1, e2⟩
      · omega
      · rw [e1]; simp only [total]; omega
    · show total (ps ++ [y']) ≤ x.n + bn
      rw [total_append, q5]; omega
    · show (ps ++ [y']).length ≤ x.n + bn
      rw [List.length_append, List.length_singleton]; omega
    · intro z hz u hu
      rcases List.mem_append.1 hz with h | h
      · exact r6 z h u hu
      · simp only [List.mem_singleton] at h
        subst h
        rw [q5] at hu
        exact hpu u hu
    · exact VM.tuples (us := [.int .i64 bn, .nilIface]) (vs := [.int .i64 bn, .nilIface]) (.cons (.plain rfl) (.cons (.plain rfl) .nil))
end Go.Dn.Pipe
end

section
/-
  Move, by its contract
-/
namespace Go.Dn.Pipe
open Go.Proofs
set_option maxHeartbeats 4000000
set_option maxRecDepth 100000
attribute [local irreducible] Hp.get Hp.set Hp.push dappend dcopy dstore cellsAt callD loopD

theorem total_suffix {ps ps' : List Pc} (h : ps' <:+ ps) : total ps' ≤ total ps := by
  obtain ⟨l, rfl⟩ := h
  rw [← flow_len, ← flow_len, List.flatMap_append, List.length_append]
  omega

/-- what a Move hands out, and what is new then -/
def outV (n : Nat) (out : List Value) : Value := match out with
  | [] => .slice none 0 0
  | _ :: _ => .slice (some ⟨n, 0, some 1⟩) out.length (2 * out.length)
def outE (out : List Value) : List (TypeId × List Value) := match out with
  | [] => []
  | _ :: _ => [(5, out)]

variable [Reps] (hR : ∀ k d B r, Reps.rep k d B r ↔ repP k d B r)
include hR

theorem move_call {g : Gh} {A : Hp} {w : World} (hA : RelX Tryd.prog g A w) {i : Nat} {x : PX} (hi : A.get i = some (.abs 1 x.dat)) {n : Int} (hn : n ≤ 9223372036854775807) (hx : x.n ≤ 1073741824)
    (hpl : ∀ u ∈ x.fl, plain0 u = true) {args' : Array Value} (ha : AR g.ρ [ptr i, .int .i64 n].toArray args') :
    Calls Tryd.prog 17 args' w fun e w' => ∃ v', e = .returned v' ∧ After Tryd.prog g A w (outV A.next (x.fl.take n.toNat))
      (pushL .own (A.set i (some (.abs 1 (PX.dat { x with fl := x.fl.drop n.toNat, s := IntKind.u64.wrap (x.s + ((x.fl.take n.toNat).length : Nat)) })))) (outE (x.fl.take n.toNat))) v' w' := by
  have hC := callD_ok Tryd.good (noCalls_ok _) (x.n + 2 + 4)
  refine call_method hC hA hi (k' := 1) (im := []) (ims := []) rfl (by simp) (outE (x.fl.take n.toNat)) ?_ ha (fun r _ => [ptr r, .int .i64 n]) ?_ (outV A.next (x.fl.take n.toNat)) ?_
  · intro e he u hu
    cases ho : x.fl.take n.toNat with
    | nil => rw [ho] at he; simp [outE] at he
    | cons a l =>
      rw [ho] at he
      simp only [outE, List.mem_singleton] at he
      subst he
      rw [← ho] at hu
      exact hpl u (List.mem_of_mem_take hu)
  · intro r n'
    exact .cons (.ptr 0 (.inl ⟨rfl, rfl⟩)) (.cons (.plain rfl) .nil)
  · intro B r hCB hw hCn hrep
    obtain ⟨_, _, y, e1, f, io, ps, gg, r1, r2, r3, r4, r5, r6⟩ := (hR _ _ _ _).1 hrep
    obtain rfl := PX.dat_inj e1
    obtain ⟨v, iv, out, A', ps', g', q1, q2, q3, q4, q5, q6, q7, q8, q9, q10⟩ := pipe_move nc_none (x.n + 2) r1 hw r5 hn (by omega) (by omega) (by omega)
    rw [r2] at q3 q4
    subst q3
    have hCA : ∀ i o, Reps.C.get i = some o → A'.get i = some o := by
      intro j o hj
      have hjl := (Reps.Cro j o hj).1
      have hjB := hCB j o hj
      have hjp : j ≠ r := by
        rintro rfl
        have h1 := r1.hp
        rw [hjB] at h1
        cases h1
        have := (Reps.Cro _ _ hj).2
        cases this
      have hjf : j ≠ f := by
        rintro rfl
        obtain ⟨rv, h1, _⟩ := r1.hf
        rw [hjB] at h1
        cases h1
        have := (Reps.Cro _ _ hj).2
        cases this
      have hjo : io ≠ some j := by
        rintro rfl
        obtain ⟨rv, _, h2⟩ := r1.hf
        obtain ⟨cs2, hcs⟩ := h2.lt
        rw [hjB] at hcs
        cases hcs
        have := (Reps.Cro _ _ hj).2
        cases this
      rw [q9 j (by omega) hjp hjf hjo]
      exact hjB
    obtain ⟨B2, c1, c2, c3, c4, c5, c6, c7, c8⟩ := q5.close q6 hCA
    have hold : ∀ j, B.next ≤ j → B2.get j = none := by
      intro j hj
      refine c8 j (by omega) ?_ ?_ ?_ ?_
      · have := hw.lt r1.hp; omega
      · obtain ⟨rv, h1, _⟩ := r1.hf
        have := hw.lt h1; omega
      · rintro rfl
        obtain ⟨rv, _, h2⟩ := r1.hf
        obtain ⟨cs2, hcs⟩ := h2.lt
        have := hw.lt hcs; omega
      · intro z hz e
        subst e
        obtain ⟨cs2, hcs⟩ := (r1.hx z (q10.mem hz)).1.lt
        have := hw.lt hcs; omega
    have hlen : ps'.length ≤ ps.length := q10.length_le
    have htot := total_suffix q10
    have hrep2 : Reps.rep 1 (PX.dat { x with fl := x.fl.drop n.toNat, s := IntKind.u64.wrap (x.s + ((x.fl.take n.toNat).length : Nat)) }) B2 r := by
      refine (hR _ _ _ _).2 ⟨rfl, c5, _, rfl, f, io, ps', g', c4, q4, ?_, ?_, ?_, fun z hz => r6 z (q10.mem hz)⟩
      · show total ps' ≤ x.n; omega
      · show ps'.length ≤ x.n; omega
      · show IntKind.u64.wrap _ = IntKind.u64.wrap (IntKind.u64.wrap _)
        have := u64_add (x.s + ((x.fl.take n.toNat).length : Nat)) 0 0
        simp only [show IntKind.u64.wrap 0 = 0 from rfl, Int.add_zero] at this
        exact this.symm
    cases ho : x.fl.take n.toNat with
    | nil =>
      rw [ho] at q2 hrep2
      cases q2 with
      | nil => exact ⟨_, A', B2, [], q1, c1, by omega, c3, hrep2, c6, c7, rfl, .nil, by simp [outE], .plain rfl⟩
      | «at» _ _ _ _ _ hp => exact absurd rfl hp
    | cons a l =>
      rw [ho] at q2 hrep2
      generalize hus : a :: l = us at q2 hrep2
      generalize hk : us.length = k at q2
      cases q2 with
      | nil => simp at hus
      | «at» iv _ _ hg hl hp =>
      have hiv := q8 iv rfl
      refine ⟨_, A', B2, [iv], q1, c1, by omega, c3, by rw [← hk]; exact hrep2, c6, c7, by subst hus; rfl, by simp, ?_, ?_⟩
      · intro t e j h1 h2
        subst hus
        match t, h1, h2 with
        | 0, h1, h2 =>
          simp only [outE, List.getElem?_cons_zero, Option.some.injEq] at h1 h2
          subst h1 h2
          exact ⟨hg, hold iv hiv.1⟩
      · subst hk hus
        exact .slice 0 1 _ _ (.inr (.inr ⟨0, rfl, rfl⟩))
end Go.Dn.Pipe
end

section
/-
  New, Len, Passed, Broken, by their contracts
-/
namespace Go.Dn.Pipe
open Go.Proofs
set_option maxHeartbeats 4000000
set_option maxRecDepth 100000
attribute [local irreducible] Hp.get Hp.set Hp.push dappend dcopy dstore cellsAt callD loopD

variable [Reps] (hR : ∀ k d B r, Reps.rep k d B r ↔ repP k d B r)
include hR

def PX.new : PX := ⟨[], 0, 0, false⟩

theorem new_call {g : Gh} {A : Hp} {w : World} (hA : RelX Tryd.prog g A w) (hCw : Reps.C.wf) {args' : Array Value} (ha : AR g.ρ [].toArray args') :
    Calls Tryd.prog 13 args' w fun e w' => ∃ v', e = .returned v' ∧ After Tryd.prog g A w (ptr A.next) (A.push (.abs 1 PX.new.dat)) v' w' := by
  have hC := callD_ok Tryd.good (noCalls_ok _) 6
  let B' : Hp := (Reps.C.push (.arr 141 [inMax, inMax, .slice none 0 0, .int .i64 0] .own)).push (.arr 100 [ptr Reps.C.next, .int .i64 0, .int .u64 0, .bool false] .own)
  have hB' : B' = (Reps.C.push (.arr 141 [inMax, inMax, .slice none 0 0, .int .i64 0] .own)).push (.arr 100 [ptr Reps.C.next, .int .i64 0, .int .u64 0, .bool false] .own) := rfl
  have hp : B'.get (Reps.C.next + 1) = some (.arr 100 [ptr Reps.C.next, .int .i64 0, .int .u64 0, .bool false] .own) := by
    rw [hB', Hp.get_push, if_pos (by simp)]
  have hf : B'.get Reps.C.next = some (.arr 141 [inMax, inMax, .slice none 0 0, .int .i64 0] .own) := by
    rw [hB', Hp.get_push_ne _ _ (by simp)]; exact Hp.get_push_same _ _
  have hC2 : ∀ i o, Reps.C.get i = some o → B'.get i = some o := by
    intro i o hi
    have := (Reps.Cro i o hi).1
    rw [hB', Hp.get_push_ne _ _ (by simp; omega), Hp.get_push_ne _ _ (by omega)]; exact hi
  have hP : IsPipe B' (Reps.C.next + 1) Reps.C.next none [] 0 0 false := ⟨hp, ⟨_, hf, .nil⟩, by simp, .inl rfl⟩
  have hw : B'.wf := (hCw.push _).push _
  obtain ⟨B2, c1, c2, c3, c4, c5, c6, c7, _⟩ := hP.close hw hC2
  refine call_new hC hA (k := 1) (x := PX.new.dat) (im := []) (ims := []) rfl (by simp) ha (largs := []) .nil (v := ptr (Reps.C.next + 1)) (B' := B') (B2 := B2) (r := Reps.C.next + 1) ?_ c1 (by omega) c3
    ((hR _ _ _ _).2 ⟨rfl, c5, _, rfl, Reps.C.next, none, [], 0, c4, rfl, Nat.le_refl _, Nat.le_refl _, rfl, by simp⟩) c6 c7 (.ptr 0 (.inr ⟨rfl, rfl⟩))
  exact pipe_new nc_none 4

/-- a method that only looks -/
theorem look_call {g : Gh} {A : Hp} {w : World} (hA : RelX Tryd.prog g A w) {i : Nat} {x : PX} (hi : A.get i = some (.abs 1 x.dat)) {f : FuncId} {u : Value} (hu : plain0 u = true) {args' : Array Value} (ha : AR g.ρ [ptr i].toArray args')
    (hrun : ∀ B r, B.wf → RepP x B r → callD Tryd.bk noCalls 6 f [ptr r] B = some (u, B)) :
    Calls Tryd.prog f args' w fun e w' => ∃ v', e = .returned v' ∧ After Tryd.prog g A w u (A.set i (some (.abs 1 x.dat))) v' w' := by
  have hC := callD_ok Tryd.good (noCalls_ok _) 6
  refine call_method hC hA hi (k' := 1) (im := []) (ims := []) rfl (by simp) [] (by simp) ha (fun r _ => [ptr r]) (fun r n => .cons (.ptr 0 (.inl ⟨rfl, rfl⟩)) .nil) u ?_
  intro B r hCB hw hCn hrep
  obtain ⟨_, _, y, e1, f', io, ps, gg, r1, r2, r3, r4, r5, r6⟩ := (hR _ _ _ _).1 hrep
  obtain rfl := PX.dat_inj e1
  obtain ⟨B2, c1, c2, c3, c4, c5, c6, c7, _⟩ := r1.close hw hCB
  exact ⟨u, B, B2, [], hrun B r hw ⟨f', io, ps, gg, r1, r2, r3, r4, r5, r6⟩, c1, by omega, c3, (hR _ _ _ _).2 ⟨rfl, c5, _, rfl, f', io, ps, gg, c4, r2, r3, r4, r5, r6⟩, c6, c7, rfl, .nil, by simp, .plain hu⟩

theorem len_call {g : Gh} {A : Hp} {w : World} (hA : RelX Tryd.prog g A w) {i : Nat} {x : PX} (hi : A.get i = some (.abs 1 x.dat)) (hx : x.n ≤ 1073741824) {args' : Array Value} (ha : AR g.ρ [ptr i].toArray args') :
    Calls Tryd.prog 16 args' w fun e w' => ∃ v', e = .returned v' ∧ After Tryd.prog g A w (.int .i64 x.fl.length) (A.set i (some (.abs 1 x.dat))) v' w' :=
  look_call hR hA hi rfl ha fun B r hw hrep => by
    obtain ⟨f, io, ps, gg, r1, r2, r3, r4, r5, r6⟩ := hrep
    obtain ⟨rv, h1, h2⟩ := r1.hf
    have hfl := flow_length ps gg
    rw [r2] at hfl
    have hg : gg ≤ total ps := by
      rcases r1.hg with e | ⟨z, ps', e1, e2⟩
      · omega
      · rw [e1]; simp only [total]; omega
    have hne : f ≠ r := by rintro rfl; rw [r1.hp] at h1; cases h1
    have := pipe_len nc_none 4 r1.hp h1 hne
    rw [this]
    have e : (total ps : Int) - gg = (x.fl.length : Nat) := by omega
    rw [e, wrap64 (by omega) (by omega)]

theorem passed_call {g : Gh} {A : Hp} {w : World} (hA : RelX Tryd.prog g A w) {i : Nat} {x : PX} (hi : A.get i = some (.abs 1 x.dat)) {args' : Array Value} (ha : AR g.ρ [ptr i].toArray args') :
    Calls Tryd.prog 18 args' w fun e w' => ∃ v', e = .returned v' ∧ After Tryd.prog g A w (.int .u64 x.s) (A.set i (some (.abs 1 x.dat))) v' w' :=
  look_call hR hA hi rfl ha fun B r hw hrep => by
    obtain ⟨f, io, ps, gg, r1, _⟩ := hrep
    exact pipe_passed nc_none 5 r1.hp

theorem broken_call {g : Gh} {A : Hp} {w : World} (hA : RelX Tryd.prog g A w) {i : Nat} {x : PX} (hi : A.get i = some (.abs 1 x.dat)) {args' : Array Value} (ha : AR g.ρ [ptr i].toArray args') :
    Calls Tryd.prog 19 args' w fun e w' => ∃ v', e = .returned v' ∧ After Tryd.prog g A w (.bool x.c) (A.set i (some (.abs 1 x.dat))) v' w' :=
  look_call hR hA hi rfl ha fun B r hw hrep => by
    obtain ⟨f, io, ps, gg, r1, _⟩ := hrep
    exact pipe_broken nc_none 5 r1.hp
end Go.Dn.Pipe
end

section
/-
  a pipe's functions, told by relations on abstract heaps
-/
namespace Go.Dn.Pipe
open Go.Proofs
set_option maxHeartbeats 4000000
set_option maxRecDepth 100000
attribute [local irreducible] Hp.get Hp.set Hp.push dappend dcopy dstore cellsAt callD loopD

theorem pipe_put0 {base : CallT} (hb : ∀ f args A, f ∉ [61, 12, 20, 38, 27] → base f args A = none) (n : Nat) {A : Hp} {p : Nat} {a b s : Value} {T : TypeId} {md : Md} (hp : A.get p = some (.arr T [a, b, s, .bool false] md)) (v : Option Addr) (c : Nat) :
    callD Tryd.bk base (n + 1) 14 [ptr p, .slice v 0 c] A = some (.tuple #[.int .i64 0, .nilIface], A) := by
  refine callD_of (hb _ _ _ (by decide)) (fn := Tryd.f14) rfl ?_
  conv => lhs; whnf
  rw [cellsAt_of hp]
  conv => lhs; whnf
  rfl

inductive NewR : List Value → Hp → Value × Hp → Prop
  | mk (A : Hp) : NewR [] A (ptr A.next, A.push (.abs 1 PX.new.dat))
inductive PutR : List Value → Hp → Value × Hp → Prop
  | put (A : Hp) (i : Nat) (x : PX) (hi : A.get i = some (.abs 1 x.dat)) (hx : x.c = false) (bi bo bn bc : Nat) (us cs : List Value) (m : Md) (hb : A.get bi = some (.arr 5 cs m)) (hpl : ∀ u ∈ cs, plain0 u = true)
      (hpu : ∀ u ∈ us, plain0 u = true) (he : elemsOf A 1 (.slice (some ⟨bi, bo, some 1⟩) bn bc) = some (bn, us)) (hus : us.length = bn) (hn : x.n + bn ≤ 1073741824) :
      PutR [ptr i, .slice (some ⟨bi, bo, some 1⟩) bn bc] A (.tuple #[.int .i64 bn, .nilIface], A.set i (some (.abs 1 (PX.dat { x with fl := x.fl ++ us, n := x.n + bn }))))
inductive MoveR : List Value → Hp → Value × Hp → Prop
  | mk (A : Hp) (i : Nat) (x : PX) (hi : A.get i = some (.abs 1 x.dat)) (n : Int) (hn : n ≤ 9223372036854775807) (hx : x.n ≤ 1073741824) (hpl : ∀ u ∈ x.fl, plain0 u = true) :
      MoveR [ptr i, .int .i64 n] A (outV A.next (x.fl.take n.toNat),
        pushL .own (A.set i (some (.abs 1 (PX.dat { x with fl := x.fl.drop n.toNat, s := IntKind.u64.wrap (x.s + ((x.fl.take n.toNat).length : Nat)) })))) (outE (x.fl.take n.toNat)))
inductive LenR : List Value → Hp → Value × Hp → Prop
  | mk (A : Hp) (i : Nat) (x : PX) (hi : A.get i = some (.abs 1 x.dat)) (hx : x.n ≤ 1073741824) : LenR [ptr i] A (.int .i64 x.fl.length, A.set i (some (.abs 1 x.dat)))
inductive PassedR : List Value → Hp → Value × Hp → Prop
  | mk (A : Hp) (i : Nat) (x : PX) (hi : A.get i = some (.abs 1 x.dat)) : PassedR [ptr i] A (.int .u64 x.s, A.set i (some (.abs 1 x.dat)))
inductive BrokenR : List Value → Hp → Value × Hp → Prop
  | mk (A : Hp) (i : Nat) (x : PX) (hi : A.get i = some (.abs 1 x.dat)) : BrokenR [ptr i] A (.bool x.c, A.set i (some (.abs 1 x.dat)))

theorem same_px {A : Hp} {i : Nat} {x y : PX} (h1 : A.get i = some (.abs 1 x.dat)) (h2 : A.get i = some (.abs 1 y.dat)) : x = y := by
  rw [h1] at h2
  have := Option.some.inj h2
  simp only [Ob.abs.injEq, true_and] at this
  exact PX.dat_inj this

theorem NewR.one {A : Hp} {args : List Value} {r r' : Value × Hp} (h : NewR args A r) (h' : NewR args A r') : r' = r := by
  cases h; cases h'; rfl
theorem LenR.one {A : Hp} {args : List Value} {r r' : Value × Hp} (h : LenR args A r) (h' : LenR args A r') : r' = r := by
  cases h with | mk _ i x hi _ => cases h' with | mk _ _ y hj => rw [same_px hj hi]
theorem PassedR.one {A : Hp} {args : List Value} {r r' : Value × Hp} (h : PassedR args A r) (h' : PassedR args A r') : r' = r := by
  cases h with | mk _ i x hi => cases h' with | mk _ _ y hj => rw [same_px hj hi]
theorem BrokenR.one {A : Hp} {args : List Value} {r r' : Value × Hp} (h : BrokenR args A r) (h' : BrokenR args A r') : r' = r := by
  cases h with | mk _ i x hi => cases h' with | mk _ _ y hj => rw [same_px hj hi]
theorem MoveR.one {A : Hp} {args : List Value} {r r' : Value × Hp} (h : MoveR args A r) (h' : MoveR args A r') : r' = r := by
  cases h with | mk _ i x hi => cases h' with | mk _ _ y hj => rw [same_px hj hi]
theorem PutR.one {A : Hp} {args : List Value} {r r' : Value × Hp} (h : PutR args A r) (h' : PutR args A r') : r' = r := by
  cases h with
  | put _ i x hi hx bi bo bn bc us cs m hb hpl hpu he hus hn =>
    cases h' with
    | put _ _ y hj hy _ _ _ _ us' cs' m' hb' hpl' hpu' he' hus' hn' =>
      rw [same_px hj hi]
      rw [he] at he'
      cases he'
      rfl
end Go.Dn.Pipe
end

section
/-
  the pipe's functions as known calls
-/
namespace Go.Dn.Pipe
open Go.Proofs
set_option maxHeartbeats 4000000
set_option maxRecDepth 100000
attribute [local irreducible] Hp.get Hp.set Hp.push dappend dcopy dstore cellsAt callD loopD

theorem fn13 : ∃ x, Tryd.prog.funcs[13]? = some x ∧ x.body.isSome = true ∧ (x.name == "runtime.NumGoroutine") = false := ⟨Tryd.f13, by kernel_rfl, by kernel_rfl, by kernel_rfl⟩
theorem fn14 : ∃ x, Tryd.prog.funcs[14]? = some x ∧ x.body.isSome = true ∧ (x.name == "runtime.NumGoroutine") = false := ⟨Tryd.f14, by kernel_rfl, by kernel_rfl, by kernel_rfl⟩
theorem fn16 : ∃ x, Tryd.prog.funcs[16]? = some x ∧ x.body.isSome = true ∧ (x.name == "runtime.NumGoroutine") = false := ⟨Tryd.f16, by kernel_rfl, by kernel_rfl, by kernel_rfl⟩
theorem fn17 : ∃ x, Tryd.prog.funcs[17]? = some x ∧ x.body.isSome = true ∧ (x.name == "runtime.NumGoroutine") = false := ⟨Tryd.f17, by kernel_rfl, by kernel_rfl, by kernel_rfl⟩
theorem fn18 : ∃ x, Tryd.prog.funcs[18]? = some x ∧ x.body.isSome = true ∧ (x.name == "runtime.NumGoroutine") = false := ⟨Tryd.f18, by kernel_rfl, by kernel_rfl, by kernel_rfl⟩
theorem fn19 : ∃ x, Tryd.prog.funcs[19]? = some x ∧ x.body.isSome = true ∧ (x.name == "runtime.NumGoroutine") = false := ⟨Tryd.f19, by kernel_rfl, by kernel_rfl, by kernel_rfl⟩

noncomputable def T3 (base : CallT) : CallT := withCall (withCall (withCall (withCall (withCall (withCall base 13 (byRel NewR)) 14 (byRel PutR)) 16 (byRel LenR)) 17 (byRel MoveR)) 18 (byRel PassedR)) 19 (byRel BrokenR)

variable [Reps] (hR : ∀ k d B r, Reps.rep k d B r ↔ repP k d B r)
include hR

theorem put0_call {g : Gh} {A : Hp} {w : World} (hA : RelX Tryd.prog g A w) {i : Nat} {x : PX} (hi : A.get i = some (.abs 1 x.dat)) (hx : x.c = false) {bi bo bc : Nat} {cs : List Value} {m : Md}
    (hb : A.get bi = some (.arr 5 cs m)) (hpl : ∀ u ∈ cs, plain0 u = true) {args' : Array Value} (ha : AR g.ρ [ptr i, .slice (some ⟨bi, bo, some 1⟩) 0 bc].toArray args') :
    Calls Tryd.prog 14 args' w fun e w' => ∃ v', e = .returned v' ∧ After Tryd.prog g A w (.tuple #[.int .i64 0, .nilIface]) (A.set i (some (.abs 1 x.dat))) v' w' := by
  have hC := callD_ok Tryd.good (noCalls_ok _) 6
  refine call_method hC hA hi (k' := 1) (im := [(5, cs)]) (ims := [bi]) rfl ?_ [] (by simp) ha (fun r n => [ptr r, .slice (some ⟨n, bo, some 1⟩) 0 bc]) ?_ (.tuple #[.int .i64 0, .nilIface]) ?_
  · intro t e j h1 h2
    match t, h1, h2 with
    | 0, h1, h2 =>
      simp only [List.getElem?_cons_zero, Option.some.injEq] at h1 h2
      subst h1 h2
      exact ⟨⟨m, hb⟩, hpl⟩
  · intro r n
    exact .cons (.ptr 0 (.inl ⟨rfl, rfl⟩)) (.cons (.slice bo 1 0 bc (.inr (.inr ⟨0, rfl, rfl⟩))) .nil)
  · intro B r hCB hw hCn hrep
    obtain ⟨_, _, y, e1, f, io, ps, gg, r1, r2, r3, r4, r5, r6⟩ := (hR _ _ _ _).1 hrep
    obtain rfl := PX.dat_inj e1
    have hP : IsPipe (B.push (.arr 5 cs .sh)) r f io ps gg x.s x.c := r1.keep fun j o hj _ => Hp.get_push_ne _ _ (by have := hw.lt hj; omega)
    have hCA : ∀ i o, Reps.C.get i = some o → (B.push (.arr 5 cs .sh)).get i = some o := fun j o hj => by
      have := (Reps.Cro j o hj).1
      rw [Hp.get_push_ne _ _ (by omega)]; exact hCB j o hj
    obtain ⟨B2, c1, c2, c3, c4, c5, c6, c7, _⟩ := hP.close (hw.push _) hCA
    have hp := hP.hp
    rw [hx] at hp
    refine ⟨_, _, B2, [], pipe_put0 nc_none 5 hp _ _, c1, by omega, c3, (hR _ _ _ _).2 ⟨rfl, c5, _, rfl, f, io, ps, gg, c4, r2, r3, r4, r5, r6⟩, c6, c7, rfl, .nil, by simp, ?_⟩
    exact VM.tuples (us := [.int .i64 0, .nilIface]) (vs := [.int .i64 0, .nilIface]) (.cons (.plain rfl) (.cons (.plain rfl) .nil))

theorem T3_ok {base : CallT} (hB : CallOK Tryd.prog base) (hCw : Reps.C.wf) : CallOK Tryd.prog (T3 base) := by
  refine withCall_ok (withCall_ok (withCall_ok (withCall_ok (withCall_ok (withCall_ok hB fn13 ?_) fn14 ?_) fn16 ?_) fn17 ?_) fn18 ?_) fn19 ?_
  · intro args A v A' h ρ w args' hr ha
    have h := byRel_some h
    cases h
    exact new_call hR hr hCw ha
  · intro args A v A' h ρ w args' hr ha
    have h := byRel_some h
    cases h with
    | put _ i x hi hx bi bo bn bc us cs m hb hpl hpu he hus hn =>
      rcases Nat.eq_zero_or_pos bn with e | e
      · subst e
        have : us = [] := List.eq_nil_of_length_eq_zero hus
        subst this
        have e2 : ({ x with fl := x.fl ++ [], n := x.n + 0 } : PX) = x := by rw [List.append_nil]; rfl
        rw [e2]
        exact put0_call hR hr hi hx hb hpl ha
      · exact put_call hR hr hi hx hb hpl hpu he hus e hn ha
  · intro args A v A' h ρ w args' hr ha
    have h := byRel_some h
    cases h with
    | mk _ i x hi hx => exact len_call hR hr hi hx ha
  · intro args A v A' h ρ w args' hr ha
    have h := byRel_some h
    cases h with
    | mk _ i x hi n hn hx hpl => exact move_call hR hr hi hn hx hpl ha
  · intro args A v A' h ρ w args' hr ha
    have h := byRel_some h
    cases h with
    | mk _ i x hi => exact passed_call hR hr hi ha
  · intro args A v A' h ρ w args' hr ha
    have h := byRel_some h
    cases h with
    | mk _ i x hi => exact broken_call hR hr hi ha
end Go.Dn.Pipe
end

section
/-
  constants of a law's own list
-/
namespace Go.Dn.Pipe
open Go.Proofs

/-- a heap of these sentinels alone -/
def mkC (gs : List Nat) : Hp := gs.foldr (fun g A => A.set g (some (er g))) ⟨86, .nil⟩

theorem mkC_next (gs : List Nat) : (mkC gs).next = 86 := by
  induction gs with
  | nil => rfl
  | cons g l ih => exact ih
theorem mkC_get {gs : List Nat} {i : Nat} {o : Ob} (h : (mkC gs).get i = some o) : i ∈ gs ∧ o = er i := by
  induction gs with
  | nil =>
    have : (⟨86, .nil⟩ : Hp).get i = none := by
      show Tr.get Tr.nil i = none
      simp
    rw [show mkC [] = ⟨86, .nil⟩ from rfl, this] at h
    cases h
  | cons g l ih =>
    have hh : ((mkC l).set g (some (er g))).get i = some o := h
    by_cases e : i = g
    · subst e
      rw [Hp.get_set_same] at hh
      cases hh
      exact ⟨by simp, rfl⟩
    · rw [Hp.get_set_ne _ _ e] at hh
      obtain ⟨h1, h2⟩ := ih hh
      exact ⟨by simp [h1], h2⟩
theorem mkC_has {gs : List Nat} {g : Nat} (h : g ∈ gs) : (mkC gs).get g = some (er g) := by
  induction gs with
  | nil => cases h
  | cons x l ih =>
    show ((mkC l).set x (some (er x))).get g = _
    by_cases e : g = x
    · subst e; exact Hp.get_set_same _ _ _
    · rw [Hp.get_set_ne _ _ e]
      exact ih (by simpa [e] using h)
theorem mkC_wf {gs : List Nat} (h : ∀ g ∈ gs, g < 86) : (mkC gs).wf := by
  intro i hi
  rw [mkC_next] at hi
  cases hg : (mkC gs).get i with
  | none => rfl
  | some o =>
    have := h i (mkC_get hg).1
    omega

/-- the document's example, run on the constants -/
theorem wakes_known [Reps] (h : (callD Tryd.bk noCalls 20 12 [] Reps.C).map (·.1) = some (.bool true)) : CallOK Tryd.prog (withCall noCalls 12 wakesF) := by
  refine withCall_ok (noCalls_ok _) fn12 fun args A v A' h1 ρ w args' hr ha => ?_
  unfold wakesF at h1
  split at h1
  · cases h1
    cases hc : callD Tryd.bk noCalls 20 12 [] Reps.C with
    | none => rw [hc] at h; cases h
    | some r =>
      obtain ⟨v, B'⟩ := r
      rw [hc] at h
      cases h
      exact closed_ok (callD_ok Tryd.good (noCalls_ok _) 20) hc .nil rfl ρ A w args' hr ha
  · cases h1
end Go.Dn.Pipe
end

section
/-
  a pipe's functions as a law calls them
-/
namespace Go.Dn.Pipe
open Go.Proofs
set_option maxHeartbeats 4000000
set_option maxRecDepth 100000
attribute [local irreducible] Hp.get Hp.set Hp.push dappend dcopy dstore cellsAt callD loopD

/-- bytes of one's own: where, and what is new -/
def copV (n : Nat) (us : List Value) : Value := match us with
  | [] => .slice (some ⟨n, 0, some 1⟩) 0 1
  | _ :: _ => .slice (some ⟨n + 1, 0, some 1⟩) us.length (2 * us.length)
def copH (A : Hp) (us : List Value) : Hp := match us with
  | [] => A.push (.arr 5 [] .own)
  | _ :: _ => (A.push (.arr 5 [] .own)).push (.arr 5 us .own)

theorem append_odd {E : Env} {t t2 e sz bz : Nat} (hE : ElT E t e sz bz) (hE2 : ∃ i e2, E.T t2 = some i ∧ i.d = .slice e2) {A : Hp} {k : Nat} {x : Value} {ys : List Value} {m : Nat} (hg : A.get k = some (.arr e [] .own))
    (hx : elemsOf A sz x = some (m, ys)) (hb : m * bz ≤ 140737488355328) (hM : m ≤ maxLen) :
    dappend E t t2 A (.slice (some ⟨k, 0, some sz⟩) 0 1) x = some (if m = 0 then (.slice (some ⟨k, 0, some sz⟩) 0 1, A) else (.slice (some ⟨A.next, 0, some sz⟩) m (2 * m), A.push (.arr e ys .own))) := by
  obtain ⟨⟨i, h1, h2⟩, ⟨j, z, h3, h4, h5, h6, h7⟩, h8⟩ := hE
  obtain ⟨i2, e2, g1, g2⟩ := hE2
  unfold dappend
  rw [h1, g1]
  simp only [Option.bind_some, h2, g2, h3, h6, h4, hx, h7, h5]
  cases hm0 : Nat.beq m 0 with
  | true =>
    have : m = 0 := by simpa using hm0
    subst this
    rfl
  | false =>
    have hmp : m ≠ 0 := fun e => by subst e; simp at hm0
    simp only [cond_false]
    rw [if_pos ⟨trivial, h8⟩]
    simp only [Nat.zero_add]
    rw [if_pos ⟨trivial, hM, hb⟩]
    rw [if_neg (show ¬ (m ≤ 1 / 2) by omega)]
    have hel := (SlAt.at (e := e) (sz := sz) k 0 0 1 [] [] (.inr rfl) hg (by simp) (by simp)).elems
    rw [hel]
    simp only [Option.bind_some]
    rw [if_pos trivial, if_neg hmp]
    simp

/-- the pipe's functions, called -/
structure PipeFns (call : CallT) : Prop where
  wakes : ∀ A, call 12 [] A = some (.bool true, A)
  new : ∀ {args A r}, NewR args A r → call 13 args A = some r
  put : ∀ {args A r}, PutR args A r → call 14 args A = some r
  copied : ∀ {A x} {us : List Value}, A.wf → elemsOf A 1 x = some (us.length, us) → us.length ≤ 1073741824 → call 15 [x] A = some (copV A.next us, copH A us)
  len : ∀ {args A r}, LenR args A r → call 16 args A = some r
  move : ∀ {args A r}, MoveR args A r → call 17 args A = some r
  passed : ∀ {args A r}, PassedR args A r → call 18 args A = some r
  broken : ∀ {args A r}, BrokenR args A r → call 19 args A = some r

theorem copied_exact {call : CallT} (lf : Nat) {A : Hp} (hw : A.wf) {x : Value} {us : List Value} (hx : elemsOf A 1 x = some (us.length, us)) (hl : us.length ≤ 1073741824) :
    kfn Tryd.bk.E call (Tryd.bk.inf 15) lf Tryd.f15 [x] A = some (copV A.next us, copH A us) := by
  have h2 : elemsOf (A.push (.arr 5 [] .own)) 1 x = some (us.length, us) := elemsOf_keep hx fun i o hi _ => Hp.get_push_ne _ _ (by have := hw.lt hi; omega)
  have h3 := append_odd elB elB2 (Hp.get_push_same A (.arr 5 [] .own)) h2 (by omega) (by unfold maxLen; omega)
  have h4 : (if us.length = 0 then ((.slice (some ⟨A.next, 0, some 1⟩) 0 1 : Value), A.push (.arr 5 [] .own)) else (.slice (some ⟨(A.push (.arr 5 [] .own)).next, 0, some 1⟩) us.length (2 * us.length), (A.push (.arr 5 [] .own)).push (.arr 5 us .own))) = (copV A.next us, copH A us) := by
    cases us with
    | nil => rfl
    | cons y l => simp [copV, copH]
  rw [h4] at h3
  conv => lhs; whnf
  refine bind_of h3 ?_
  conv => lhs; whnf
  rfl

theorem T3_fns {base : CallT} (hw : ∀ A, base 12 [] A = some (.bool true, A)) (h15 : ∀ args A, base 15 args A = none) (n : Nat) : PipeFns (callD Tryd.bk (T3 base) (n + 1)) := by
  refine ⟨fun A => callD_base (show T3 base 12 [] A = _ from hw A) _, fun h => callD_base ?_ _, fun h => callD_base ?_ _, fun hw' hx hl => ?_, fun h => callD_base ?_ _, fun h => callD_base ?_ _, fun h => callD_base ?_ _, fun h => callD_base ?_ _⟩
  · exact byRel_of h fun r' h' => h.one h'
  · exact byRel_of h fun r' h' => h.one h'
  · exact callD_of (h15 _ _) (fn := Tryd.f15) rfl (copied_exact n hw' hx hl)
  · exact byRel_of h fun r' h' => h.one h'
  · exact byRel_of h fun r' h' => h.one h'
  · exact byRel_of h fun r' h' => h.one h'
  · exact byRel_of h fun r' h' => h.one h'

theorem _root_.Go.Dn.CanAt.keep {e sz : Nat} {A A' : Hp} {v : Value} {io : Option Nat} {us : List Value} {n : Nat} (h : CanAt e sz A v io us n) (hk : ∀ i, io = some i → A'.get i = A.get i) : CanAt e sz A' v io us n := by
  cases h with
  | nil => exact .nil
  | «at» i _ _ hg hl hp => exact .at i n us (by rw [hk i rfl]; exact hg) hl hp
theorem _root_.Go.Dn.CanAt.lt {e sz : Nat} {A : Hp} {v : Value} {i : Nat} {us : List Value} {n : Nat} (h : CanAt e sz A v (some i) us n) (hw : A.wf) : i < A.next := by
  cases h with
  | «at» _ _ _ hg hl hp => exact hw.lt hg
theorem wrapu {n : Nat} (h : n ≤ 18446744073709551615) : IntKind.u64.wrap (n : Int) = (n : Int) := by
  show (n : Int) % 18446744073709551616 = n
  omega

/-! ## a Put, a Move -/
theorem copV_form (n : Nat) (us : List Value) : ∃ i c, copV n us = .slice (some ⟨i, 0, some 1⟩) us.length c ∧ n ≤ i ∧ i ≤ n + 1 := by
  cases us with
  | nil => exact ⟨n, 1, rfl, by omega, by omega⟩
  | cons y l => exact ⟨n + 1, _, rfl, by omega, by omega⟩

theorem copH_old (A : Hp) (us : List Value) : ∀ j, j < A.next → (copH A us).get j = A.get j := by
  intro j hj
  cases us with
  | nil => exact Hp.get_push_ne _ _ (by omega)
  | cons y l =>
    show ((A.push (.arr 5 [] .own)).push (.arr 5 (y :: l) .own)).get j = _
    rw [Hp.get_push_ne _ _ (by simp; omega), Hp.get_push_ne _ _ (by omega)]

theorem copH_wf {A : Hp} (hw : A.wf) (us : List Value) : (copH A us).wf := by
  cases us with
  | nil => exact hw.push _
  | cons y l => exact (hw.push _).push _

theorem copH_next (A : Hp) (us : List Value) : A.next < (copH A us).next := by
  cases us with
  | nil => simp [copH]
  | cons y l => simp [copH]; omega

theorem copV_at (A : Hp) (us : List Value) : ∃ i c, copV A.next us = .slice (some ⟨i, 0, some 1⟩) us.length c ∧ A.next ≤ i ∧ i < (copH A us).next ∧ (copH A us).get i = some (.arr 5 us .own) ∧ us.length ≤ c / 2 := by
  cases us with
  | nil => exact ⟨A.next, 1, rfl, by omega, by simp [copH], Hp.get_push_same _ _, by simp⟩
  | cons y l => exact ⟨A.next + 1, _, rfl, by omega, by simp [copH], Hp.get_push_at _ (by simp), by simp⟩

theorem put_phase {call : CallT} (h : PipeFns call) {A : Hp} {P : Nat} {x : PX} (hw : A.wf) (hP : A.get P = some (.abs 1 x.dat)) (hx : x.c = false) {v : Value} {seg : List Value} (hv : elemsOf A 1 v = some (seg.length, seg))
    (hpl : ∀ u ∈ seg, plain0 u = true) (hb : x.n + seg.length ≤ 1073741824) :
    ∃ wv A1 A2, call 15 [v] A = some (wv, A1) ∧ call 14 [ptr P, wv] A1 = some (.tuple #[.int .i64 seg.length, .nilIface], A2) ∧ A2.wf ∧ A.next ≤ A2.next ∧ (∀ j, j < A.next → j ≠ P → A2.get j = A.get j) ∧
      A2.get P = some (.abs 1 (PX.dat { x with fl := x.fl ++ seg, n := x.n + seg.length })) := by
  have h1 := h.copied hw hv (by omega)
  obtain ⟨i, c, e1, e2, e3, e4, e5⟩ := copV_at A seg
  have hPl := hw.lt hP
  have hP1 : (copH A seg).get P = some (.abs 1 x.dat) := by rw [copH_old A seg P hPl]; exact hP
  have he : elemsOf (copH A seg) 1 (.slice (some ⟨i, 0, some 1⟩) seg.length c) = some (seg.length, seg) :=
    (BsAt.at i 0 seg.length c 5 seg seg .own e4 (by omega) (by simp) e5).elems
  have h2 := h.put (PutR.put (copH A seg) P x hP1 hx i 0 seg.length c seg seg .own e4 hpl hpl he rfl hb)
  rw [← e1] at h2
  refine ⟨_, _, _, h1, h2, (copH_wf hw seg).put hP1 _, ?_, fun j hj hjP => ?_, Hp.get_set_same _ _ _⟩
  · have := copH_next A seg
    rw [Hp.next_set]
    omega
  · rw [Hp.get_set_ne _ _ hjP, copH_old A seg j hj]

theorem pushL_outE_get (A : Hp) (l : List Value) : ∀ j, j < A.next → (pushL .own A (outE l)).get j = A.get j := by
  intro j hj
  cases l with
  | nil => rfl
  | cons y l => exact Hp.get_push_ne _ _ (by omega)
theorem pushL_outE_wf {A : Hp} (hw : A.wf) (l : List Value) : (pushL .own A (outE l)).wf := by
  cases l with
  | nil => exact hw
  | cons y l => exact hw.push _
theorem pushL_outE_next (A : Hp) (l : List Value) : A.next ≤ (pushL .own A (outE l)).next := by
  cases l with
  | nil => exact Nat.le_refl _
  | cons y l => show A.next ≤ (A.push _).next; simp
theorem outV_at (A : Hp) (l : List Value) : ∃ a c io, outV A.next l = .slice a l.length c ∧ CanAt 5 1 (pushL .own A (outE l)) (.slice a l.length c) io l l.length ∧ (∀ i, io = some i → A.next ≤ i ∧ i < (pushL .own A (outE l)).next) := by
  cases l with
  | nil => exact ⟨none, 0, none, rfl, .nil, by simp⟩
  | cons y l =>
    refine ⟨some ⟨A.next, 0, some 1⟩, 2 * (y :: l).length, some A.next, rfl, .at A.next _ _ (Hp.get_push_same _ _) (by simp) (by simp), fun i hi => ?_⟩
    cases hi
    refine ⟨Nat.le_refl _, ?_⟩
    show A.next < (A.push _).next
    simp

theorem get_set_self {A : Hp} {i : Nat} {o : Ob} (h : A.get i = some o) (j : Nat) : (A.set i (some o)).get j = A.get j := by
  by_cases e : j = i
  · subst e; rw [Hp.get_set_same, h]
  · exact Hp.get_set_ne _ _ e

theorem move_phase {call : CallT} (h : PipeFns call) {A : Hp} {P : Nat} {x : PX} (hw : A.wf) (hP : A.get P = some (.abs 1 x.dat)) (hn : x.n ≤ 1073741824) (hpl : ∀ u ∈ x.fl, plain0 u = true) {k : Int} (hk : k ≤ 9223372036854775807)
    {V : Value} {io : Option Nat} {cs : List Value} (hV : CanAt 5 1 A V io cs cs.length) (hio : io ≠ some P) (hlen : cs.length + x.fl.length ≤ 4000000000) :
    ∃ a c A2 V' io' A3, call 17 [ptr P, .int .i64 k] A = some (.slice a (x.fl.take k.toNat).length c, A2) ∧ dappend Tryd.bk.E 22 22 A2 V (.slice a (x.fl.take k.toNat).length c) = some (V', A3) ∧
      CanAt 5 1 A3 V' io' (cs ++ x.fl.take k.toNat) (cs ++ x.fl.take k.toNat).length ∧ A3.wf ∧ A.next ≤ A3.next ∧ (∀ j, j < A.next → j ≠ P → A2.get j = A.get j) ∧ (∀ j, j < A.next → j ≠ P → io ≠ some j → A3.get j = A.get j) ∧
      A3.get P = some (.abs 1 (PX.dat { x with fl := x.fl.drop k.toNat, s := IntKind.u64.wrap (x.s + ((x.fl.take k.toNat).length : Nat)) })) ∧ (∀ i, io' = some i → io = some i ∨ A.next ≤ i) := by
  have h1 := h.move (MoveR.mk A P x hP k hk hn hpl)
  have hPl := hw.lt hP
  generalize hX : PX.dat { x with fl := x.fl.drop k.toNat, s := IntKind.u64.wrap (x.s + ((x.fl.take k.toNat).length : Nat)) } = X at h1 ⊢
  have hl : (x.fl.take k.toNat).length ≤ x.fl.length := by simp; omega
  generalize x.fl.take k.toNat = tk at h1 hl ⊢
  let B : Hp := A.set P (some (.abs 1 X))
  have hBn : B.next = A.next := Hp.next_set _ _ _
  have hBw : B.wf := hw.put hP _
  obtain ⟨a, c, iv, o1, o2, o3⟩ := outV_at B tk
  rw [hBn] at o1
  rw [o1] at h1
  have hV2 : CanAt 5 1 (pushL .own B (outE tk)) V io cs cs.length := by
    cases hV with
    | nil => exact .nil
    | «at» i _ _ hg hl' hp =>
      have hil := hw.lt hg
      refine .at i _ cs ?_ hl' hp
      rw [pushL_outE_get B tk i (by rw [hBn]; exact hil)]
      have : i ≠ P := fun e => hio (by rw [e])
      exact (Hp.get_set_ne _ _ this).trans hg
  obtain ⟨V', A3, io', d1, d2, d3, d4, d5, d6⟩ := append_can elB elB2 hV2 o2.slAt.elems (by simp) (by omega) (by unfold maxLen; omega)
  have hnx := pushL_outE_next B tk
  rw [hBn] at hnx
  have hio2 : ∀ i, io = some i → i < A.next := by
    rintro i rfl
    cases hV with
    | «at» _ n us hg hl' hp => exact hw.lt hg
  refine ⟨a, c, _, V', io', A3, h1, d1, ?_, d4 (pushL_outE_wf hBw tk), by omega, fun j hj hjP => ?_, fun j hj hjP hji => ?_, ?_, fun i hi => ?_⟩
  · rw [List.length_append]; exact d2
  · rw [pushL_outE_get B tk j (by rw [hBn]; exact hj)]
    exact Hp.get_set_ne _ _ hjP
  · rw [d5 j (by omega) hji, pushL_outE_get B tk j (by rw [hBn]; exact hj)]
    exact Hp.get_set_ne _ _ hjP
  · rw [d5 P (by omega) hio, pushL_outE_get B tk P (by rw [hBn]; exact hPl)]
    exact Hp.get_set_same _ _ _
  · rcases d6 with ⟨e, _⟩ | ⟨i', e, e2, _⟩
    · left; rw [← e]; exact hi
    · right
      rw [e] at hi
      cases hi
      omega
end Go.Dn.Pipe
end
