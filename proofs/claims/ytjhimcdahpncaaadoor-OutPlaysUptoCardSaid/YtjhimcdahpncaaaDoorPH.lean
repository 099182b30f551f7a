/-
  Part of the abstract machine for this program.
-/
import Derived.Test.YtjhimcdahpncaaaDoorPG
import Derived.Test.YtjhimcdahpncaaaDoorPF
import Derived.Test.YtjhimcdahpncaaaDoorDnJ

section
/-
  the document's bytes of a number (layer 1), as layer 6 uses it
-/
namespace Go.Dn.Pipe
open Go.Proofs
set_option maxHeartbeats 4000000
set_option maxRecDepth 100000
attribute [local irreducible] Hp.get Hp.set Hp.push dappend dcopy dstore cellsAt callD loopD

theorem loopD_go {ks : Option (List Nat)} {f : Sl → Hp → Option (Ex × Sl × Hp)} {n : Nat} {σ σ1 σ2 : Sl} {A A1 : Hp} {r : Option (Ex × Sl × Hp)} (h : f σ A = some (.normal, σ1, A1)) (hk : keepSl ks σ1 = σ2) (h2 : loopD ks f n σ2 A1 = r) : loopD ks f (n + 1) σ A = r := by
  unfold loopD
  rw [h]
  simp only [Option.bind_some]
  rw [hk]
  exact h2

def rbyte (n : Int) : Value := .int .u8 (IntKind.u8.wrap (n.tmod 256))
def rnext (n : Int) : Int := IntKind.i64.wrap (n.tdiv 256)

theorem rb_round {call : CallT} (lf : Nat) {A : Hp} {b w c : Nat} {cs cs' : List Value} {n : Int} (hg : A.get b = some (.arr 5 cs .own)) (i : Nat) (hi : i < w) (hset : storeIn Tryd.bk.E 5 cs (0 + i * 1) (rbyte n) = some cs') :
    ∃ σ1, exec Tryd.bk.E call Tryd.f78.ntmps (Tryd.bk.inf 78) lf (loopOf Tryd.f78 0) [(0, .int .i64 n), (4, .slice none 0 0), (5, .slice (some ⟨b, 0, some 1⟩) w c), (6, .int .i64 (i : Nat))] A = some (.normal, σ1, A.set b (some (.arr 5 cs' .own))) ∧
      keepSl (some [0, 4, 5, 6]) σ1 = [(0, .int .i64 (rnext n)), (4, .slice none 0 0), (5, .slice (some ⟨b, 0, some 1⟩) w c), (6, .int .i64 (IntKind.i64.wrap ((i : Int) - 1)))] := by
  have e1 : ((i : Nat) : Int) ≥ 0 := by omega
  have e2 : ((i : Nat) : Int) < ((w : Nat) : Int) := by omega
  refine ⟨?sg, kexec_run ?run, ?kp⟩
  case run =>
    conv => lhs; whnf
    rw [kdec e1]
    conv => lhs; whnf
    rw [kdec e2]
    conv => lhs; whnf
    refine bind_of (dstore_of hg (t := 5) (cs' := cs') hset) ?_
    conv => lhs; whnf
  case kp => rfl

theorem rb_end {call : CallT} (lf : Nat) {A : Hp} {n : Int} {V : Value} :
    ∃ σ1, exec Tryd.bk.E call Tryd.f78.ntmps (Tryd.bk.inf 78) lf (loopOf Tryd.f78 0) [(0, .int .i64 n), (4, .slice none 0 0), (5, V), (6, .int .i64 (-1))] A = some (.exit 0, σ1, A) ∧
      keepSl (some [0, 4, 5, 6]) σ1 = [(0, .int .i64 n), (4, .slice none 0 0), (5, V), (6, .int .i64 (-1))] := by
  refine ⟨?sg, kexec_run ?run, ?kp⟩
  case run =>
    conv => lhs; whnf
  case kp => rfl

def rb2 (v : Int) : List Value := [rbyte (rnext v), rbyte v]
def rb4 (v : Int) : List Value := [rbyte (rnext (rnext (rnext v))), rbyte (rnext (rnext v)), rbyte (rnext v), rbyte v]

theorem rb2_walk {call : CallT} (lf : Nat) {A : Hp} (hw : A.wf) (v : Int) :
    ∃ A', kfn Tryd.bk.E call (Tryd.bk.inf 78) (lf + 3) Tryd.f78 [.int .i64 v, .int .i64 2] A = some (.slice (some ⟨A.next, 0, some 1⟩) 2 5, A') ∧ Kp A A' ∧ A'.get A.next = some (.arr 5 (rb2 v) .own) := by
  let A1 : Hp := A.push (.arr 5 [.int .u8 0, .int .u8 0] .own)
  have g1 : A1.get A.next = some (.arr 5 [.int .u8 0, .int .u8 0] .own) := Hp.get_push_same _ _
  let A2 : Hp := A1.set A.next (some (.arr 5 [.int .u8 0, rbyte v] .own))
  have g2 : A2.get A.next = some (.arr 5 [.int .u8 0, rbyte v] .own) := Hp.get_set_same _ _ _
  let A3 : Hp := A2.set A.next (some (.arr 5 [rbyte (rnext v), rbyte v] .own))
  have g3 : A3.get A.next = some (.arr 5 [rbyte (rnext v), rbyte v] .own) := Hp.get_set_same _ _ _
  have k3 : Kp A A3 := (((Kp.push hw _).set g1 (Nat.le_refl _) _).set g2 (Nat.le_refl _) _)
  obtain ⟨s1, a1, b1⟩ := rb_round (call := call) (lf + 3) (c := 5) g1 1 (w := 2) (by omega) (n := v) (cs' := [.int .u8 0, rbyte v]) rfl
  obtain ⟨s2, a2, b2⟩ := rb_round (call := call) (lf + 3) (c := 5) g2 0 (w := 2) (by omega) (n := rnext v) (cs' := [rbyte (rnext v), rbyte v]) rfl
  obtain ⟨s3, a3, b3⟩ := rb_end (call := call) (lf + 3) (A := A3) (n := rnext (rnext v)) (V := .slice (some ⟨A.next, 0, some 1⟩) 2 5)
  have l3 := loopD_end (ks := some [0, 4, 5, 6]) (n := lf) a3 (by simp)
  rw [b3] at l3
  have l2 := loopD_go a2 b2 l3
  have l1 := loopD_go a1 b1 l2
  refine ⟨A3, ?run, k3, g3⟩
  case run =>
    conv => lhs; whnf
    refine bind_of l1 ?_
    conv => lhs; whnf
    rfl

theorem rb4_walk {call : CallT} (lf : Nat) {A : Hp} (hw : A.wf) (v : Int) :
    ∃ A', kfn Tryd.bk.E call (Tryd.bk.inf 78) (lf + 5) Tryd.f78 [.int .i64 v, .int .i64 4] A = some (.slice (some ⟨A.next, 0, some 1⟩) 4 9, A') ∧ Kp A A' ∧ A'.get A.next = some (.arr 5 (rb4 v) .own) := by
  let Z : Value := .int .u8 0
  let c1 : List Value := [Z, Z, Z, rbyte v]
  let c2 : List Value := [Z, Z, rbyte (rnext v), rbyte v]
  let c3 : List Value := [Z, rbyte (rnext (rnext v)), rbyte (rnext v), rbyte v]
  let A1 : Hp := A.push (.arr 5 [Z, Z, Z, Z] .own)
  have g1 : A1.get A.next = some (.arr 5 [Z, Z, Z, Z] .own) := Hp.get_push_same _ _
  let A2 : Hp := A1.set A.next (some (.arr 5 c1 .own))
  have g2 : A2.get A.next = some (.arr 5 c1 .own) := Hp.get_set_same _ _ _
  let A3 : Hp := A2.set A.next (some (.arr 5 c2 .own))
  have g3 : A3.get A.next = some (.arr 5 c2 .own) := Hp.get_set_same _ _ _
  let A4 : Hp := A3.set A.next (some (.arr 5 c3 .own))
  have g4 : A4.get A.next = some (.arr 5 c3 .own) := Hp.get_set_same _ _ _
  let A5 : Hp := A4.set A.next (some (.arr 5 (rb4 v) .own))
  have g5 : A5.get A.next = some (.arr 5 (rb4 v) .own) := Hp.get_set_same _ _ _
  have k5 : Kp A A5 := (((((Kp.push hw _).set g1 (Nat.le_refl _) _).set g2 (Nat.le_refl _) _).set g3 (Nat.le_refl _) _).set g4 (Nat.le_refl _) _)
  obtain ⟨s1, a1, b1⟩ := rb_round (call := call) (lf + 5) (c := 9) g1 3 (w := 4) (by omega) (n := v) (cs' := c1) rfl
  obtain ⟨s2, a2, b2⟩ := rb_round (call := call) (lf + 5) (c := 9) g2 2 (w := 4) (by omega) (n := rnext v) (cs' := c2) rfl
  obtain ⟨s3, a3, b3⟩ := rb_round (call := call) (lf + 5) (c := 9) g3 1 (w := 4) (by omega) (n := rnext (rnext v)) (cs' := c3) rfl
  obtain ⟨s4, a4, b4⟩ := rb_round (call := call) (lf + 5) (c := 9) g4 0 (w := 4) (by omega) (n := rnext (rnext (rnext v))) (cs' := rb4 v) rfl
  obtain ⟨s5, a5, b5⟩ := rb_end (call := call) (lf + 5) (A := A5) (n := rnext (rnext (rnext (rnext v)))) (V := .slice (some ⟨A.next, 0, some 1⟩) 4 9)
  have l5 := loopD_end (ks := some [0, 4, 5, 6]) (n := lf) a5 (by simp)
  rw [b5] at l5
  have l4 := loopD_go a4 b4 l5
  have l3 := loopD_go a3 b3 l4
  have l2 := loopD_go a2 b2 l3
  have l1 := loopD_go a1 b1 l2
  refine ⟨A5, ?run, k5, g5⟩
  case run =>
    conv => lhs; whnf
    refine bind_of l1 ?_
    conv => lhs; whnf
    rfl

/-- the document's bytes are the program's -/
theorem wrap8 (x : Int) : IntKind.u8.wrap x = x % 256 := by
  rw [IntKind.wrap_u8]

theorem rnext_eq {v : Int} (h0 : 0 ≤ v) (h1 : v ≤ 4294967295) : rnext v = v / 256 := by
  unfold rnext
  rw [Int.tdiv_eq_ediv_of_nonneg h0, wrap64 (by omega) (by omega)]

theorem rbyte_eq {v : Int} (h0 : 0 ≤ v) : rbyte v = .int .u8 (v % 256) := by
  unfold rbyte
  rw [Int.tmod_eq_emod_of_nonneg h0, wrap8]
  congr 1
  omega

theorem rb2_eq {v : Int} (h0 : 0 ≤ v) (h1 : v ≤ 4294967295) : rb2 v = e16 v := by
  have h8 : (2 ^ min (Int.toNat 8) IntKind.u16.bits : Int) = 256 := rfl
  unfold rb2 e16
  rw [rnext_eq h0 h1, rbyte_eq h0, rbyte_eq (by omega), h8, Int.fdiv_eq_ediv_of_nonneg _ (by omega), wrap8, wrap8]

theorem rb4_eq {v : Int} (h0 : 0 ≤ v) (h1 : v ≤ 4294967295) : rb4 v = e32 v := by
  have h8 : (2 ^ min (Int.toNat 8) IntKind.u32.bits : Int) = 256 := rfl
  have h16 : (2 ^ min (Int.toNat 16) IntKind.u32.bits : Int) = 65536 := rfl
  have h24 : (2 ^ min (Int.toNat 24) IntKind.u32.bits : Int) = 16777216 := rfl
  unfold rb4 e32
  rw [rnext_eq h0 h1, rnext_eq (v := v / 256) (by omega) (by omega), rnext_eq (v := v / 256 / 256) (by omega) (by omega)]
  rw [rbyte_eq h0, rbyte_eq (v := v / 256) (by omega), rbyte_eq (v := v / 256 / 256) (by omega), rbyte_eq (v := v / 256 / 256 / 256) (by omega)]
  rw [h8, h16, h24, Int.fdiv_eq_ediv_of_nonneg _ (by omega), Int.fdiv_eq_ediv_of_nonneg _ (by omega), Int.fdiv_eq_ediv_of_nonneg _ (by omega), wrap8, wrap8, wrap8, wrap8]
  rw [show v / 16777216 = v / 256 / 256 / 256 by omega, show v / 65536 = v / 256 / 256 by omega]
end Go.Dn.Pipe
end

section
/-
  the document's frame as bytes (layer 4)
-/
namespace Go.Dn.Pipe
open Go.Proofs
set_option maxHeartbeats 4000000
set_option maxRecDepth 100000

/-- an append of something makes a slice in the plainest form -/
theorem append_sl {E : Env} {t t2 e sz bz : Nat} (hE : ElT E t e sz bz) (hE2 : ∃ i e2, E.T t2 = some i ∧ i.d = .slice e2) {A : Hp} {v x : Value} {io : Option Nat} {us ys : List Value} {n m : Nat}
    (hv : SlAt e sz A v io us n) (hx : elemsOf A sz x = some (m, ys)) (hm : ys.length = m * sz) (hmp : m ≠ 0) (hb : (n + m) * bz ≤ 140737488355328) (hM : n + m ≤ maxLen) :
    ∃ v' A' i', dappend E t t2 A v x = some (v', A') ∧ CanAt e sz A' v' (some i') (us ++ ys) (n + m) ∧ A.next ≤ i' ∧ A.next ≤ A'.next ∧ (A.wf → A'.wf) ∧ (∀ j, j < A.next → io ≠ some j → A'.get j = A.get j) := by
  obtain ⟨⟨i, h1, h2⟩, ⟨j, z, h3, h4, h5, h6, h7⟩, h8⟩ := hE
  obtain ⟨i2, e2, g1, g2⟩ := hE2
  unfold dappend
  rw [h1, g1]
  simp only [Option.bind_some, h2, g2, h3, h6, h4, hx, h7, h5]
  rw [Tr.beq_ff hmp]
  simp only [cond_false]
  rw [if_pos ⟨trivial, h8⟩]
  cases hv with
  | nil =>
    simp only [Nat.zero_add] at hb hM ⊢
    rw [if_pos ⟨hM, hb⟩]
    exact ⟨_, _, A.next, rfl, .at A.next m ys (Hp.get_push_same _ _) (by omega) hmp, Nat.le_refl _, by simp, fun hw => hw.push _, fun j hj _ => Hp.get_push_ne _ _ (by omega)⟩
  | «at» k o _ c cs _ hc hg hl hu =>
    simp only
    rw [if_pos ⟨trivial, hM, hb⟩]
    have hlen : us.length = n * sz := by rw [← hu]; simp; omega
    rw [if_neg (by rcases hc with rfl | rfl <;> omega)]
    have hel := (SlAt.at (e := e) (sz := sz) k o n c cs us hc hg hl hu).elems
    rw [hel]
    simp only [Option.bind_some]
    by_cases hodd : c % 2 = 1
    · rw [if_pos hodd]
      exact ⟨_, _, A.next, rfl, .at A.next (n + m) (us ++ ys) (Hp.get_push_same _ _) (by simp [hlen, hm, Nat.add_mul]) (by omega), Nat.le_refl _, by simp, fun hw => hw.push _, fun j hj _ => Hp.get_push_ne _ _ (by omega)⟩
    · rw [if_neg hodd, hg]
      simp only [if_true]
      refine ⟨_, _, A.next, rfl, .at A.next (n + m) (us ++ ys) (Hp.get_push_same _ _) (by simp [hlen, hm, Nat.add_mul]) (by omega), Nat.le_refl _, by simp, fun hw => (hw.drop k).push _, fun j hj hne => ?_⟩
      rw [Hp.get_push_ne _ _ (by simp; omega), Hp.get_set_ne _ _ (fun e => hne (by rw [e]))]

attribute [local irreducible] Hp.get Hp.set Hp.push dappend dcopy dstore cellsAt callD loopD

def RB2 (call : CallT) : Prop := ∀ {A : Hp} (v : Int), A.wf → ∃ A', call 78 [.int .i64 v, .int .i64 2] A = some (.slice (some ⟨A.next, 0, some 1⟩) 2 5, A') ∧ Kp A A' ∧ A'.get A.next = some (.arr 5 (rb2 v) .own)
def RB4 (call : CallT) : Prop := ∀ {A : Hp} (v : Int), A.wf → ∃ A', call 78 [.int .i64 v, .int .i64 4] A = some (.slice (some ⟨A.next, 0, some 1⟩) 4 9, A') ∧ Kp A A' ∧ A'.get A.next = some (.arr 5 (rb4 v) .own)

theorem Kp.sl {e sz : Nat} {A A' : Hp} {v : Value} {i : Nat} {us : List Value} {n : Nat} (hk : Kp A A') (hw : A.wf) (h : CanAt e sz A v (some i) us n) : CanAt e sz A' v (some i) us n :=
  h.keep fun j hj => by cases hj; exact hk.old i (h.lt hw)

theorem rencode_walk {call : CallT} (h2 : RB2 call) (h4 : RB4 call) (lf : Nat) {A : Hp} (hw : A.wf) (ver typ : Int) {fl st ln : Int} (f0 : 0 ≤ fl) (f1 : fl ≤ 4294967295) (s0 : 0 ≤ st) (s1 : st ≤ 4294967295) (l0 : 0 ≤ ln) (l1 : ln ≤ 4294967295) :
    ∃ V A' i, kfn Tryd.bk.E call (Tryd.bk.inf 77) lf Tryd.f77 [.agg #[.int .u8 ver, .int .u8 typ, .int .u16 fl, .int .u32 st, .int .u32 ln]] A = some (V, A') ∧ Kp A A' ∧ CanAt 5 1 A' V (some i) (hdrOf ver typ fl st ln) 12 ∧ A.next ≤ i := by
  let H : List Value := [.int .u8 ver, .int .u8 typ, .int .u16 fl, .int .u32 st, .int .u32 ln]
  let A1 : Hp := A.push (.arr 84 H .own)
  have q1 : A1.get A.next = some (.arr 84 H .own) := Hp.get_push_same _ _
  have n1 : A1.next = A.next + 1 := by simp [A1]
  let A2 : Hp := A1.push (.arr 5 [.int .u8 ver, .int .u8 typ] .own)
  have k1 : Kp A A1 := Kp.push hw _
  have k12 : Kp A1 A2 := Kp.push k1.wf _
  have n2 : A2.next = A.next + 2 := by simp [A2, A1]
  have q2 : A2.get A.next = some (.arr 84 H .own) := by rw [k12.old _ (by omega)]; exact q1
  have g2 : SlAt 5 1 A2 (.slice (some ⟨A1.next, 0, some 1⟩) 2 5) (some A1.next) [.int .u8 ver, .int .u8 typ] 2 := .at A1.next 0 2 5 _ _ (.inr rfl) (Hp.get_push_same _ _) (by simp) rfl
  obtain ⟨A3, a1, a2, a3⟩ := h2 fl k12.wf
  have g3 : SlAt 5 1 A3 (.slice (some ⟨A1.next, 0, some 1⟩) 2 5) (some A1.next) [.int .u8 ver, .int .u8 typ] 2 := g2.keep fun i hi => by cases hi; exact a2.old _ (by omega)
  have x3 : elemsOf A3 1 (.slice (some ⟨A2.next, 0, some 1⟩) 2 5) = some (2, rb2 fl) := (BsAt.at A2.next 0 2 5 5 _ _ .own a3 (by simp [rb2]) rfl (by omega)).elems
  obtain ⟨V4, A4, i4, b1, b2, b3, b4, b5, b6⟩ := append_sl elB elB2 g3 x3 rfl (by omega) (by omega) (by unfold maxLen; omega)
  have k23 : Kp A1 A3 := k12.trans a2
  have k14 : Kp A1 A4 := ⟨b5 a2.wf, by have := k23.nx; omega, fun j hj => by rw [b6 j (by have := k23.nx; omega) (by simp; omega)]; exact k23.old j hj⟩
  obtain ⟨A5, c1, c2, c3⟩ := h4 st k14.wf
  have x5 : elemsOf A5 1 (.slice (some ⟨A4.next, 0, some 1⟩) 4 9) = some (4, rb4 st) := (BsAt.at A4.next 0 4 9 5 _ _ .own c3 (by simp [rb4]) rfl (by omega)).elems
  obtain ⟨V6, A6, i6, d1, d2, d3, d4, d5, d6⟩ := append_sl elB elB2 (Kp.sl c2 k14.wf b2).slAt x5 rfl (by omega) (by omega) (by unfold maxLen; omega)
  have k15 : Kp A1 A5 := k14.trans c2
  have n4 := k23.nx
  have n5 := k14.nx
  have n6 := k15.nx
  have k16 : Kp A1 A6 := ⟨d5 c2.wf, by omega, fun j hj => by rw [d6 j (by omega) (by simp; omega)]; exact k15.old j hj⟩
  obtain ⟨A7, e1, e2, e3⟩ := h4 ln k16.wf
  have x7 : elemsOf A7 1 (.slice (some ⟨A6.next, 0, some 1⟩) 4 9) = some (4, rb4 ln) := (BsAt.at A6.next 0 4 9 5 _ _ .own e3 (by simp [rb4]) rfl (by omega)).elems
  obtain ⟨V8, A8, i8, p1, p2, p3, p4, p5, p6⟩ := append_sl elB elB2 (Kp.sl e2 k16.wf d2).slAt x7 rfl (by omega) (by omega) (by unfold maxLen; omega)
  have k17 : Kp A1 A7 := k16.trans e2
  have n7 := k16.nx
  have n8 := k17.nx
  have k18 : Kp A1 A8 := ⟨p5 e2.wf, by omega, fun j hj => by rw [p6 j (by omega) (by simp; omega)]; exact k17.old j hj⟩
  have wfl : IntKind.i64.wrap fl = fl := wrap64 (by omega) (by omega)
  have wst : IntKind.i64.wrap st = st := wrap64 (by omega) (by omega)
  have wln : IntKind.i64.wrap ln = ln := wrap64 (by omega) (by omega)
  have q4 : A4.get A.next = some (.arr 84 H .own) := by rw [k14.old _ (by omega)]; exact q1
  have q6 : A6.get A.next = some (.arr 84 H .own) := by rw [k16.old _ (by omega)]; exact q1
  refine ⟨V8, A8, i8, ?run, k1.trans k18, ?val, by omega⟩
  case val =>
    have : hdrOf ver typ fl st ln = [.int .u8 ver, .int .u8 typ] ++ rb2 fl ++ rb4 st ++ rb4 ln := by
      rw [rb2_eq f0 f1, rb4_eq s0 s1, rb4_eq l0 l1]; rfl
    rw [this]
    exact p2
  case run =>
    conv => lhs; whnf
    refine bind_of (cellsAt_of q1 _ _) ?_
    conv => lhs; whnf
    refine bind_of (cellsAt_of q1 _ _) ?_
    conv => lhs; whnf
    refine bind_of (cellsAt_of q2 _ _) ?_
    conv => lhs; whnf
    rw [wfl]
    refine bind_of a1 ?_
    conv => lhs; whnf
    refine bind_of b1 ?_
    conv => lhs; whnf
    refine bind_of (cellsAt_of q4 _ _) ?_
    conv => lhs; whnf
    rw [wst]
    refine bind_of c1 ?_
    conv => lhs; whnf
    refine bind_of d1 ?_
    conv => lhs; whnf
    refine bind_of (cellsAt_of q6 _ _) ?_
    conv => lhs; whnf
    rw [wln]
    refine bind_of e1 ?_
    conv => lhs; whnf
    refine bind_of p1 ?_
    conv => lhs; whnf
    rfl

theorem rsize_walk {call : CallT} (lf : Nat) (A : Hp) (ver typ fl st ln : Int) :
    kfn Tryd.bk.E call (Tryd.bk.inf 76) lf Tryd.f76 [.agg #[.int .u8 ver, .int .u8 typ, .int .u16 fl, .int .u32 st, .int .u32 ln]] A = some (.int .i64 (szOf typ ln), A.push (.arr 84 [.int .u8 ver, .int .u8 typ, .int .u16 fl, .int .u32 st, .int .u32 ln] .own)) := by
  have hq : (A.push (.arr 84 [.int .u8 ver, .int .u8 typ, .int .u16 fl, .int .u32 st, .int .u32 ln] .own)).get A.next = some (.arr 84 [.int .u8 ver, .int .u8 typ, .int .u16 fl, .int .u32 st, .int .u32 ln] .own) := Hp.get_push_same _ _
  unfold szOf
  cases ht : (typ == 0) with
  | true =>
    conv => lhs; whnf
    refine bind_of (cellsAt_of hq _ _) ?_
    conv => lhs; whnf
    rw [ht]
    conv => lhs; whnf
    refine bind_of (cellsAt_of hq _ _) ?_
    conv => lhs; whnf
    rfl
  | false =>
    conv => lhs; whnf
    refine bind_of (cellsAt_of hq _ _) ?_
    conv => lhs; whnf
    rw [ht]
    conv => lhs; whnf
    rfl

def RSize (call : CallT) : Prop := ∀ (A : Hp) (ver typ fl st ln : Int), call 76 [.agg #[.int .u8 ver, .int .u8 typ, .int .u16 fl, .int .u32 st, .int .u32 ln]] A = some (.int .i64 (szOf typ ln), A.push (.arr 84 [.int .u8 ver, .int .u8 typ, .int .u16 fl, .int .u32 st, .int .u32 ln] .own))
def REnc (call : CallT) : Prop := ∀ {A : Hp}, A.wf → ∀ (ver typ : Int) {fl st ln : Int}, 0 ≤ fl → fl ≤ 4294967295 → 0 ≤ st → st ≤ 4294967295 → 0 ≤ ln → ln ≤ 4294967295 → ∃ V A' i, call 77 [.agg #[.int .u8 ver, .int .u8 typ, .int .u16 fl, .int .u32 st, .int .u32 ln]] A = some (V, A') ∧ Kp A A' ∧ CanAt 5 1 A' V (some i) (hdrOf ver typ fl st ln) 12 ∧ A.next ≤ i

theorem rbytes_walk {call : CallT} (h76 : RSize call) (h77 : REnc call) (lf : Nat) {A : Hp} (hw : A.wf) (ver typ : Int) {fl st ln : Int} (f0 : 0 ≤ fl) (f1 : fl ≤ 4294967295) (s0 : 0 ≤ st) (s1 : st ≤ 4294967295) (l0 : 0 ≤ ln) (l1 : ln ≤ 4294967295)
    {a : Option Addr} {c : Nat} {us : List Value} (hB : BsAt A (.slice a us.length c) us) (hl : us.length ≤ 100000000) (hsz : (us.length : Int) = szOf typ ln) :
    ∃ V A' i, kfn Tryd.bk.E call (Tryd.bk.inf 73) lf Tryd.f73 [frm ver typ fl st ln (.slice a us.length c)] A = some (.tuple #[V, .int .i64 0], A') ∧ Kp A A' ∧ CanAt 5 1 A' V (some i) (hdrOf ver typ fl st ln ++ us) (12 + us.length) ∧ A.next ≤ i := by
  let F : List Value := [.int .u8 ver, .int .u8 typ, .int .u16 fl, .int .u32 st, .int .u32 ln, .slice a us.length c]
  let A1 : Hp := A.push (.arr 86 F .own)
  have q1 : A1.get A.next = some (.arr 86 F .own) := Hp.get_push_same _ _
  let H : List Value := [.int .u8 ver, .int .u8 typ, .int .u16 fl, .int .u32 st, .int .u32 ln]
  have w1 : A1.wf := hw.push _
  have n1 : A1.next = A.next + 1 := by simp [A1]
  let D1 : Hp := backL A1 (backL A1 ((guardL (hideL A1 []) [A.next]).push (.arr 84 H .own)) [A.next]) []
  have kD1 : Kp A1 D1 := (guarded_kp (l := [A.next]) (fun j hj => by simp only [List.mem_singleton] at hj; omega) (Kp.push (guard_wf w1 _) (.arr 84 H .own))).1
  have hlD1 := kD1.nx
  have qD1 : D1.get A.next = some (.arr 86 F .own) := by rw [kD1.old _ (by omega)]; exact q1
  have hbn : (((us.length : Nat) : Int) != szOf typ ln) = false := by rw [hsz]; exact bne_self_eq_false _
  obtain ⟨Vb, C, b, e1, e2, e3, e4⟩ := h77 (guard_wf kD1.wf [A.next]) ver typ f0 f1 s0 s1 l0 l1
  rw [guard_next] at e4
  let D2 : Hp := backL D1 (backL D1 C [A.next]) []
  obtain ⟨kD2, n2, o2⟩ := guarded_kp (D := D1) (l := [A.next]) (fun j hj => by simp only [List.mem_singleton] at hj; omega) e2
  have qD2 : D2.get A.next = some (.arr 86 F .own) := by rw [kD2.old _ (by omega)]; exact qD1
  have gb : CanAt 5 1 D2 Vb (some b) (hdrOf ver typ fl st ln) 12 := e3.keep fun j hj => by cases hj; exact o2 b e4
  have kA : Kp A D2 := ((Kp.push hw _).trans kD1).trans kD2
  have hBD : BsAt D2 (.slice a us.length c) us := hB.old hw kA.old
  obtain ⟨V', A', io', a1, a2, a3, a4, a5, a6⟩ := append_can elB elB2 gb hBD.elems (by simp) (by omega) (by unfold maxLen; omega)
  obtain ⟨i', rfl, hi'⟩ : ∃ i', io' = some i' ∧ A.next ≤ i' := by
    rcases a6 with ⟨e, _⟩ | ⟨i', e, e', _⟩
    · exact ⟨b, e, by omega⟩
    · exact ⟨i', e, by have := kA.nx; omega⟩
  have kF : Kp A A' := ⟨a4 kA.wf, by have := kA.nx; omega, fun j hj => by rw [a5 j (by have := kA.nx; omega) (fun e => by cases e; omega), kA.old j hj]⟩
  refine ⟨V', A', i', ?run, kF, a2, hi'⟩
  case run =>
    conv => lhs; whnf
    refine bind_of (cellsAt_of q1 _ _) ?_
    conv => lhs; whnf
    refine bind_of (cellsAt_of q1 _ _) ?_
    conv => lhs; whnf
    refine bind_of (h76 _ ver typ fl st ln) ?_
    conv => lhs; whnf
    rw [hbn]
    conv => lhs; whnf
    refine bind_of (cellsAt_of qD1 _ _) ?_
    conv => lhs; whnf
    refine bind_of (cellsAt_of qD1 _ _) ?_
    conv => lhs; whnf
    refine bind_of e1 ?_
    conv => lhs; whnf
    refine bind_of a1 ?_
    conv => lhs; whnf
    rfl

theorem rbytes_bad {call : CallT} (h76 : RSize call) (lf : Nat) {A : Hp} (hw : A.wf) (ver typ fl st ln : Int) {a : Option Addr} {c m : Nat} (hsz : (m : Int) ≠ szOf typ ln) :
    ∃ A', kfn Tryd.bk.E call (Tryd.bk.inf 73) lf Tryd.f73 [frm ver typ fl st ln (.slice a m c)] A = some (.tuple #[.slice none 0 0, .int .i64 15], A') ∧ Kp A A' := by
  let F : List Value := [.int .u8 ver, .int .u8 typ, .int .u16 fl, .int .u32 st, .int .u32 ln, .slice a m c]
  let A1 : Hp := A.push (.arr 86 F .own)
  have q1 : A1.get A.next = some (.arr 86 F .own) := Hp.get_push_same _ _
  let H : List Value := [.int .u8 ver, .int .u8 typ, .int .u16 fl, .int .u32 st, .int .u32 ln]
  have w1 : A1.wf := hw.push _
  have n1 : A1.next = A.next + 1 := by simp [A1]
  let D1 : Hp := backL A1 (backL A1 ((guardL (hideL A1 []) [A.next]).push (.arr 84 H .own)) [A.next]) []
  have kD1 : Kp A1 D1 := (guarded_kp (l := [A.next]) (fun j hj => by simp only [List.mem_singleton] at hj; omega) (Kp.push (guard_wf w1 _) (.arr 84 H .own))).1
  have hbn : (((m : Nat) : Int) != szOf typ ln) = true := bne_iff_ne.2 hsz
  refine ⟨D1, ?run, (Kp.push hw _).trans kD1⟩
  case run =>
    conv => lhs; whnf
    refine bind_of (cellsAt_of q1 _ _) ?_
    conv => lhs; whnf
    refine bind_of (cellsAt_of q1 _ _) ?_
    conv => lhs; whnf
    refine bind_of (h76 _ ver typ fl st ln) ?_
    conv => lhs; whnf
    rw [hbn]
    conv => lhs; whnf
    rfl
end Go.Dn.Pipe
end

section
/-
  'step', whatever the op; the functions known
-/
namespace Go.Dn.Pipe
open Go.Proofs
set_option maxHeartbeats 4000000
set_option maxRecDepth 100000
attribute [local irreducible] Hp.get Hp.set Hp.push dappend dcopy dstore cellsAt callD loopD dstring

/-- the document's pipe as a value, and the pipe beside it -/
structure PW (P : Nat) (all : List Value) (g : Nat) (ct : Bool) (V : Value) (A : Hp) : Prop where
  form : ∃ a c, V = .slice a all.length c
  bs : BsAt A V all
  typ : Typ5 A V
  bytes : IsB all
  gl : g ≤ all.length
  pipe : A.get P = some (.abs 1 (pxOf all g ct).dat)

def StepOK (call : CallT) (N : Nat) : Prop := ∀ {P : Nat} {A : Hp} {all : List Value} {g : Nat} {ct : Bool} {V : Value}, A.wf → PW P all g ct V A → ∀ {a2 : Option Addr} {c2 : Nat} {us : List Value} (k n : Int), IsB us → BsAt A (.slice a2 us.length c2) us → n ≤ 9223372036854775807 →
  all.length + us.length ≤ 100000000 → all.length + us.length < N →
  ∃ all' g' ct' V' A', call 25 [ptr P, .agg #[V, .int .i64 g, .bool ct], .agg #[.int .i64 k, .slice a2 us.length c2, .int .i64 n]] A = some (.tuple #[.agg #[V', .int .i64 (g' : Nat), .bool ct'], .bool true], A') ∧
    KP P A A' ∧ PW P all' g' ct' V' A' ∧ all'.length ≤ all.length + us.length

def LenOK (call : CallT) : Prop := ∀ {P : Nat} {A : Hp} {all : List Value} {g : Nat} {ct : Bool} {V : Value}, A.wf → PW P all g ct V A → all.length ≤ 100000000 →
  ∃ A', call 25 [ptr P, .agg #[V, .int .i64 g, .bool ct], .agg #[.int .i64 3, .slice none 0 0, .int .i64 0]] A = some (.tuple #[.agg #[V, .int .i64 g, .bool ct], .bool true], A') ∧ KP P A A' ∧ PW P all g ct V A'

theorem len_ok {call call2 : CallT} {N : Nat} (h : StepFns call N) (lf : Nat) (h25 : ∀ args A r, kfn Tryd.bk.E call (Tryd.bk.inf 25) lf Tryd.f25 args A = some r → call2 25 args A = some r) : LenOK call2 := by
  intro P A all g ct V hw hI hl
  obtain ⟨a, c, rfl⟩ := hI.form
  obtain ⟨A', r1, r2, r3, r4⟩ := step_len h hw hI.gl lf (a2 := none) (c2 := 0) (m2 := 0) hI.pipe hI.bs 0 (by omega)
  exact ⟨A', h25 _ _ _ r1, r2, ⟨⟨a, c, rfl⟩, r4, r2.typ hw hI.pipe hI.typ, hI.bytes, hI.gl, r3⟩⟩

theorem step_ok {call call2 : CallT} {N : Nat} (h : StepFns call N) (lf : Nat) (h25 : ∀ args A r, kfn Tryd.bk.E call (Tryd.bk.inf 25) lf Tryd.f25 args A = some r → call2 25 args A = some r) : StepOK call2 N := by
  intro P A all g ct V hw hI a2 c2 us k n hus hB hn hl hN
  obtain ⟨a, c, rfl⟩ := hI.form
  by_cases h1 : k = 1
  · subst h1
    cases ct with
    | true =>
      obtain ⟨A', r1, r2, r3, r4⟩ := step_put_cut h hw lf hI.pipe hI.bs hus hB n (by omega)
      exact ⟨all, g, true, _, A', h25 _ _ _ r1, r2, ⟨⟨a, c, rfl⟩, r4, r2.typ hw hI.pipe hI.typ, hI.bytes, hI.gl, r3⟩, by omega⟩
    | false =>
      obtain ⟨V', A', r1, r2, r3, r4, r5⟩ := step_put h hw hI.bytes hI.gl lf hI.pipe hI.bs hus hB n hl hN
      have hgl := hI.gl
      refine ⟨all ++ us, g, false, V', A', h25 _ _ _ r1, r2, ⟨r4.form, r4, r5, hI.bytes.append hus, by rw [List.length_append]; omega, r3⟩, by rw [List.length_append]; exact Nat.le_refl _⟩
  · by_cases h2 : k = 2
    · subst h2
      obtain ⟨g', A', r1, r2, r3, r4, r5⟩ := step_move h hw hI.bytes hI.gl lf hI.pipe hI.bs n hn (by omega) (by omega)
      exact ⟨all, g', ct, _, A', h25 _ _ _ r1, r3, ⟨⟨a, c, rfl⟩, r5, r3.typ hw hI.pipe hI.typ, hI.bytes, r2, r4⟩, by omega⟩
    · by_cases h3 : k = 3
      · subst h3
        obtain ⟨A', r1, r2, r3, r4⟩ := step_len h hw hI.gl lf hI.pipe hI.bs n (by omega)
        exact ⟨all, g, ct, _, A', h25 _ _ _ r1, r2, ⟨⟨a, c, rfl⟩, r4, r2.typ hw hI.pipe hI.typ, hI.bytes, hI.gl, r3⟩, by omega⟩
      · by_cases h4 : k = 4
        · subst h4
          obtain ⟨A', r1, r2, r3, r4⟩ := step_cut h hw hI.gl lf hI.pipe hI.bs n (by omega)
          exact ⟨all, g, true, _, A', h25 _ _ _ r1, r2, ⟨⟨a, c, rfl⟩, r4, r2.typ hw hI.pipe hI.typ, hI.bytes, hI.gl, r3⟩, by omega⟩
        · obtain ⟨A', r1, r2, r3, r4⟩ := step_none hw lf hI.pipe hI.bs k n h1 h2 h3 h4
          exact ⟨all, g, ct, _, A', h25 _ _ _ r1, r2, ⟨⟨a, c, rfl⟩, r4, r2.typ hw hI.pipe hI.typ, hI.bytes, hI.gl, r3⟩, by omega⟩

theorem T4_fns {base : CallT} (hw : ∀ A, base 12 [] A = some (.bool true, A)) (h0 : ∀ A, base 27 [.nilIface] A = some (.int .i64 0, A)) (h27 : ∀ A, base 27 [cutIf] A = some (.int .i64 27, A))
    (hn : ∀ f args A, f ∈ [15, 28, 30, 57, 58] → base f args A = none) (n : Nat) : StepFns (callD Tryd.bk (T4 base) (n + 2)) (n + 1) := by
  have left : ∀ k, LeftOK (callD Tryd.bk (T4 base) (k + 1)) := fun k A a m c g ct hg hm => callD_of (hn 57 _ _ (by simp)) (fn := Tryd.f57) rfl (left_walk k A a m c g ct hg hm)
  have p1 : PipeFns (callD Tryd.bk (T4 base) (n + 2)) := by
    refine ⟨fun A => callD_base (show T4 base 12 [] A = _ from hw A) _, fun h => callD_base ?_ _, fun h => callD_base ?_ _, fun hw' hx hl => callD_of (hn 15 _ _ (by simp)) (fn := Tryd.f15) rfl (copied_exact _ hw' hx hl), fun h => callD_base ?_ _, fun h => callD_base ?_ _, fun h => callD_base ?_ _, fun h => callD_base ?_ _⟩
    · exact byRel_of h fun r' h' => h.one h'
    · exact byRel_of (PutR2.put h) fun r' h' => (PutR2.put h).one h'
    · exact byRel_of h fun r' h' => h.one h'
    · exact byRel_of h fun r' h' => h.one h'
    · exact byRel_of h fun r' h' => h.one h'
    · exact byRel_of h fun r' h' => h.one h'
  refine ⟨p1, fun h => callD_base ?_ _, fun h => callD_base ?_ _, fun A => callD_base (show T4 base 27 _ A = _ from h0 A) _, fun A => callD_base (show T4 base 27 _ A = _ from h27 A) _, left _, fun hw hV hall hb hus hl hlf => ?_, fun b hw => ?_, fun n' hw hV hall hg hm hlf => ?_, fun a m c g ct hw hg hm => ?_⟩
  · exact byRel_of h fun r' h' => h.one h'
  · exact byRel_of h fun r' h' => h.one h'
  · obtain ⟨V', A', r1, r2⟩ := refput_walk (call := callD Tryd.bk (T4 base) (n + 1)) (n + 1) hw hV hall hb hus hl hlf
    exact ⟨V', A', callD_of (hn 28 _ _ (by simp)) (fn := Tryd.f28) rfl r1, r2⟩
  · obtain ⟨A', r1, r2⟩ := refput_cut (call := callD Tryd.bk (T4 base) (n + 1)) (n + 1) hw b
    exact ⟨A', callD_of (hn 28 _ _ (by simp)) (fn := Tryd.f28) rfl r1, r2⟩
  · obtain ⟨V', A', r1, r2⟩ := refmove_walk (left n) (n + 1) hw _ _ _ _ hV hall hg hm n' hlf
    exact ⟨V', A', callD_of (hn 30 _ _ (by simp)) (fn := Tryd.f30) rfl r1, r2⟩
  · obtain ⟨A', r1, r2⟩ := break_walk (left n) (n + 1) hw a m c g ct hg hm
    exact ⟨A', callD_of (hn 58 _ _ (by simp)) (fn := Tryd.f58) rfl r1, r2⟩
end Go.Dn.Pipe
end

section
/-
  arguments that are slices, read
-/
namespace Go.Dn

/-- an argument's slice -/
inductive ArgSl (e sz : Nat) (A : Hp) : Value → List Value → Nat → Prop
  | nil (c : Nat) (hc : c ≤ 1) : ArgSl e sz A (.slice none 0 c) [] 0
  | at (id n : Nat) (us : List Value) (hg : A.get id = some (.arr e us .sh)) (hl : us.length = n * sz) : ArgSl e sz A (.slice (some ⟨id, 0, some sz⟩) n (2 * n)) us n

theorem ArgSl.len {e sz : Nat} {A : Hp} {v : Value} {us : List Value} {n : Nat} (h : ArgSl e sz A v us n) : us.length = n * sz := by
  cases h with
  | nil => simp
  | «at» _ _ _ _ hl => exact hl
theorem ArgSl.keep {e sz : Nat} {A A' : Hp} {v : Value} {us : List Value} {n : Nat} (h : ArgSl e sz A v us n) (hk : ∀ i o, A.get i = some o → A'.get i = some o) : ArgSl e sz A' v us n := by
  cases h with
  | nil c hc => exact .nil c hc
  | «at» id _ us hg hl => exact .at id n us (hk _ _ hg) hl

theorem ArgR.sl {H : Type} {T : TT} {A : Hp} {t e : TypeId} {d : DataW H} {cs : List Value} {i j : TI} (h : ArgR T A t d cs) (ht : T t = some i) (hd : i.d = .slice e) (he : T e = some j) :
    ∃ v, ∃ css : List (List Value), ∃ els, cs = [v] ∧ ArgSl e j.size A v css.flatten css.length ∧ els.length = css.length ∧ (d = .nil ∧ els = [] ∨ ∃ sp, d = .slice els sp) ∧
      (∀ (k : Nat) d c, els[k]? = some d → css[k]? = some c → ArgR T A e d c) ∧ (∀ (k : Nat) c, css[k]? = some c → c.length = j.size) ∧ css.length ≤ maxLen := by
  obtain ⟨a, css, els, c, z0, z1, z2, z3, z4, z5, z6, z7⟩ := h.slice_inv ht hd he
  subst z0
  refine ⟨_, css, els, rfl, ?_, z2, z4, z6, z5, z3⟩
  rcases z7 with ⟨rfl, rfl, hc⟩ | ⟨id, rfl, rfl, hg⟩
  · exact .nil c hc
  · exact .at id _ _ hg (flat_len css j.size z5)

theorem flat_one : ∀ {css : List (List Value)}, (∀ (k : Nat) c, css[k]? = some c → c.length = 1) → ∀ (j : Nat) (x : Value), css.flatten[j]? = some x → css[j]? = some [x]
  | [], _, j, x, h => by simp at h
  | c :: css, hl, j, x, h => by
    obtain ⟨y, rfl⟩ : ∃ y, c = [y] := by
      have := hl 0 c rfl
      match c, this with
      | [y], _ => exact ⟨y, rfl⟩
    cases j with
    | zero =>
      simp at h
      subst h
      rfl
    | succ j =>
      simp only [List.flatten_cons, List.cons_append, List.nil_append, List.getElem?_cons_succ] at h ⊢
      exact flat_one (fun k c hk => hl (k + 1) c (by simpa using hk)) j x h

/-- what a slice of numbers holds -/
theorem ints_of {H : Type} {T : TT} {A : Hp} {e : TypeId} {i : TI} {k : IntKind} (he : T e = some i) (hd : i.d = .int k) {css : List (List Value)} {els : List (DataW H)} (h1 : els.length = css.length)
    (h2 : ∀ (j : Nat) d c, els[j]? = some d → css[j]? = some c → ArgR T A e d c) (h3 : ∀ (j : Nat) c, css[j]? = some c → c.length = 1) : ∀ (j : Nat) x, css.flatten[j]? = some x → ∃ n, x = .int k n ∧ (Lit.int k n).wf = true := by
  intro j x hx
  have hc := flat_one h3 j x hx
  have hj : j < els.length := by rw [h1]; exact (List.getElem?_eq_some_iff.1 hc).1
  obtain ⟨n, _, e2, e3⟩ := (h2 j _ _ (List.getElem?_eq_getElem hj) hc).int_inv he hd
  cases e2
  exact ⟨n, rfl, e3⟩
end Go.Dn
namespace Go.Dn
/-- a row of a table -/
theorem flat_row : ∀ {css : List (List Value)} {sz : Nat}, (∀ (k : Nat) c, css[k]? = some c → c.length = sz) → ∀ (k : Nat) (c : List Value), css[k]? = some c → k * sz + sz ≤ css.flatten.length ∧ (css.flatten.drop (k * sz)).take sz = c
  | [], _, _, k, c, h => by simp at h
  | r :: css, sz, hl, k, c, h => by
    have hr := hl 0 r rfl
    cases k with
    | zero =>
      simp at h
      subst h
      simp only [Nat.zero_mul, List.drop_zero, List.flatten_cons, List.length_append, Nat.zero_add]
      refine ⟨by omega, ?_⟩
      rw [← hr, List.take_left]
    | succ k =>
      simp only [List.getElem?_cons_succ] at h
      obtain ⟨h1, h2⟩ := flat_row (sz := sz) (fun j c hj => hl (j + 1) c (by simpa using hj)) k c h
      simp only [List.flatten_cons, List.length_append, hr, Nat.add_mul, Nat.one_mul]
      refine ⟨by omega, ?_⟩
      rw [show k * sz + sz = r.length + k * sz by omega, List.drop_append, List.drop_eq_nil_of_le (by omega), List.nil_append]
      rw [show r.length + k * sz - r.length = k * sz by omega]
      exact h2
end Go.Dn
end

section
/-
  'PipePlays', run
-/
namespace Go.Dn.Pipe
open Go.Proofs
set_option maxHeartbeats 4000000
set_option maxRecDepth 100000
attribute [local irreducible] Hp.get Hp.set Hp.push dappend dcopy dstore cellsAt callD loopD dstring guardL hideL backL

/-- one op of a script -/
structure OpX where
  k : Int
  us : List Value
  a : Option Addr
  c : Nat
  n : Int
def OpX.cells (o : OpX) : List Value := [.int .i64 o.k, .slice o.a o.us.length o.c, .int .i64 o.n]
structure OpX.ok (A : Hp) (o : OpX) : Prop where
  bs : BsAt A (.slice o.a o.us.length o.c) o.us
  bytes : IsB o.us
  nb : o.n ≤ 9223372036854775807
def sumL (ops : List OpX) : Nat := (ops.map fun o => o.us.length).sum

/-- a call while a new object is hidden, and back -/
theorem hidden_call {P : Nat} {A : Hp} (hw : A.wf) (hP : P < A.next) (ob : Ob) :
    (guardL (hideL (A.push ob) [A.next]) []).wf ∧ (guardL (hideL (A.push ob) [A.next]) []).next = A.next + 1 ∧ KP P A (guardL (hideL (A.push ob) [A.next]) []) ∧ (guardL (hideL (A.push ob) [A.next]) []).get P = A.get P ∧
      ∀ B', KP P (guardL (hideL (A.push ob) [A.next]) []) B' → KP P A (backL (A.push ob) (backL (A.push ob) B' []) [A.next]) ∧ (backL (A.push ob) (backL (A.push ob) B' []) [A.next]).get P = B'.get P ∧
        (backL (A.push ob) (backL (A.push ob) B' []) [A.next]).get A.next = some ob ∧ (∀ V us, BsAt B' V us → BsAt (backL (A.push ob) (backL (A.push ob) B' []) [A.next]) V us) ∧ ∀ V, Typ5 B' V → Typ5 (backL (A.push ob) (backL (A.push ob) B' []) [A.next]) V := by
  have hget : ∀ j, (guardL (hideL (A.push ob) [A.next]) []).get j = if j = A.next then none else (A.push ob).get j := by
    intro j
    rw [guardL_get, if_neg List.not_mem_nil, hideL_get]
    simp
  have hnx : (guardL (hideL (A.push ob) [A.next]) []).next = A.next + 1 := by rw [guardL_next, hideL_next, Hp.next_push]
  have hold : ∀ j, j < A.next → (guardL (hideL (A.push ob) [A.next]) []).get j = A.get j := fun j hj => by
    rw [hget, if_neg (by omega), Hp.get_push_ne _ _ (by omega)]
  have hwf : (guardL (hideL (A.push ob) [A.next]) []).wf := by
    intro j hj
    rw [hnx] at hj
    rw [hget]
    split
    · rfl
    · exact (hw.push ob) j (by simp; omega)
  refine ⟨hwf, hnx, ⟨hwf, by omega, fun j hj _ => hold j hj⟩, hold P hP, fun B' hk => ?_⟩
  have hback : ∀ j, (backL (A.push ob) (backL (A.push ob) B' []) [A.next]).get j = if j = A.next then some ob else B'.get j := by
    intro j
    rw [backL_get, backL_get, if_neg List.not_mem_nil]
    by_cases e : j = A.next
    · subst e; simp [Hp.get_push_same]
    · simp [e]
  have hbn : (backL (A.push ob) (backL (A.push ob) B' []) [A.next]).next = B'.next := by rw [backL_next, backL_next]
  have hBn := hk.nx
  rw [hnx] at hBn
  have hno : B'.get A.next = none := by
    rw [hk.old A.next (by omega) (by omega), hget, if_pos rfl]
  refine ⟨⟨fun j hj => ?_, by rw [hbn]; omega, fun j hj hjP => ?_⟩, ?_, ?_, fun V us hV => ?_, fun V hV => ?_⟩
  · rw [hbn] at hj
    rw [hback, if_neg (by omega)]
    exact hk.wf j hj
  · rw [hback, if_neg (by omega), hk.old j (by omega) hjP, hold j hj]
  · rw [hback, if_neg (by omega)]
  · rw [hback, if_pos rfl]
  · refine hV.keep fun j o hj _ => ?_
    rw [hback, if_neg]
    rintro rfl
    rw [hno] at hj
    cases hj
  · refine hV.keep fun j cs md hj => ?_
    rw [hback, if_neg]
    rintro rfl
    rw [hno] at hj
    cases hj

section
variable {call : CallT} {N : Nat} (hS : StepOK call N) (hL : LenOK call) {A0 : Hp} {P : Nat} (hPl : P < A0.next) (hw0 : A0.wf) {ops : List OpX} (hops : ∀ o ∈ ops, o.ok A0) {ib : Nat} (hib : A0.get ib = some (.arr 54 (ops.map OpX.cells).flatten .sh)) (hibP : ib ≠ P) {X : Dat} (hP0 : A0.get P = some (.abs 1 X))
include hS hL hPl hw0 hops hib hibP hP0

theorem plays_round (lf : Nat) {A : Hp} {all : List Value} {g : Nat} {ct : Bool} {V : Value} {c : Nat} {i : Nat} (hk : KP P A0 A) (hI : PW P all g ct V A) (hq : A.get A0.next = some (.arr 50 [V, .int .i64 g, .bool ct] .own)) (hi : i < ops.length) (hm : ops.length ≤ 1048576) (hb : all.length + sumL (ops.drop i) ≤ 100000000) (hN : all.length + sumL (ops.drop i) < N) :
    ∃ σ1 A1 all' g' ct' V', exec Tryd.bk.E call Tryd.f5.ntmps (Tryd.bk.inf 5) lf (loopOf Tryd.f5 0) [(0, .slice (some ⟨ib, 0, some 3⟩) ops.length c), (2, .bool false), (3, ptr P), (4, ptr A0.next), (5, .int .i64 (i : Nat))] A = some (.normal, σ1, A1) ∧
      keepSl (some [0, 2, 3, 4, 5]) σ1 = [(0, .slice (some ⟨ib, 0, some 3⟩) ops.length c), (2, .bool false), (3, ptr P), (4, ptr A0.next), (5, .int .i64 (i + 1 : Nat))] ∧ KP P A0 A1 ∧ PW P all' g' ct' V' A1 ∧ A1.get A0.next = some (.arr 50 [V', .int .i64 g', .bool ct'] .own) ∧
      all'.length + sumL (ops.drop (i + 1)) ≤ all.length + sumL (ops.drop i) := by
  obtain ⟨o, ho⟩ : ∃ o, ops[i]? = some o := ⟨_, List.getElem?_eq_getElem hi⟩
  have hok := hops o (List.mem_of_getElem? ho)
  have hgi : A.get ib = some (.arr 54 (ops.map OpX.cells).flatten .sh) := by rw [hk.old ib (hw0.lt hib) hibP]; exact hib
  obtain ⟨f1, f2⟩ := flat_row (css := ops.map OpX.cells) (sz := 3) (fun k c hc => by
    rw [List.getElem?_map] at hc
    cases hh : ops[k]? with
    | none => rw [hh] at hc; cases hc
    | some x => rw [hh] at hc; cases hc; rfl) i o.cells (by rw [List.getElem?_map, ho]; rfl)
  have hcell : cellsIn (ops.map OpX.cells).flatten (0 + i * 3) 3 = some o.cells := cellsIn_of (by omega) (by rw [Nat.zero_add]; exact f2)
  have e1 : ((i : Nat) : Int) < ((ops.length : Nat) : Int) := by omega
  obtain ⟨k, us, a2, c2, n⟩ := o
  have hsum : sumL (ops.drop i) = us.length + sumL (ops.drop (i + 1)) := by
    rw [List.drop_eq_getElem_cons hi]
    have : ops[i] = ⟨k, us, a2, c2, n⟩ := by
      rw [List.getElem?_eq_getElem hi] at ho
      exact Option.some.inj ho
    rw [this]
    rfl
  have hPA : P < A.next := by have := hk.nx; omega
  have hqA : A0.next < A.next := hk.wf.lt hq
  have hokB : IsB us := hok.bytes
  have hokn : n ≤ 9223372036854775807 := hok.nb
  let Z : Ob := .arr 50 [.slice none 0 0, .int .i64 0, .bool false] .own
  let B : Hp := guardL (hideL (A.push Z) [A.next]) []
  obtain ⟨x1, x2, x3, x4, x5⟩ := hidden_call hk.wf hPA Z
  have kB : KP P A0 B := hk.trans x3
  have hBu : BsAt B (.slice a2 us.length c2) us := kB.bs hw0 hP0 hok.bs
  obtain ⟨all1, g1, ct1, V1, B1, s1, s2, s3, s4⟩ := hS x1 ⟨hI.form, x3.bs hk.wf hI.pipe hI.bs, x3.typ hk.wf hI.pipe hI.typ, hI.bytes, hI.gl, x4.trans hI.pipe⟩ k n hokB hBu hokn (by omega) (by omega)
  obtain ⟨y1, y2, y3, y4, y5⟩ := x5 B1 s2
  obtain ⟨av, cv, rfl⟩ := s3.form
  let D : Hp := backL (A.push Z) (backL (A.push Z) B1 []) [A.next]
  let W : List Value := [.slice av all1.length cv, .int .i64 g1, .bool ct1]
  let E1 : Hp := D.set A.next (some (.arr 50 W .own))
  let E2 : Hp := E1.set A0.next (some (.arr 50 W .own))
  have hqD : D.get A0.next = some (.arr 50 [V, .int .i64 g, .bool ct] .own) := by rw [y1.old _ hqA (by omega)]; exact hq
  have hqE1 : E1.get A0.next = some (.arr 50 [V, .int .i64 g, .bool ct] .own) := by rw [Hp.get_set_ne _ _ (by omega)]; exact hqD
  have hE1w : E1.wf := y1.wf.put y3 _
  have hE2w : E2.wf := hE1w.put hqE1 _
  have hVD := y4 _ _ s3.bs
  have hTD := y5 _ s3.typ
  have hVE1 := hVD.set5 hTD (q := A.next) (fun cs md e => by rw [y3] at e; simp [Z] at e) (some (.arr 50 W .own))
  have hTE1 := hTD.set5 (q := A.next) (fun cs md e => by rw [y3] at e; simp [Z] at e) (some (.arr 50 W .own))
  have hVE2 := hVE1.set5 hTE1 (q := A0.next) (fun cs md e => by rw [hqE1] at e; cases e) (some (.arr 50 W .own))
  have hTE2 := hTE1.set5 (q := A0.next) (fun cs md e => by rw [hqE1] at e; cases e) (some (.arr 50 W .own))
  have hPE2 : E2.get P = some (.abs 1 (pxOf all1 g1 ct1).dat) := by
    rw [Hp.get_set_ne _ _ (by omega), Hp.get_set_ne _ _ (by omega), y2]; exact s3.pipe
  have kE2 : KP P A0 E2 := ((hk.trans y1).set y3 (by omega) _).set hqE1 (Nat.le_refl _) _
  obtain ⟨F1, u1, u2, u3⟩ := hL hE2w ⟨⟨av, cv, rfl⟩, hVE2, hTE2, s3.bytes, s3.gl, hPE2⟩ (by omega)
  have kF : KP P A0 F1 := kE2.trans u2
  have hDn : A.next ≤ D.next := y1.nx
  have n2 : E2.next = D.next := by simp [E2, E1]
  have hqF : F1.get A0.next = some (.arr 50 W .own) := by rw [u2.old _ (by rw [n2]; omega) (by omega)]; exact Hp.get_set_same _ _ _
  let G : Hp := (F1.push Z).set F1.next (some (.arr 50 W .own))
  have kG : KP P A0 G := (kF.trans ((Kp.push u2.wf Z).toP P)).set (Hp.get_push_same _ _) kF.nx _
  have oG : ∀ j, j < F1.next → G.get j = F1.get j := fun j hj => by
    rw [Hp.get_set_ne _ _ (by omega), Hp.get_push_ne _ _ (by omega)]
  have hw2 : IntKind.i64.wrap ((i : Int) + 1) = ((i + 1 : Nat) : Int) := by rw [wrap64 (by omega) (by omega)]; omega
  have hqFl := u2.wf.lt hqF
  refine ⟨?s, G, all1, g1, ct1, .slice av all1.length cv, kexec_run ?run, ?kp, kG, ⟨⟨av, cv, rfl⟩, u3.bs.old u2.wf oG, u3.typ.keep fun j cs md hg => oG j (u2.wf.lt hg), s3.bytes, s3.gl, (oG P (by omega)).trans u3.pipe⟩, (oG _ hqFl).trans hqF, by omega⟩
  case run =>
    conv => lhs; whnf
    rw [kdec e1]
    conv => lhs; whnf
    refine bind_of (cellsAt_of hq _ _) ?_
    conv => lhs; whnf
    rw [kdec e1]
    conv => lhs; whnf
    refine bind_of ((cellsAt_of hgi _ _).trans hcell) ?_
    conv => lhs; whnf
    refine bind_of s1 ?_
    conv => lhs; whnf
    refine bind_of (dstore_of y3 (t := 50) (o := 0) (cs' := W) rfl) ?_
    conv => lhs; whnf
    refine bind_of (cellsAt_of (A := E1) (i := A.next) (Hp.get_set_same _ _ _) 0 3) ?_
    conv => lhs; whnf
    refine bind_of (dstore_of hqE1 (t := 50) (o := 0) (cs' := W) rfl) ?_
    conv => lhs; whnf
    refine bind_of (cellsAt_of (A := E2) (i := A0.next) (Hp.get_set_same _ _ _) 0 3) ?_
    conv => lhs; whnf
    refine bind_of u1 ?_
    conv => lhs; whnf
    refine bind_of (dstore_of (Hp.get_push_same _ _) (t := 50) (o := 0) (cs' := W) rfl) ?_
    conv => lhs; whnf
    rfl
  case kp =>
    show [_, _, _, _, (5, Value.int .i64 (IntKind.i64.wrap ((i : Int) + 1)))] = _
    rw [hw2]

structure PS where
  i : Nat
  all : List Value
  g : Nat
  ct : Bool
  v : Value

omit hS hL hPl hw0 hops hib hibP hP0 in
theorem plays_end (lf : Nat) {A : Hp} (a : Option Addr) (m c i : Nat) (V3 V4 : Value) (hi : ¬ i < m) :
    ∃ σ1, exec Tryd.bk.E call Tryd.f5.ntmps (Tryd.bk.inf 5) lf (loopOf Tryd.f5 0) [(0, .slice a m c), (2, .bool false), (3, V3), (4, V4), (5, .int .i64 (i : Nat))] A = some (.exit 0, σ1, A) ∧
      keepSl (some [0, 2, 3, 4, 5]) σ1 = [(0, .slice a m c), (2, .bool false), (3, V3), (4, V4), (5, .int .i64 (i : Nat))] := by
  have e1 : ¬ ((i : Nat) : Int) < ((m : Nat) : Int) := by omega
  refine ⟨?s, kexec_run ?run, ?kp⟩
  case run =>
    conv => lhs; whnf
    rw [kdecn e1]
  case kp => rfl

theorem plays_loop (lf : Nat) {A : Hp} {c : Nat} {V : Value} (hk : KP P A0 A) (hI : PW P [] 0 false V A) (hq : A.get A0.next = some (.arr 50 [V, .int .i64 ((0 : Nat) : Int), .bool false] .own)) (hm : ops.length ≤ 1048576) (hb : sumL ops ≤ 100000000) (hN : sumL ops < N) (hlf : ops.length < lf) :
    ∃ A1 V5, loopD (some [0, 2, 3, 4, 5]) (exec Tryd.bk.E call Tryd.f5.ntmps (Tryd.bk.inf 5) lf (loopOf Tryd.f5 0)) lf [(0, .slice (some ⟨ib, 0, some 3⟩) ops.length c), (2, .bool false), (3, ptr P), (4, ptr A0.next), (5, .int .i64 ((0 : Nat) : Int))] A =
      some (.exit 0, [(0, .slice (some ⟨ib, 0, some 3⟩) ops.length c), (2, .bool false), (3, ptr P), (4, ptr A0.next), (5, V5)], A1) := by
  have key := loop_rule (ks := some [0, 2, 3, 4, 5]) (f := exec Tryd.bk.E call Tryd.f5.ntmps (Tryd.bk.inf 5) lf (loopOf Tryd.f5 0)) (S := PS)
    (fun s => [(0, .slice (some ⟨ib, 0, some 3⟩) ops.length c), (2, .bool false), (3, ptr P), (4, ptr A0.next), (5, .int .i64 (s.i : Nat))])
    (fun s A => s.i ≤ ops.length ∧ KP P A0 A ∧ PW P s.all s.g s.ct s.v A ∧ A.get A0.next = some (.arr 50 [s.v, .int .i64 s.g, .bool s.ct] .own) ∧ s.all.length + sumL (ops.drop s.i) ≤ sumL ops) (fun s => ops.length - s.i)
    (fun e σ A1 => e = .exit 0 ∧ ∃ V5, σ = [(0, .slice (some ⟨ib, 0, some 3⟩) ops.length c), (2, .bool false), (3, ptr P), (4, ptr A0.next), (5, V5)]) (fun s A hs => ?_)
    lf ⟨0, [], 0, false, V⟩ A ⟨Nat.zero_le _, hk, hI, hq, by simp⟩ (by simp only; omega)
  · obtain ⟨e, σ1, A1, k1, rfl, V5, rfl⟩ := key
    exact ⟨A1, V5, k1⟩
  · obtain ⟨i, all, g, ct, v⟩ := s
    obtain ⟨z1, z2, z3, z4, z5⟩ := hs
    simp only at z1 z2 z3 z4 z5 ⊢
    by_cases him : i < ops.length
    · obtain ⟨σ1, A1, all', g', ct', V', r1, r2, r3, r4, r5, r6⟩ := plays_round hS hL hPl hw0 hops hib hibP hP0 lf (c := c) z2 z3 z4 him hm (by omega) (by omega)
      exact ⟨.normal, σ1, A1, r1, .inl ⟨rfl, ⟨i + 1, all', g', ct', V'⟩, r2, ⟨him, r3, r4, r5, by simp only; omega⟩, by simp only; omega⟩⟩
    · obtain ⟨σ1, r1, r2⟩ := plays_end (call := call) lf (A := A) (some ⟨ib, 0, some 3⟩) ops.length c i (ptr P) (ptr A0.next) him
      exact ⟨.exit 0, σ1, A, r1, .inr ⟨by simp, rfl, _, r2⟩⟩
end

theorem loop_out {ks : Option (List Nat)} {f : Sl → Hp → Option (Ex × Sl × Hp)} {n : Nat} {σ σ1 : Sl} {A A1 : Hp} {e : Ex} (h : f σ A = some (e, σ1, A1)) (he : e ≠ .normal) (hn : 0 < n) : loopD ks f n σ A = some (e, keepSl ks σ1, A1) := by
  obtain ⟨m, rfl⟩ : ∃ m, n = m + 1 := ⟨n - 1, by omega⟩
  exact loopD_out h he

theorem plays_walk {call : CallT} {N : Nat} (hp : PipeFns call) (hS : StepOK call N) (hL : LenOK call) {A : Hp} (hw : A.wf) {ops : List OpX} (hops : ∀ o ∈ ops, o.ok A) {a : Option Addr} {c : Nat} (hv : ArgSl 54 3 A (.slice a ops.length c) (ops.map OpX.cells).flatten ops.length)
    (hm : ops.length ≤ 1048576) (hb : sumL ops ≤ 100000000) (hN : sumL ops < N) (lf : Nat) (hlf : ops.length < lf) :
    ∃ A', kfn Tryd.bk.E call (Tryd.bk.inf 5) lf Tryd.f5 [.slice a ops.length c] A = some (.bool true, A') := by
  have hnew := hp.new (NewR.mk A)
  let A1 : Hp := A.push (.abs 1 PX.new.dat)
  let Z : List Value := [.slice none 0 0, .int .i64 ((0 : Nat) : Int), .bool false]
  let A2 : Hp := (A1.push (.arr 50 Z .own)).set A1.next (some (.arr 50 Z .own))
  have hw1 : A1.wf := hw.push _
  have hn1 : A1.next = A.next + 1 := by simp [A1]
  have hP1 : A1.get A.next = some (.abs 1 PX.new.dat) := Hp.get_push_same _ _
  have k1 : KP A.next A1 A2 := ((Kp.push hw1 (.arr 50 Z .own)).toP A.next).set (Hp.get_push_same _ _) (Nat.le_refl _) _
  have old : ∀ j, j < A.next → A1.get j = A.get j := fun j hj => Hp.get_push_ne _ _ (by omega)
  have hI : PW A.next [] 0 false (.slice none 0 0) A2 := ⟨⟨none, 0, rfl⟩, .nil 0 (by omega), fun i hi => by simp [blkOf] at hi, fun j x hx => by simp at hx, Nat.le_refl _, by
    rw [Hp.get_set_ne _ _ (by omega), Hp.get_push_ne _ _ (by omega)]; exact hP1⟩
  have hq : A2.get A1.next = some (.arr 50 Z .own) := Hp.get_set_same _ _ _
  have key : ∃ A3 V5, loopD (some [0, 2, 3, 4, 5]) (exec Tryd.bk.E call Tryd.f5.ntmps (Tryd.bk.inf 5) lf (loopOf Tryd.f5 0)) lf [(0, .slice a ops.length c), (2, .bool false), (3, ptr A.next), (4, ptr A1.next), (5, .int .i64 ((0 : Nat) : Int))] A2 =
      some (.exit 0, [(0, .slice a ops.length c), (2, .bool false), (3, ptr A.next), (4, ptr A1.next), (5, V5)], A3) := by
    generalize hv0 : (Value.slice a ops.length c) = v0 at hv
    generalize hfl : (ops.map OpX.cells).flatten = fl at hv
    generalize hol : ops.length = ol at hv hv0
    cases hv with
    | nil cc hc =>
      cases hv0
      obtain ⟨σ1, r1, r2⟩ := plays_end (call := call) lf (A := A2) none 0 c 0 (ptr A.next) (ptr A1.next) (by omega)
      have := loop_out (ks := some [0, 2, 3, 4, 5]) r1 (by simp) (n := lf) (by omega)
      rw [r2] at this
      exact ⟨A2, _, this⟩
    | «at» id _ _ hg hl =>
      cases hv0
      subst hol hfl
      have hidl := hw.lt hg
      exact plays_loop hS hL (A0 := A1) (P := A.next) (by omega) hw1 (fun o ho => ⟨(hops o ho).bs.old hw old, (hops o ho).bytes, (hops o ho).nb⟩) (ib := id) (by rw [old id hidl]; exact hg) (by omega) hP1 lf k1 hI hq hm hb hN hlf
  obtain ⟨A3, V5, l1⟩ := key
  refine ⟨A3, ?run⟩
  case run =>
    conv => lhs; whnf
    refine bind_of (hp.wakes _) ?_
    conv => lhs; whnf
    refine bind_of hnew ?_
    conv => lhs; whnf
    refine bind_of (dstore_of (Hp.get_push_same _ _) (t := 50) (o := 0) (cs' := Z) rfl) ?_
    conv => lhs; whnf
    refine bind_of l1 ?_
    conv => lhs; whnf
    rfl
end Go.Dn.Pipe
end

section
/-
  the document's buffer (layer 6): Len, Put
-/
namespace Go.Dn.Pipe
open Go.Proofs
set_option maxHeartbeats 4000000
set_option maxRecDepth 100000
attribute [local irreducible] Hp.get Hp.set Hp.push dappend dcopy dstore cellsAt callD loopD

theorem elS : ElT Tryd.bk.E 59 22 1 24 := ⟨⟨_, rfl, rfl⟩, ⟨_, _, rfl, rfl, rfl, rfl, rfl⟩, by decide⟩
theorem elS2 : ∃ i e2, Tryd.bk.E.T 59 = some i ∧ i.d = .slice e2 := ⟨_, _, rfl, rfl⟩

theorem blk_can {e : TypeId} {A : Hp} {v : Value} {io : Option Nat} {us : List Value} {n : Nat} (h : CanAt e 1 A v io us n) : ∀ j, io = some j ↔ j ∈ blkOf v := by
  intro j
  cases h with
  | nil => simp [blkOf]
  | «at» i _ _ hg hl hp =>
    simp only [blkOf, List.mem_singleton, Option.some.injEq]
    exact eq_comm

/-- pieces of bytes, each in its plainest form -/
def Pcs (A : Hp) (vs : List Value) (fs : List (List Value)) : Prop := vs.length = fs.length ∧ ∀ (k : Nat) v us, vs[k]? = some v → fs[k]? = some us → ∃ iv, CanAt 5 1 A v (some iv) us us.length

theorem Pcs.keep {A A' : Hp} {vs : List Value} {fs : List (List Value)} (h : Pcs A vs fs) (hk : ∀ v ∈ vs, ∀ j ∈ blkOf v, A'.get j = A.get j) : Pcs A' vs fs := by
  refine ⟨h.1, fun k v us h1 h2 => ?_⟩
  obtain ⟨iv, hc⟩ := h.2 k v us h1 h2
  exact ⟨iv, hc.keep fun j hj => hk v (List.mem_of_getElem? h1) j ((blk_can hc j).1 hj)⟩
theorem Pcs.lt {A : Hp} (hw : A.wf) {vs : List Value} {fs : List (List Value)} (h : Pcs A vs fs) : ∀ v ∈ vs, ∀ j ∈ blkOf v, j < A.next := by
  intro v hv j hj
  obtain ⟨k, hk⟩ := List.getElem?_of_mem hv
  have hkl : k < fs.length := by rw [← h.1]; exact (List.getElem?_eq_some_iff.1 hk).1
  obtain ⟨iv, hc⟩ := h.2 k v _ hk (List.getElem?_eq_getElem hkl)
  have := (blk_can hc j).2 hj
  cases this
  exact hc.lt hw
theorem Pcs.old {A A' : Hp} {vs : List Value} {fs : List (List Value)} (h : Pcs A vs fs) (hw : A.wf) (hk : Kp A A') : Pcs A' vs fs :=
  h.keep fun v hv j hj => hk.old j (h.lt hw v hv j hj)
theorem Pcs.plus {A : Hp} {vs : List Value} {fs : List (List Value)} (h : Pcs A vs fs) {v : Value} {us : List Value} {iv : Nat} (hc : CanAt 5 1 A v (some iv) us us.length) : Pcs A (vs ++ [v]) (fs ++ [us]) := by
  refine ⟨by simp [h.1], fun k x ws h1 h2 => ?_⟩
  by_cases hk : k < vs.length
  · rw [List.getElem?_append_left hk] at h1
    rw [List.getElem?_append_left (by rw [← h.1]; exact hk)] at h2
    exact h.2 k x ws h1 h2
  · have : k = vs.length := by
      have := (List.getElem?_eq_some_iff.1 h1).1
      simp at this
      omega
    subst this
    rw [List.getElem?_append_right (Nat.le_refl _)] at h1
    rw [h.1, List.getElem?_append_right (Nat.le_refl _)] at h2
    simp at h1 h2
    subst h1 h2
    exact ⟨iv, hc⟩
theorem Pcs.form {A : Hp} {vs : List Value} {fs : List (List Value)} (h : Pcs A vs fs) {k : Nat} {us : List Value} (hk : fs[k]? = some us) : ∃ iv, vs[k]? = some (.slice (some ⟨iv, 0, some 1⟩) us.length (2 * us.length)) ∧ A.get iv = some (.arr 5 us .own) := by
  have hl := (List.getElem?_eq_some_iff.1 hk).1
  obtain ⟨v, hv⟩ : ∃ v, vs[k]? = some v := ⟨_, List.getElem?_eq_getElem (by rw [h.1]; exact hl)⟩
  obtain ⟨iv, hc⟩ := h.2 k v us hv hk
  generalize us.length = n at hc ⊢
  cases hc with
  | «at» i _ _ hg _ _ => exact ⟨iv, hv, hg⟩

/-- one element more -/
theorem app_one {t e bz : Nat} (hE : ElT Tryd.bk.E t e 1 bz) (hE2 : ∃ i e2, Tryd.bk.E.T t = some i ∧ i.d = .slice e2) {A0 A : Hp} (hk : Kp A0 A) {V : Value} {io : Option Nat} {us : List Value} {n : Nat} (hc : CanAt e 1 A V io us n)
    (hf : ∀ j, io = some j → A0.next ≤ j) (x : Value) (hn : (n + 1) * bz ≤ 140737488355328) (hM : n + 1 ≤ maxLen) :
    ∃ V' A' io', dappend Tryd.bk.E t t (A.push (.arr e [x] .own)) V (.slice (some ⟨A.next, 0, some 1⟩) 1 3) = some (V', A') ∧ CanAt e 1 A' V' (some io') (us ++ [x]) (n + 1) ∧ A.next ≤ io' ∧ Kp A0 A' ∧ A.next ≤ A'.next ∧ (∀ j, j < A.next → io ≠ some j → A'.get j = A.get j) := by
  let B : Hp := A.push (.arr e [x] .own)
  have hw := hk.wf
  have hcB : CanAt e 1 B V io us n := hc.keep fun j hj => Hp.get_push_ne _ _ (by subst hj; have := hc.lt hw; omega)
  have hx : elemsOf B 1 (.slice (some ⟨A.next, 0, some 1⟩) 1 3) = some (1, [x]) := (BsAt.at A.next 0 1 3 e [x] [x] .own (Hp.get_push_same _ _) (by simp) rfl (by omega)).elems
  have nB : B.next = A.next + 1 := by simp [B]
  obtain ⟨V', A', i', h1, h2, h3, h4, h5, h6⟩ := append_sl hE hE2 hcB.slAt hx rfl (by omega) hn hM
  have hnx := hk.nx
  have oldA : ∀ j, j < A.next → io ≠ some j → A'.get j = A.get j := fun j hj hne => by rw [h6 j (by omega) hne]; exact Hp.get_push_ne _ _ (by omega)
  exact ⟨V', A', i', h1, h2, by omega, ⟨h5 (hw.push _), by omega, fun j hj => by rw [oldA j (by omega) (fun e => by have := hf j e; omega)]; exact hk.old j hj⟩, by omega, oldA⟩

theorem cells_one {us : List Value} {j : Nat} {x : Value} (h : us[j]? = some x) : cellsIn us (0 + j * 1) 1 = some [x] := by
  have hlt : j < us.length := (List.getElem?_eq_some_iff.1 h).1
  refine cellsIn_of (by omega) ?_
  rw [Nat.zero_add, Nat.mul_one, List.drop_eq_getElem_cons hlt, List.take_succ_cons, List.take_zero]
  rw [List.getElem?_eq_getElem hlt] at h
  rw [Option.some.inj h]

/-! ## Len -/
def sumN (fs : List (List Value)) : Nat := fs.flatten.length

section
variable {call : CallT} {A0 : Hp} (hw0 : A0.wf) {bx il : Nat} {vs : List Value} {fs : List (List Value)} (hbx : A0.get bx = some (.arr 79 [.slice (some ⟨il, 0, some 1⟩) fs.length (2 * fs.length)] .own)) (hil : A0.get il = some (.arr 22 vs .own)) (hP : Pcs A0 vs fs) (hfl : fs.length ≤ 1048576)

include hbx hil hP hfl in
theorem rlen_round (lf : Nat) {i : Nat} (hi : i < fs.length) (hs : fs.flatten.length ≤ 1000000000) :
    ∃ σ1, exec Tryd.bk.E call Tryd.f65.ntmps (Tryd.bk.inf 65) lf (loopOf Tryd.f65 0) [(1, ptr bx), (2, .int .i64 0), (3, .int .i64 ((fs.take i).flatten.length : Nat)), (4, .int .i64 (i : Nat))] A0 = some (.normal, σ1, A0) ∧
      keepSl (some [1, 2, 3, 4]) σ1 = [(1, ptr bx), (2, .int .i64 0), (3, .int .i64 ((fs.take (i + 1)).flatten.length : Nat)), (4, .int .i64 (i + 1 : Nat))] := by
  obtain ⟨us, hus⟩ : ∃ us, fs[i]? = some us := ⟨_, List.getElem?_eq_getElem hi⟩
  obtain ⟨iv, hv, hg⟩ := hP.form hus
  have e1 : ((i : Nat) : Int) < ((fs.length : Nat) : Int) := by omega
  have htk : fs.take (i + 1) = fs.take i ++ [us] := by rw [List.take_add_one, hus]; rfl
  have hsum : (fs.take (i + 1)).flatten.length = (fs.take i).flatten.length + us.length := by rw [htk]; simp
  have hle : (fs.take (i + 1)).flatten.length ≤ fs.flatten.length := by
    conv => rhs; rw [← List.take_append_drop (i + 1) fs]
    rw [List.flatten_append, List.length_append]
    omega
  have hw2 : IntKind.i64.wrap ((i : Int) + 1) = ((i + 1 : Nat) : Int) := by rw [wrap64 (by omega) (by omega)]; omega
  have hw3 : IntKind.i64.wrap (((fs.take i).flatten.length : Nat) + ((us.length : Nat) : Int)) = ((fs.take (i + 1)).flatten.length : Nat) := by rw [wrap64 (by omega) (by omega)]; omega
  generalize (fs.take i).flatten.length = s at *
  refine ⟨?sg, kexec_run ?run, ?kp⟩
  case run =>
    conv => lhs; whnf
    refine bind_of (cellsAt_of hbx _ _) ?_
    conv => lhs; whnf
    rw [kdec e1]
    conv => lhs; whnf
    refine bind_of (cellsAt_of hbx _ _) ?_
    conv => lhs; whnf
    rw [kdec e1]
    conv => lhs; whnf
    refine bind_of ((cellsAt_of hil _ _).trans (cells_one hv)) ?_
    conv => lhs; whnf
  case kp =>
    show [_, _, (3, Value.int .i64 (IntKind.i64.wrap ((s : Int) + ((us.length : Nat) : Int)))), (4, Value.int .i64 (IntKind.i64.wrap ((i : Int) + 1)))] = _
    rw [hw2, hw3]
end
end Go.Dn.Pipe
end
