/-
  Part of the abstract machine for this program.
-/
import Derived.Test.YtjhimcdahpncaaaDoorPB
import Derived.Test.YtjhimcdahpncaaaDoorChecked
import Derived.WalkKit
import Derived.LaidEql
import Derived.Stop.Asserts
import Derived.RowKitTokens
import Derived.Test.YtjhimcdahpncaaaDoorDnJ
import Derived.Test.YtjhimcdahpncaaaDoorPA
import Derived.KernelRfl
import Derived.Test.YtjhimcdahpncaaaDoorDnI
import Derived.Test.YtjhimcdahpncaaaDoorDnH

section
namespace Go.Dn.Pipe
open Go.Proofs
set_option maxHeartbeats 4000000
set_option maxRecDepth 100000
attribute [local irreducible] Hp.get Hp.set Hp.push dappend dcopy dstore cellsAt callD loopD

theorem loopD_out {ks : Option (List Nat)} {f : Sl → Hp → Option (Ex × Sl × Hp)} {n : Nat} {σ σ1 : Sl} {A A1 : Hp} {e : Ex} (h : f σ A = some (e, σ1, A1)) (he : e ≠ .normal) : loopD ks f (n + 1) σ A = some (e, keepSl ks σ1, A1) := by
  simp only [loopD, h, Option.bind_some]

variable {base : CallT} (hb : ∀ f args A, f ∉ [61, 12, 20, 38, 27] → base f args A = none)
include hb

theorem joined_nil (n : Nat) {A : Hp} : callD Tryd.bk base (n + 2) 50 [.slice none 0 0] A = some (.slice none 0 0, A) := by
  have h1 : ∃ σ1, exec Tryd.bk.E (callD Tryd.bk base (n + 1)) Tryd.f50.ntmps (Tryd.bk.inf 50) (n + 1) (loopOf Tryd.f50 0)
      [(2, .slice none 0 0), (3, .slice none 0 0), (6, .slice none 0 0), (7, .int .i64 ((0 : Nat) : Int)), (8, .int .i64 0)] A = some (.exit 0, σ1, A) ∧
      keepSl (some [2, 3, 6, 7, 8]) σ1 = [(2, .slice none 0 0), (3, .slice none 0 0), (6, .slice none 0 0), (7, .int .i64 ((0 : Nat) : Int)), (8, .int .i64 0)] := by
    refine ⟨?s, kexec_run ?run, ?kp⟩
    case run =>
      conv => lhs; whnf
    case kp => rfl
  obtain ⟨σ1, h1, h2⟩ := h1
  have h3 := loopD_out (ks := some [2, 3, 6, 7, 8]) (n := n) h1 (by simp)
  rw [h2] at h3
  refine callD_of (hb _ _ _ (by decide)) (fn := Tryd.f50) rfl ?_
  conv => lhs; whnf
  refine bind_of h3 ?_
  conv => lhs; whnf
  rfl

theorem move_loop (m : Nat) {A0 : Hp} {p f : Nat} {io : Option Nat} {c : Bool} {ps0 : List Pc} {g0 : Nat} {s0 n0 : Int} (hn0 : n0 ≤ 9223372036854775807) (hT : total ps0 ≤ 70368744177664) (hP : ps0.length ≤ 100000000000)
    (hpl : p < A0.next) (hfl : f < A0.next) (hio : ∀ i, io = some i → i < A0.next) {st : MS} (hI : MI A0 p f io c ps0 g0 s0 n0 st A0) (hm : ps0.length ≤ m) :
    ∃ A1 st', loopD (some [0, 1, 4, 5]) (exec Tryd.bk.E (callD Tryd.bk base (m + 3)) Tryd.f17.ntmps (Tryd.bk.inf 17) (m + 3) (loopOf Tryd.f17 0)) (m + 3) [(0, ptr p), (1, .int .i64 st.n), (4, .slice none 0 0), (5, st.pv)] A0 =
      some (.exit 0, [(0, ptr p), (1, .int .i64 st'.n), (4, .slice none 0 0), (5, st'.pv)], A1) ∧ MI A0 p f io c ps0 g0 s0 n0 st' A1 ∧ (st'.n ≤ 0 ∨ st'.ps = []) := by
  have key := loop_rule (ks := some [0, 1, 4, 5]) (f := exec Tryd.bk.E (callD Tryd.bk base (m + 3)) Tryd.f17.ntmps (Tryd.bk.inf 17) (m + 3) (loopOf Tryd.f17 0)) (S := MS)
    (fun st => [(0, ptr p), (1, .int .i64 st.n), (4, .slice none 0 0), (5, st.pv)]) (fun st A => MI A0 p f io c ps0 g0 s0 n0 st A) mu
    (fun e σ A1 => e = .exit 0 ∧ ∃ st', σ = [(0, ptr p), (1, .int .i64 st'.n), (4, .slice none 0 0), (5, st'.pv)] ∧ MI A0 p f io c ps0 g0 s0 n0 st' A1 ∧ (st'.n ≤ 0 ∨ st'.ps = [])) (fun st A hI => ?_)
    (m + 3) st A0 hI (by
      have h1 := hI.few.1
      have : st.ps.length ≤ ps0.length + 1 := by omega
      unfold mu
      split <;> omega)
  · obtain ⟨e, σ1, A1, h1, rfl, st', rfl, h3, h4⟩ := key
    exact ⟨A1, st', h1, h3, h4⟩
  · by_cases hn : 0 < st.n
    · by_cases hps : st.ps = []
      · obtain ⟨n, pv, pio, pes, ps, g, s, tk⟩ := st
        simp only at hps hn ⊢
        subst hps
        have hg : g = 0 := by
          rcases hI.pipe.hg with e | ⟨y, ps', e1, e2⟩
          · exact e
          · cases e1
        obtain ⟨rv, r1, r2⟩ := hI.pipe.hf
        have hfp : f ≠ p := by rintro rfl; rw [hI.pipe.hp] at r1; cases r1
        simp only at r1 hg
        subst hg
        have hn' : n > 0 := hn
        refine ⟨.exit 0, ?s, A, kexec_run ?run, .inr ⟨(by simp), rfl, ⟨n, pv, pio, pes, [], 0, s, tk⟩, ?kp, hI, .inr rfl⟩⟩
        case run =>
          conv => lhs; whnf
          rw [kdec hn']
          conv => lhs; whnf
          rw [pipe_len hb (m + 1) hI.pipe.hp r1 hfp]
          conv => lhs; whnf
        case kp => rfl
      · obtain ⟨σ1, A1, st', h1, h2, h3, h4⟩ := move_round hb m hn0 hT hP hpl hfl hio hI hn hps
        exact ⟨.normal, σ1, A1, h1, .inl ⟨rfl, st', h2, h3, h4⟩⟩
    · obtain ⟨n, pv, pio, pes, ps, g, s, tk⟩ := st
      simp only at hn ⊢
      have hn' : ¬ n > 0 := hn
      refine ⟨.exit 0, ?s2, A, kexec_run ?run, .inr ⟨(by simp), rfl, ⟨n, pv, pio, pes, ps, g, s, tk⟩, ?kp, hI, .inl (by simp only; omega)⟩⟩
      case run =>
        conv => lhs; whnf
        rw [kdecn hn']
        conv => lhs; whnf
      case kp => rfl

/-- Move: what comes out, and what stays -/
theorem pipe_move (m : Nat) {A : Hp} {p f : Nat} {io : Option Nat} {c : Bool} {ps : List Pc} {g : Nat} {s n : Int} (h : IsPipe A p f io ps g s c) (hw : A.wf) (hs : s = IntKind.u64.wrap s) (hn : n ≤ 9223372036854775807)
    (hT : total ps ≤ 70368744177664) (hP : ps.length ≤ 100000000000) (hm : ps.length + 2 ≤ m) :
    ∃ v iv out A' ps' g', callD Tryd.bk base (m + 4) 17 [ptr p, .int .i64 n] A = some (v, A') ∧ CanAt 5 1 A' v iv out out.length ∧ out = (flow ps g).take n.toNat ∧ flow ps' g' = (flow ps g).drop n.toNat ∧
      IsPipe A' p f io ps' g' (IntKind.u64.wrap (s + (out.length : Nat))) c ∧ A'.wf ∧ A.next ≤ A'.next ∧ (∀ i, iv = some i → A.next ≤ i ∧ i < A'.next) ∧
      (∀ j, j < A.next → j ≠ p → j ≠ f → io ≠ some j → A'.get j = A.get j) ∧ ps' <:+ ps := by
  obtain ⟨rv, r1, r2⟩ := h.hf
  have hpl := hw.lt h.hp
  have hfl := hw.lt r1
  have hio : ∀ i, io = some i → i < A.next := by
    rintro i rfl
    obtain ⟨cs, hcs⟩ := r2.lt
    exact hw.lt hcs
  have hI : MI A p f io c ps g s n ⟨n, .slice none 0 0, none, [], ps, g, s, []⟩ A :=
    ⟨hw, Nat.le_refl _, h, .nil, by simp, fun _ _ _ _ _ => rfl, rfl, by simp, by simp, by simp, .inl rfl, by simpa using hs, List.suffix_refl _, ⟨by simp, by simp⟩⟩
  obtain ⟨A1, st, l1, l2, l3⟩ := move_loop hb m hn hT hP hpl hfl hio hI (by omega)
  obtain ⟨n1, pv, pio, pes, ps1, g1, s1, tk⟩ := st
  obtain ⟨i1, i2, i3, i4, i5, i6, i7, i8, i9, i10, i11, i12, i13, i14⟩ := l2
  simp only at *
  have hlen := congrArg List.length i9
  rw [List.length_append, flow_length, flow_length] at hlen
  have hsz : tk.flatten.length ≤ 140737488355328 := by omega
  have htake : tk.flatten = (flow ps g).take n.toNat ∧ flow ps1 g1 = (flow ps g).drop n.toNat := by
    rw [← i9]
    by_cases hz : n1 ≤ 0
    · have : n.toNat = tk.flatten.length := by
        rcases i11 with e | e <;> omega
      rw [this, List.take_left, List.drop_left]
      exact ⟨rfl, rfl⟩
    · have hps : ps1 = [] := l3.resolve_left hz
      subst hps
      have hfl0 : flow [] g1 = [] := by simp [flow]
      rw [hfl0, List.append_nil]
      have : tk.flatten.length ≤ n.toNat := by rcases i11 with e | e <;> omega
      rw [List.take_of_length_le this, List.drop_eq_nil_of_le this]
      exact ⟨rfl, rfl⟩
  have hjoin : ∃ v io2 A2, callD Tryd.bk base (m + 3) 50 [pv] A1 = some (v, A2) ∧ A2.wf ∧ A1.next ≤ A2.next ∧ (∀ j, j < A1.next → A2.get j = A1.get j) ∧ CanAt 5 1 A2 v io2 tk.flatten tk.flatten.length ∧ (∀ i, io2 = some i → A1.next ≤ i ∧ i < A2.next) := by
    generalize hln : pes.length = ln at i4
    cases i4 with
    | nil =>
      have htk : tk = [] := List.eq_nil_of_length_eq_zero (by omega)
      subst htk
      exact ⟨_, none, A1, joined_nil hb (m + 1), i1, Nat.le_refl _, fun _ _ => rfl, .nil, by simp⟩
    | «at» i o _ cc cs _ q1 q2 q3 q4 =>
      rw [Nat.mul_one] at q4
      exact joined_ok hb (m + 2) i1 q2 q4 hln (by omega) (fun j x hx => by
        obtain ⟨us, u1, u2⟩ := i8 j x hx
        exact ⟨us, u1, u2.1⟩) (by omega) hsz (by omega)
  obtain ⟨v, io2, A2, j1, j2, j3, j4, j5, j6⟩ := hjoin
  refine ⟨v, io2, tk.flatten, A2, ps1, g1, callD_of (hb _ _ _ (by decide)) (fn := Tryd.f17) rfl ?run, j5, htake.1, htake.2, ?ip, j2, by omega, fun i hi => ?ids, fun j hj hjp hjf hji => ?fr, i13⟩
  case run =>
    conv => lhs; whnf
    refine bind_of l1 ?_
    conv => lhs; whnf
    rw [j1]
    conv => lhs; whnf
    rfl
  case ip =>
    rw [← i12]
    exact i3.keep fun j o hj _ => j4 j (i1.lt hj)
  case ids => exact ⟨by have := (j6 i hi).1; omega, (j6 i hi).2⟩
  case fr => rw [j4 j (by omega), i6 j hj hjp hjf hji]

end Go.Dn.Pipe
end

section
namespace Go.Proofs.YtjhimcdahpncaaaDoor
open Go.RowKit Go.Extern.Stop Go.Stop Go.Extern
set_option maxRecDepth 100000

/-! ### CLOSED FACTS: what 'reflectlite.TypeOf(target).Comparable()' gives at such a target -/
theorem isTypeOf (v : Value) (w : World) : (Extern.ReflectliteType.typeOf #[.iface 168 v]).run Tryd.prog w = .ok (.iface 154 (.agg #[.pointer (some ⟨43, 168, none⟩)])) w := by kernel_rfl
theorem isComparable (w : World) : ((Extern.ReflectliteType.method fun t => do Extern.Rtype.noPackHeld "Comparable" t; (fun a => Value.bool a.comparable) <$> typeInfo t) #[.agg #[.pointer (some ⟨43, 168, none⟩)]]).run Tryd.prog w = .ok (.bool true) w := by kernel_rfl
theorem isMethodComparable (v : Value) (w : World) : (Go.method 303 154 v "Comparable").run Tryd.prog w = .ok (97, v) w := by kernel_rfl
theorem isComp : (Tryd.prog.info? 168).map (·.comparable) = some true := by kernel_rfl
theorem isSize : (Tryd.prog.info? 192).map (·.size) = some 1 := by kernel_rfl

/-! ### CLOSED FACTS ON THE METHOD SETS: what errors.is's assertions find -/
theorem noIsE (v : Value) (xT : TypeId) (w : World) : (Instr.typeAssert (.iface 168 v) xT 156 true).run Tryd.prog w = .ok (.tuple #[.nilIface, .bool false]) w := run_typeAssert_lacksB Tryd.underlying156 (by kernel_rfl) (by kernel_rfl) v xT w
theorem noUnwrapE (v : Value) (xT : TypeId) (w : World) : (Instr.typeAssert (.iface 168 v) xT 159 true).run Tryd.prog w = .ok (.tuple #[.nilIface, .bool false]) w := run_typeAssert_lacksB Tryd.underlying159 (by kernel_rfl) (by kernel_rfl) v xT w
theorem noUnwrapsE (v : Value) (xT : TypeId) (w : World) : (Instr.typeAssert (.iface 168 v) xT 161 true).run Tryd.prog w = .ok (.tuple #[.nilIface, .bool false]) w := run_typeAssert_lacksB Tryd.underlying161 (by kernel_rfl) (by kernel_rfl) v xT w

/-- errors.Is(x, x), x a pointer to an errors.errorString. -/
theorem is_same (a : Addr) (w : World) :
    Calls Tryd.prog 61 #[.iface 168 (.pointer (some a)), .iface 168 (.pointer (some a))] w fun e w' => e = .returned (.bool true) ∧ w' = w := by
  obtain ⟨i, hi, hcmp⟩ := Option.map_eq_some_iff.1 isComp
  obtain ⟨j, hj, hjs⟩ := Option.map_eq_some_iff.1 isSize
  have h8 := @run_callFunc_extern Tryd.prog 71 _ Extern.ReflectliteType.typeOf Tryd.func71 (by kernel_rfl) (by kernel_rfl) (by kernel_rfl) (by kernel_rfl)
  have h32 := @run_callFunc_extern Tryd.prog 97 _ (Extern.ReflectliteType.method fun t => do Extern.Rtype.noPackHeld "Comparable" t; pure (.bool (← typeInfo t).comparable)) Tryd.func97 (by kernel_rfl) (by kernel_rfl) (by kernel_rfl) (by kernel_rfl)
  have tT := isTypeOf
  have cT := isComparable
  have mR := isMethodComparable
  have heq := run_eql_iface_ptr_same (P := Tryd.prog) w a Tryd.underlying28 Tryd.underlying168 hi hcmp hj
  go_enter Tryd.func61, Tryd.ntmps61
  go_wp2
  refine wp_loop_rounds 1 ?_
  rw [rounds_succ]
  go_wp2
  go_ret
  exact ⟨rfl, rfl⟩

/-- errors.Is(nil, x). -/
theorem is_nil (b : Addr) (w : World) :
    Calls Tryd.prog 61 #[.nilIface, .iface 168 (.pointer (some b))] w fun e w' => e = .returned (.bool false) ∧ w' = w := by
  have hn := run_eql_iface_nil_left (P := Tryd.prog) w 168 (.pointer (some b)) Tryd.underlying28
  go_enter Tryd.func61, Tryd.ntmps61
  go_wp2
  go_ret
  exact ⟨rfl, rfl⟩

/-- errors.Is(x, y), two different pointers to errors.errorString: neither has Is nor Unwrap: false. -/
theorem is_other (a b : Addr) (ca cb : Array Value) (ta tb : TypeId) (w : World) (hne : a ≠ b) (ha : w.heap[a.block]? = some (.cells ca ta (0, 0))) (hb : w.heap[b.block]? = some (.cells cb tb (0, 0))) :
    Calls Tryd.prog 61 #[.iface 168 (.pointer (some a)), .iface 168 (.pointer (some b))] w fun e w' => e = .returned (.bool false) ∧ w' = w := by
  obtain ⟨i, hi, hcmp⟩ := Option.map_eq_some_iff.1 isComp
  obtain ⟨j, hj, hjs⟩ := Option.map_eq_some_iff.1 isSize
  have h8 := @run_callFunc_extern Tryd.prog 71 _ Extern.ReflectliteType.typeOf Tryd.func71 (by kernel_rfl) (by kernel_rfl) (by kernel_rfl) (by kernel_rfl)
  have h32 := @run_callFunc_extern Tryd.prog 97 _ (Extern.ReflectliteType.method fun t => do Extern.Rtype.noPackHeld "Comparable" t; pure (.bool (← typeInfo t).comparable)) Tryd.func97 (by kernel_rfl) (by kernel_rfl) (by kernel_rfl) (by kernel_rfl)
  have tT := isTypeOf
  have cT := isComparable
  have mR := isMethodComparable
  have nE := noIsE
  have uE := noUnwrapE
  have vE := noUnwrapsE
  have heq := run_eql_iface_ptr_other (P := Tryd.prog) w Tryd.underlying28 Tryd.underlying168 hi hcmp hj (by rw [hjs]; decide) hne ha hb
  go_enter Tryd.func61, Tryd.ntmps61
  go_wp2
  refine wp_loop_rounds 1 ?_
  rw [rounds_succ]
  go_wp2
  go_ret
  exact ⟨rfl, rfl⟩


end Go.Proofs.YtjhimcdahpncaaaDoor
end

section
set_option maxRecDepth 100000
namespace Go.Dn.Pipe
open Go.Proofs

/-! ## the constants of these laws: forty-two sentinels -/
def er (g : Nat) : Ob := .arr 28 [.iface 168 (.pointer (some ⟨g + 43, 0, none⟩))] .ro
def CE : Hp := ⟨86, (.node (.node (.node (.node (.node (.node .nil (some (er 31)) .nil) (some (er 15)) .nil) (some (er 7)) (.node (.node .nil (some (er 39)) .nil) (some (er 23)) .nil)) (some (er 3)) (.node (.node (.node .nil (some (er 35)) .nil) (some (er 19)) .nil) (some (er 11)) (.node .nil (some (er 27)) .nil))) (some (er 1)) (.node (.node (.node (.node .nil (some (er 33)) .nil) (some (er 17)) .nil) (some (er 9)) (.node (.node .nil (some (er 41)) .nil) (some (er 25)) .nil)) (some (er 5)) (.node (.node (.node .nil (some (er 37)) .nil) (some (er 21)) .nil) (some (er 13)) (.node .nil (some (er 29)) .nil)))) (some (er 0)) (.node (.node (.node (.node (.node .nil (some (er 32)) .nil) (some (er 16)) .nil) (some (er 8)) (.node (.node .nil (some (er 40)) .nil) (some (er 24)) .nil)) (some (er 4)) (.node (.node (.node .nil (some (er 36)) .nil) (some (er 20)) .nil) (some (er 12)) (.node .nil (some (er 28)) .nil))) none (.node (.node (.node (.node .nil (some (er 34)) .nil) (some (er 18)) .nil) (some (er 10)) (.node (.node .nil (some (er 42)) .nil) (some (er 26)) .nil)) (some (er 6)) (.node (.node (.node .nil (some (er 38)) .nil) (some (er 22)) .nil) (some (er 14)) (.node .nil (some (er 30)) .nil)))))⟩
/-- which globals are sentinels -/
def errs : List Nat := [0, 1, 3, 4, 5, 6, 7, 8, 9, 10, 11, 12, 13, 14, 15, 16, 17, 18, 19, 20, 21, 22, 23, 24, 25, 26, 27, 28, 29, 30, 31, 32, 33, 34, 35, 36, 37, 38, 39, 40, 41, 42]

theorem CE_items : (CE.tr.items 1 0).all (fun x => errs.elem x.1 && match x.2 with
    | .arr 28 [.iface 168 (.pointer (some ⟨k, 0, none⟩))] .ro => Nat.beq k (x.1 + 43)
    | _ => false) = true := by decide +kernel

theorem CE_get {i : Nat} {o : Ob} (h : CE.get i = some o) : i ∈ errs ∧ o = er i := by
  have hm := Tr.get_mem h
  have := List.all_eq_true.1 CE_items _ hm
  simp only [Bool.and_eq_true] at this
  obtain ⟨h1, h2⟩ := this
  refine ⟨by simpa using h1, ?_⟩
  split at h2
  · rename_i k
    have hk : k = i + 43 := by simpa using h2
    subst hk
    rfl
  · cases h2

/-! ## errors.Is -/
def isF : List Value → Hp → Option (Value × Hp)
  | [.nilIface, .iface 168 (.pointer (some _))], A => some (.bool false, A)
  | [.iface 168 (.pointer (some ⟨i, 0, none⟩)), .iface 168 (.pointer (some ⟨j, 0, none⟩))], A =>
    bif Nat.ble 43 i && (Nat.blt i 86 && (Nat.ble 43 j && Nat.blt j 86)) then some (.bool (Nat.beq i j), A) else none
  | _, _ => none

theorem isF_ok [Reps] (hK : Reps.C.next = 86) : ∀ args A v A', isF args A = some (v, A') → ∀ (ρ : Gh) w (args' : Array Value), RelX Tryd.prog ρ A w → AR ρ.ρ args.toArray args' →
    Calls Tryd.prog 61 args' w fun e w' => ∃ v', e = .returned v' ∧ After Tryd.prog ρ A w v A' v' w' := by
  intro args A v A' h ρ w args' hr ha
  have hGs : Tryd.prog.globals.size = 43 := Tryd.good.glob.symm
  have two : ∀ x y : Value, args = [x, y] → ∃ x' y', args' = #[x', y'] ∧ VR ρ.ρ x x' ∧ VR ρ.ρ y y' := by
    intro x y e
    subst e
    have hs := ha.1
    obtain ⟨q⟩ := args'
    match q, hs with
    | [a, b], _ => exact ⟨a, b, rfl, ha.2 0 _ _ rfl rfl, ha.2 1 _ _ rfl rfl⟩
  unfold isF at h
  split at h
  · cases h
    obtain ⟨x', y', rfl, h1, h2⟩ := two _ _ rfl
    cases h1
    cases h2 with
    | iface _ _ _ h2 =>
    cases h2 with
    | ptr o hp =>
    refine (YtjhimcdahpncaaaDoor.is_nil _ w).mono fun e w' he => ?_
    obtain ⟨rfl, rfl⟩ := he
    exact ⟨_, rfl, ρ, .bool _, hr, ExtX.refl _ _ _⟩
  · rename_i i j
    cases hc : (Nat.ble 43 i && (Nat.blt i 86 && (Nat.ble 43 j && Nat.blt j 86))) with
    | false => rw [hc] at h; cases h
    | true =>
      rw [hc] at h
      cases h
      simp only [Bool.and_eq_true, Nat.ble_eq, Nat.blt_eq] at hc
      obtain ⟨c1, c2, c3, c4⟩ := hc
      obtain ⟨x', y', rfl, h1, h2⟩ := two _ _ rfl
      cases h1 with
      | iface _ _ _ h1 =>
      cases h1 with
      | ptr _ hp =>
      rename_i p
      cases h2 with
      | iface _ _ _ h2 =>
      cases h2 with
      | ptr _ hq =>
      rename_i q
      by_cases e : i = j
      · subst e
        rw [hp] at hq; cases hq
        refine (YtjhimcdahpncaaaDoor.is_same _ w).mono fun e w' he => ?_
        obtain ⟨rfl, rfl⟩ := he
        rw [Tr.beq_tt]
        exact ⟨_, rfl, ρ, .bool _, hr, ExtX.refl _ _ _⟩
      · have hp' := hp
        have hq' := hq
        rw [hr.con.loc i (by omega)] at hp'
        rw [hr.con.loc j (by omega)] at hq'
        obtain ⟨ca, ta, ha'⟩ := hr.con.cw.fz i p (by omega) (by omega) hp'
        obtain ⟨cb, tb, hb'⟩ := hr.con.cw.fz j q (by omega) (by omega) hq'
        have hne := hr.con.cw.inj i j p q (by omega) (by omega) e hp' hq'
        refine (YtjhimcdahpncaaaDoor.is_other ⟨p.blk, p.off + 0, none⟩ ⟨q.blk, q.off + 0, none⟩ ca cb ta tb w (fun h => ?_) ha' hb').mono fun e' w' he => ?_
        · simp only [Addr.mk.injEq] at h
          rcases hne with h' | h'
          · exact h' h.1
          · exact h' (by omega)
        · obtain ⟨rfl, rfl⟩ := he
          rw [Tr.beq_ff e]
          exact ⟨_, rfl, ρ, .bool _, hr, ExtX.refl _ _ _⟩
  · cases h

theorem fn61 : ∃ x, Tryd.prog.funcs[61]? = some x ∧ x.body.isSome = true ∧ (x.name == "runtime.NumGoroutine") = false :=
  ⟨Tryd.f61, Tryd.func61, rfl, by decide +kernel⟩

end Go.Dn.Pipe
end

section
set_option maxRecDepth 100000
namespace Go.Dn
section
variable [Reps] {P : Program}
/-- what a run on the constants alone gives, is given everywhere -/
theorem closed_ok {call : CallT} (hC : CallOK P call) {f : FuncId} {us : List Value} {v : Value} {B' : Hp} (hcall : call f us Reps.C = some (v, B')) (hus : VMs (fun a b => a < Reps.C.next ∧ b = a) us us) (hv : plain0 v = true)
    (g : Gh) (A : Hp) (w : World) (args' : Array Value) (hA : RelX P g A w) (ha : AR g.ρ us.toArray args') : Calls P f args' w fun e w' => ∃ v', e = .returned v' ∧ After P g A w v A v' w' :=
  call_fun hC hA (im := []) (ims := []) rfl (by simp) [] (by simp) ha (hus.mono fun a b h => .inl h) hcall (es := []) rfl List.nodup_nil (by simp) (.plain hv)
end
end Go.Dn
namespace Go.Dn.Pipe
open Go.Proofs

def T0 : CallT := withCall noCalls 61 isF
/-- the sentinels' numbers -/
def codes : List (Nat × Int) := [(43, 1), (44, 27)]
def codeF : List Value → Hp → Option (Value × Hp)
  | [.nilIface], A => some (.int .i64 0, A)
  | [.iface 168 (.pointer (some ⟨k, 0, none⟩))], A => (codes.lookup k).map fun n => (.int .i64 n, A)
  | _, _ => none
noncomputable def codeRun (u : Value) : Option Value := (callD Tryd.bk T0 60 27 [u] CE).map (·.1)
theorem code_run : (codes.map fun x => codeRun (.iface 168 (.pointer (some ⟨x.1, 0, none⟩)))) = codes.map fun x => some (.int .i64 x.2) := by kernel_rfl
theorem code_nil : codeRun .nilIface = some (.int .i64 0) := by kernel_rfl
theorem wakes_run : (callD Tryd.bk T0 20 12 [] CE).map (·.1) = some (.bool true) := by kernel_rfl

theorem fn27 : ∃ x, Tryd.prog.funcs[27]? = some x ∧ x.body.isSome = true ∧ (x.name == "runtime.NumGoroutine") = false :=
  ⟨Tryd.f27, Tryd.func27, rfl, by decide +kernel⟩
theorem fn12 : ∃ x, Tryd.prog.funcs[12]? = some x ∧ x.body.isSome = true ∧ (x.name == "runtime.NumGoroutine") = false :=
  ⟨Tryd.f12, Tryd.func12, rfl, by decide +kernel⟩

def T1 : CallT := withCall T0 27 codeF
def wakesF : List Value → Hp → Option (Value × Hp)
  | [], A => some (.bool true, A)
  | _, _ => none
def T2 : CallT := withCall T1 12 wakesF

theorem lookup_mem : ∀ (l : List (Nat × Int)) (k : Nat) (n : Int), l.lookup k = some n → (k, n) ∈ l := by
  intro l
  induction l with
  | nil => intro k n h; cases h
  | cons x l ih =>
    intro k n h
    obtain ⟨a, b⟩ := x
    simp only [List.lookup] at h
    split at h
    · rename_i hb
      cases h
      have : k = a := by simpa using hb
      subst this
      exact List.mem_cons_self
    · exact List.mem_cons_of_mem _ (ih k n h)

section
variable [Reps] (hK : Reps.C = CE)
include hK

theorem T0_ok : CallOK Tryd.prog T0 := withCall_ok (noCalls_ok _) fn61 (isF_ok (by rw [hK]; rfl))

theorem T1_ok : CallOK Tryd.prog T1 := by
  refine withCall_ok (T0_ok hK) fn27 fun args A v A' h ρ w args' hr ha => ?_
  have hC := callD_ok Tryd.good (T0_ok hK) 60
  have hn : Reps.C.next = 86 := by rw [hK]; rfl
  unfold codeF at h
  split at h
  · cases h
    have h2 := code_nil
    unfold codeRun at h2
    cases hc : callD Tryd.bk T0 60 27 [.nilIface] CE with
    | none => rw [hc] at h2; cases h2
    | some r =>
      obtain ⟨v, B'⟩ := r
      rw [hc] at h2
      cases h2
      rw [← hK] at hc
      exact closed_ok hC hc (.cons (.plain rfl) .nil) rfl ρ A w args' hr ha
  · rename_i k
    cases hl : codes.lookup k with
    | none => rw [hl] at h; cases h
    | some n =>
      rw [hl] at h
      cases h
      have hm := lookup_mem _ _ _ hl
      obtain ⟨i, hi⟩ := List.getElem?_of_mem hm
      have h2 := congrArg (fun l => l[i]?) code_run
      simp only [List.getElem?_map, hi, Option.map_some, Option.some.injEq] at h2
      unfold codeRun at h2
      have hk : k < 86 := by
        have : codes.all (fun x => Nat.blt x.1 86) = true := rfl
        have := List.all_eq_true.1 this _ hm
        simpa [Nat.blt_eq] using this
      cases hc : callD Tryd.bk T0 60 27 [.iface 168 (.pointer (some ⟨k, 0, none⟩))] CE with
      | none => rw [hc] at h2; cases h2
      | some r =>
        obtain ⟨v, B'⟩ := r
        rw [hc] at h2
        simp only [Option.map_some, Option.some.injEq] at h2
        subst h2
        rw [← hK] at hc
        exact closed_ok hC hc (.cons (.iface _ (.ptr 0 ⟨by omega, rfl⟩)) .nil) rfl ρ A w args' hr ha
  · cases h

theorem T2_ok : CallOK Tryd.prog T2 := by
  refine withCall_ok (T1_ok hK) fn12 fun args A v A' h ρ w args' hr ha => ?_
  unfold wakesF at h
  split at h
  · cases h
    have h2 := wakes_run
    cases hc : callD Tryd.bk T0 20 12 [] CE with
    | none => rw [hc] at h2; cases h2
    | some r =>
      obtain ⟨v, B'⟩ := r
      rw [hc] at h2
      cases h2
      rw [← hK] at hc
      exact closed_ok (callD_ok Tryd.good (T0_ok hK) 20) hc .nil rfl ρ A w args' hr ha
  · cases h
end
end Go.Dn.Pipe
end

section
namespace Go.Dn

/-! ## a part of a heap -/
def pickL (A : Hp) : List Nat → Hp
  | [] => ⟨A.next, .nil⟩
  | i :: l => (pickL A l).set i (A.get i)

theorem pickL_next (A : Hp) : ∀ l, (pickL A l).next = A.next
  | [] => rfl
  | _ :: l => by rw [pickL, Hp.next_set, pickL_next A l]

theorem pickL_in {A : Hp} {j : Nat} : ∀ {l : List Nat}, j ∈ l → (pickL A l).get j = A.get j
  | i :: l, h => by
    rw [pickL]
    by_cases e : j = i
    · subst e; rw [Hp.get_set_same]
    · rw [Hp.get_set_ne _ _ e]
      exact pickL_in ((List.mem_cons.1 h).resolve_left e)

theorem pickL_out {A : Hp} {j : Nat} : ∀ {l : List Nat}, j ∉ l → (pickL A l).get j = none
  | [], _ => rfl
  | i :: l, h => by
    rw [pickL, Hp.get_set_ne _ _ (fun e => h (by rw [e]; exact .head _))]
    exact pickL_out (fun e => h (.tail _ e))

theorem pickL_sub {A : Hp} {l : List Nat} {j : Nat} {o : Ob} (h : (pickL A l).get j = some o) : A.get j = some o ∧ j ∈ l := by
  by_cases e : j ∈ l
  · exact ⟨by rw [← pickL_in e]; exact h, e⟩
  · rw [pickL_out e] at h; cases h

theorem pickL_wf {A : Hp} (hw : A.wf) (l : List Nat) : (pickL A l).wf := by
  intro i hi
  rw [pickL_next] at hi
  by_cases e : i ∈ l
  · rw [pickL_in e]; exact hw i hi
  · exact pickL_out e
end Go.Dn
end

section
/-
  a pipe as an abstract object
-/
namespace Go.Dn.Pipe
open Go.Proofs
set_option maxHeartbeats 4000000
set_option maxRecDepth 100000
attribute [local irreducible] Hp.get Hp.set Hp.push dappend dcopy dstore cellsAt callD loopD

/-- what a pipe holds: the bytes under way; a bound of all that ever went in; how many passed; whether it is cut -/
structure PX where
  fl : List Value
  n : Nat
  s : Int
  c : Bool

def PX.dat (x : PX) : Dat := .l [.l (x.fl.map .v), .v (.int .i64 x.n), .v (.int .u64 x.s), .v (.bool x.c)]

theorem map_v_inj : ∀ {a b : List Value}, a.map Dat.v = b.map Dat.v → a = b
  | [], [], _ => rfl
  | [], _ :: _, h => by simp at h
  | _ :: _, [], h => by simp at h
  | x :: a, y :: b, h => by
    simp only [List.map_cons, List.cons.injEq, Dat.v.injEq] at h
    rw [h.1, map_v_inj h.2]

theorem PX.dat_inj {x y : PX} (h : x.dat = y.dat) : x = y := by
  obtain ⟨a, b, c, d⟩ := x
  obtain ⟨a', b', c', d'⟩ := y
  simp only [PX.dat, Dat.l.injEq, List.cons.injEq, Dat.v.injEq, Value.int.injEq, Value.bool.injEq, and_true, true_and] at h
  obtain ⟨h1, h2, h3, h4⟩ := h
  have := map_v_inj h1
  have h2 : b = b' := by omega
  subst h2 h3 h4 this
  rfl

def RepP (x : PX) (B : Hp) (r : Nat) : Prop := ∃ f io ps g, IsPipe B r f io ps g x.s x.c ∧ flow ps g = x.fl ∧ total ps ≤ x.n ∧ ps.length ≤ x.n ∧ x.s = IntKind.u64.wrap x.s ∧ ∀ y ∈ ps, ∀ u ∈ y.us, plain0 u = true
def repP (k : Nat) (d : Dat) (B : Hp) (r : Nat) : Prop := k = 1 ∧ B.wf ∧ ∃ x, d = PX.dat x ∧ RepP x B r

/-- the part of a heap that a pipe needs -/
theorem IsPipe.close [Reps] {A : Hp} {p f : Nat} {io : Option Nat} {ps : List Pc} {g : Nat} {s : Int} {c : Bool} (h : IsPipe A p f io ps g s c) (hw : A.wf) (hC : ∀ i o, Reps.C.get i = some o → A.get i = some o) :
    ∃ B2, (∀ i o, B2.get i = some o → A.get i = some o) ∧ B2.next = A.next ∧ (∀ i o, Reps.C.get i = some o → B2.get i = some o) ∧ IsPipe B2 p f io ps g s c ∧ B2.wf ∧ (∃ o, B2.get p = some o ∧ o.md = .own) ∧ Tight B2 ∧
      ∀ j, Reps.C.next ≤ j → j ≠ p → j ≠ f → io ≠ some j → (∀ x ∈ ps, x.i ≠ j) → B2.get j = none := by
  obtain ⟨rv, h1, h2⟩ := h.hf
  let L : List Nat := p :: f :: (io.toList ++ (ps.map (·.i) ++ List.range Reps.C.next))
  have mem : ∀ j, j ∈ L ↔ (j = p ∨ j = f ∨ io = some j ∨ (∃ x ∈ ps, x.i = j) ∨ j < Reps.C.next) := by
    intro j
    simp only [L, List.mem_cons, List.mem_append, Option.mem_toList, List.mem_map, List.mem_range]
  have hP : IsPipe (pickL A L) p f io ps g s c := h.keep fun j o _ hj => pickL_in ((mem j).2 (by
    rcases hj with e | e | e | e
    · exact .inl e
    · exact .inr (.inl e)
    · exact .inr (.inr (.inl e))
    · exact .inr (.inr (.inr (.inl e)))))
  refine ⟨pickL A L, fun i o hi => (pickL_sub hi).1, pickL_next A L, fun i o hi => ?_, hP, pickL_wf hw L, ⟨_, hP.hp, rfl⟩, fun j o hj => ?_, fun j j1 j2 j3 j4 j5 => pickL_out fun hm => ?_⟩
  · rw [pickL_in ((mem i).2 (.inr (.inr (.inr (.inr (Reps.Cro i o hi).1)))))]; exact hC i o hi
  · obtain ⟨q1, q2⟩ := pickL_sub hj
    rcases (mem j).1 q2 with e | e | e | ⟨x, hx, e⟩ | e
    · subst e; rw [h.hp] at q1; cases q1; exact .inr rfl
    · subst e; rw [h1] at q1; cases q1; exact .inr rfl
    · subst e
      obtain ⟨cs, hcs⟩ := h2.lt
      rw [hcs] at q1; cases q1; exact .inr rfl
    · subst e
      obtain ⟨cs, hcs⟩ := (h.hx x hx).1.lt
      rw [hcs] at q1; cases q1; exact .inr rfl
    · exact .inl e
  · rcases (mem j).1 hm with e | e | e | ⟨x, hx, e⟩ | e
    · exact j2 e
    · exact j3 e
    · exact j4 e
    · exact j5 x hx e
    · omega
end Go.Dn.Pipe
end

section
/-
  Put, by its contract
-/
namespace Go.Dn.Pipe
open Go.Proofs
set_option maxHeartbeats 4000000
set_option maxRecDepth 100000
attribute [local irreducible] Hp.get Hp.set Hp.push dappend dcopy dstore cellsAt callD loopD

theorem nc_none : ∀ f args A, f ∉ [61, 12, 20, 38, 27] → noCalls f args A = none := fun _ _ _ _ => rfl

theorem elemsOf_move {A B : Hp} {i j T : Nat} {cs : List Value} {m m' : Md} (hi : A.get i = some (.arr T cs m)) (hj : B.get j = some (.arr T cs m')) (sz o s n c : Nat) :
    elemsOf B sz (.slice (some ⟨j, o, some s⟩) n c) = elemsOf A sz (.slice (some ⟨i, o, some s⟩) n c) := by
  unfold elemsOf cellsAt
  simp only [hi, hj]

variable [Reps] (hR : ∀ k d B r, Reps.rep k d B r ↔ repP k d B r)
include hR

theorem put_call {g : Gh} {A : Hp} {w : World} (hA : RelX Tryd.prog g A w) {i : Nat} {x : PX} (hi : A.get i = some (.abs 1 x.dat)) (hx : x.c = false) {bi bo bn bc : Nat} {us cs : List Value} {m : Md}
    (hb : A.get bi = some (.arr 5 cs m)) (hpl : ∀ u ∈ cs, plain0 u = true) (hpu : ∀ u ∈ us, plain0 u = true) (he : elemsOf A 1 (.slice (some ⟨bi, bo, some 1⟩) bn bc) = some (bn, us)) (hus : us.length = bn) (hpos : 0 < bn) (hn : x.n + bn ≤ 1073741824) {args' : Array Value}
    (ha : AR g.ρ [ptr i, .slice (some ⟨bi, bo, some 1⟩) bn bc].toArray args') :
    Calls Tryd.prog 14 args' w fun e w' => ∃ v', e = .returned v' ∧ After Tryd.prog g A w (.tuple #[.int .i64 bn, .nilIface]) (A.set i (some (.abs 1 (PX.dat { x with fl := x.fl ++ us, n := x.n + bn })))) v' w' := by
  have hC := callD_ok Tryd.good (noCalls_ok _) 6
  refine call_method hC hA hi (k' := 1) (im := [(5, cs)]) (ims := [bi]) rfl ?_ [] (by simp) ha (fun r n => [ptr r, .slice (some ⟨n, bo, some 1⟩) bn bc]) ?_ (.tuple #[.int .i64 bn, .nilIface]) ?_
  · intro t e j h1 h2
    match t, h1, h2 with
    | 0, h1, h2 =>
      simp only [List.getElem?_cons_zero, Option.some.injEq] at h1 h2
      subst h1 h2
      exact ⟨⟨m, hb⟩, hpl⟩
  · intro r n
    exact .cons (.ptr 0 (.inl ⟨rfl, rfl⟩)) (.cons (.slice bo 1 bn bc (.inr (.inr ⟨0, rfl, rfl⟩))) .nil)
  · intro B r hCB hw hCn hrep
    obtain ⟨_, _, y, e1, f, io, ps, gg, r1, r2, r3, r4, r5, r6⟩ := (hR _ _ _ _).1 hrep
    obtain rfl := PX.dat_inj e1
    have hBw : (B.push (.arr 5 cs .sh)).wf := hw.push _
    have hP : IsPipe (B.push (.arr 5 cs .sh)) r f io ps gg x.s x.c := r1.keep fun j o hj _ => Hp.get_push_ne _ _ (by have := hw.lt hj; omega)
    rw [hx] at hP
    have hrl := hw.lt r1.hp
    obtain ⟨io', A', y', q1, q2, q3, q4, q5, q6, q7, q8, _⟩ := pipe_put nc_none 4 hP hBw (bi := B.next) (bo := bo) (bn := bn) (bc := bc) (us := us)
      (by rw [elemsOf_move hb (Hp.get_push_same B _)]; exact he) hus hpos (by omega) (by omega) (by omega) (by omega)
    simp only [Hp.next_push] at q3 q6 q8
    have hCA : ∀ i o, Reps.C.get i = some o → A'.get i = some o := by
      intro j o hj
      have hjl := (Reps.Cro j o hj).1
      have hjB := hCB j o hj
      have hjf : j ≠ f := by
        rintro rfl
        obtain ⟨rv, h1, _⟩ := r1.hf
        rw [hjB] at h1
        cases h1
        have := (Reps.Cro _ _ hj).2
        cases this
      have hjo : io ≠ some j := by
        rintro rfl
        obtain ⟨rv, _, h2⟩ := r1.hf
        obtain ⟨cs2, hcs⟩ := h2.lt
        rw [hjB] at hcs
        cases hcs
        have := (Reps.Cro _ _ hj).2
        cases this
      rw [q8 j (by omega) hjf hjo, Hp.get_push_ne _ _ (by omega)]
      exact hjB
    obtain ⟨B2, c1, c2, c3, c4, c5, c6, c7, _⟩ := q4.close q2 hCA
    refine ⟨_, A', B2, [], q1, c1, by omega, c3, (hR _ _ _ _).2 ⟨rfl, c5, _, rfl, f, io', ps ++ [y'], gg, ?_, ?_, ?_, ?_, r5, ?_⟩, c6, c7, rfl, .nil, by simp, ?_⟩
    · show IsPipe B2 r f io' (ps ++ [y']) gg x.s x.c
      rw [hx]; exact c4
    · show flow (ps ++ [y']) gg = x.fl ++ us
      rw [← r2]
      unfold flow
      rw [List.flatMap_append, List.flatMap_cons, List.flatMap_nil, List.append_nil, q5, List.drop_append_of_le_length]
      rw [flow_len]
      rcases r1.hg with e | ⟨z, ps', e1, e2⟩
      · omega
      · rw [e1]; simp only [total]; omega
    · show total (ps ++ [y']) ≤ x.n + bn
      rw [total_append, q5]; omega
    · show (ps ++ [y']).length ≤ x.n + bn
      rw [List.length_append, List.length_singleton]; omega
    · intro z hz u hu
      rcases List.mem_append.1 hz with h | h
      · exact r6 z h u hu
      · simp only [List.mem_singleton] at h
        subst h
        rw [q5] at hu
        exact hpu u hu
    · exact VM.tuples (us := [.int .i64 bn, .nilIface]) (vs := [.int .i64 bn, .nilIface]) (.cons (.plain rfl) (.cons (.plain rfl) .nil))
end Go.Dn.Pipe
end

section
/-
  Move, by its contract
-/
namespace Go.Dn.Pipe
open Go.Proofs
set_option maxHeartbeats 4000000
set_option maxRecDepth 100000
attribute [local irreducible] Hp.get Hp.set Hp.push dappend dcopy dstore cellsAt callD loopD

theorem total_suffix {ps ps' : List Pc} (h : ps' <:+ ps) : total ps' ≤ total ps := by
  obtain ⟨l, rfl⟩ := h
  rw [← flow_len, ← flow_len, List.flatMap_append, List.length_append]
  omega

/-- what a Move hands out, and what is new then -/
def outV (n : Nat) (out : List Value) : Value := match out with
  | [] => .slice none 0 0
  | _ :: _ => .slice (some ⟨n, 0, some 1⟩) out.length (2 * out.length)
def outE (out : List Value) : List (TypeId × List Value) := match out with
  | [] => []
  | _ :: _ => [(5, out)]

variable [Reps] (hR : ∀ k d B r, Reps.rep k d B r ↔ repP k d B r)
include hR

theorem move_call {g : Gh} {A : Hp} {w : World} (hA : RelX Tryd.prog g A w) {i : Nat} {x : PX} (hi : A.get i = some (.abs 1 x.dat)) {n : Int} (hn : n ≤ 9223372036854775807) (hx : x.n ≤ 1073741824)
    (hpl : ∀ u ∈ x.fl, plain0 u = true) {args' : Array Value} (ha : AR g.ρ [ptr i, .int .i64 n].toArray args') :
    Calls Tryd.prog 17 args' w fun e w' => ∃ v', e = .returned v' ∧ After Tryd.prog g A w (outV A.next (x.fl.take n.toNat))
      (pushL .own (A.set i (some (.abs 1 (PX.dat { x with fl := x.fl.drop n.toNat, s := IntKind.u64.wrap (x.s + ((x.fl.take n.toNat).length : Nat)) })))) (outE (x.fl.take n.toNat))) v' w' := by
  have hC := callD_ok Tryd.good (noCalls_ok _) (x.n + 2 + 4)
  refine call_method hC hA hi (k' := 1) (im := []) (ims := []) rfl (by simp) (outE (x.fl.take n.toNat)) ?_ ha (fun r _ => [ptr r, .int .i64 n]) ?_ (outV A.next (x.fl.take n.toNat)) ?_
  · intro e he u hu
    cases ho : x.fl.take n.toNat with
    | nil => rw [ho] at he; simp [outE] at he
    | cons a l =>
      rw [ho] at he
      simp only [outE, List.mem_singleton] at he
      subst he
      rw [← ho] at hu
      exact hpl u (List.mem_of_mem_take hu)
  · intro r n'
    exact .cons (.ptr 0 (.inl ⟨rfl, rfl⟩)) (.cons (.plain rfl) .nil)
  · intro B r hCB hw hCn hrep
    obtain ⟨_, _, y, e1, f, io, ps, gg, r1, r2, r3, r4, r5, r6⟩ := (hR _ _ _ _).1 hrep
    obtain rfl := PX.dat_inj e1
    obtain ⟨v, iv, out, A', ps', g', q1, q2, q3, q4, q5, q6, q7, q8, q9, q10⟩ := pipe_move nc_none (x.n + 2) r1 hw r5 hn (by omega) (by omega) (by omega)
    rw [r2] at q3 q4
    subst q3
    have hCA : ∀ i o, Reps.C.get i = some o → A'.get i = some o := by
      intro j o hj
      have hjl := (Reps.Cro j o hj).1
      have hjB := hCB j o hj
      have hjp : j ≠ r := by
        rintro rfl
        have h1 := r1.hp
        rw [hjB] at h1
        cases h1
        have := (Reps.Cro _ _ hj).2
        cases this
      have hjf : j ≠ f := by
        rintro rfl
        obtain ⟨rv, h1, _⟩ := r1.hf
        rw [hjB] at h1
        cases h1
        have := (Reps.Cro _ _ hj).2
        cases this
      have hjo : io ≠ some j := by
        rintro rfl
        obtain ⟨rv, _, h2⟩ := r1.hf
        obtain ⟨cs2, hcs⟩ := h2.lt
        rw [hjB] at hcs
        cases hcs
        have := (Reps.Cro _ _ hj).2
        cases this
      rw [q9 j (by omega) hjp hjf hjo]
      exact hjB
    obtain ⟨B2, c1, c2, c3, c4, c5, c6, c7, c8⟩ := q5.close q6 hCA
    have hold : ∀ j, B.next ≤ j → B2.get j = none := by
      intro j hj
      refine c8 j (by omega) ?_ ?_ ?_ ?_
      · have := hw.lt r1.hp; omega
      · obtain ⟨rv, h1, _⟩ := r1.hf
        have := hw.lt h1; omega
      · rintro rfl
        obtain ⟨rv, _, h2⟩ := r1.hf
        obtain ⟨cs2, hcs⟩ := h2.lt
        have := hw.lt hcs; omega
      · intro z hz e
        subst e
        obtain ⟨cs2, hcs⟩ := (r1.hx z (q10.mem hz)).1.lt
        have := hw.lt hcs; omega
    have hlen : ps'.length ≤ ps.length := q10.length_le
    have htot := total_suffix q10
    have hrep2 : Reps.rep 1 (PX.dat { x with fl := x.fl.drop n.toNat, s := IntKind.u64.wrap (x.s + ((x.fl.take n.toNat).length : Nat)) }) B2 r := by
      refine (hR _ _ _ _).2 ⟨rfl, c5, _, rfl, f, io, ps', g', c4, q4, ?_, ?_, ?_, fun z hz => r6 z (q10.mem hz)⟩
      · show total ps' ≤ x.n; omega
      · show ps'.length ≤ x.n; omega
      · show IntKind.u64.wrap _ = IntKind.u64.wrap (IntKind.u64.wrap _)
        have := u64_add (x.s + ((x.fl.take n.toNat).length : Nat)) 0 0
        simp only [show IntKind.u64.wrap 0 = 0 from rfl, Int.add_zero] at this
        exact this.symm
    cases ho : x.fl.take n.toNat with
    | nil =>
      rw [ho] at q2 hrep2
      cases q2 with
      | nil => exact ⟨_, A', B2, [], q1, c1, by omega, c3, hrep2, c6, c7, rfl, .nil, by simp [outE], .plain rfl⟩
      | «at» _ _ _ _ _ hp => exact absurd rfl hp
    | cons a l =>
      rw [ho] at q2 hrep2
      generalize hus : a :: l = us at q2 hrep2
      generalize hk : us.length = k at q2
      cases q2 with
      | nil => simp at hus
      | «at» iv _ _ hg hl hp =>
      have hiv := q8 iv rfl
      refine ⟨_, A', B2, [iv], q1, c1, by omega, c3, by rw [← hk]; exact hrep2, c6, c7, by subst hus; rfl, by simp, ?_, ?_⟩
      · intro t e j h1 h2
        subst hus
        match t, h1, h2 with
        | 0, h1, h2 =>
          simp only [outE, List.getElem?_cons_zero, Option.some.injEq] at h1 h2
          subst h1 h2
          exact ⟨hg, hold iv hiv.1⟩
      · subst hk hus
        exact .slice 0 1 _ _ (.inr (.inr ⟨0, rfl, rfl⟩))
end Go.Dn.Pipe
end

section
/-
  New, Len, Passed, Broken, by their contracts
-/
namespace Go.Dn.Pipe
open Go.Proofs
set_option maxHeartbeats 4000000
set_option maxRecDepth 100000
attribute [local irreducible] Hp.get Hp.set Hp.push dappend dcopy dstore cellsAt callD loopD

variable [Reps] (hR : ∀ k d B r, Reps.rep k d B r ↔ repP k d B r)
include hR

def PX.new : PX := ⟨[], 0, 0, false⟩

theorem new_call {g : Gh} {A : Hp} {w : World} (hA : RelX Tryd.prog g A w) (hCw : Reps.C.wf) {args' : Array Value} (ha : AR g.ρ [].toArray args') :
    Calls Tryd.prog 13 args' w fun e w' => ∃ v', e = .returned v' ∧ After Tryd.prog g A w (ptr A.next) (A.push (.abs 1 PX.new.dat)) v' w' := by
  have hC := callD_ok Tryd.good (noCalls_ok _) 6
  let B' : Hp := (Reps.C.push (.arr 141 [inMax, inMax, .slice none 0 0, .int .i64 0] .own)).push (.arr 100 [ptr Reps.C.next, .int .i64 0, .int .u64 0, .bool false] .own)
  have hB' : B' = (Reps.C.push (.arr 141 [inMax, inMax, .slice none 0 0, .int .i64 0] .own)).push (.arr 100 [ptr Reps.C.next, .int .i64 0, .int .u64 0, .bool false] .own) := rfl
  have hp : B'.get (Reps.C.next + 1) = some (.arr 100 [ptr Reps.C.next, .int .i64 0, .int .u64 0, .bool false] .own) := by
    rw [hB', Hp.get_push, if_pos (by simp)]
  have hf : B'.get Reps.C.next = some (.arr 141 [inMax, inMax, .slice none 0 0, .int .i64 0] .own) := by
    rw [hB', Hp.get_push_ne _ _ (by simp)]; exact Hp.get_push_same _ _
  have hC2 : ∀ i o, Reps.C.get i = some o → B'.get i = some o := by
    intro i o hi
    have := (Reps.Cro i o hi).1
    rw [hB', Hp.get_push_ne _ _ (by simp; omega), Hp.get_push_ne _ _ (by omega)]; exact hi
  have hP : IsPipe B' (Reps.C.next + 1) Reps.C.next none [] 0 0 false := ⟨hp, ⟨_, hf, .nil⟩, by simp, .inl rfl⟩
  have hw : B'.wf := (hCw.push _).push _
  obtain ⟨B2, c1, c2, c3, c4, c5, c6, c7, _⟩ := hP.close hw hC2
  refine call_new hC hA (k := 1) (x := PX.new.dat) (im := []) (ims := []) rfl (by simp) ha (largs := []) .nil (v := ptr (Reps.C.next + 1)) (B' := B') (B2 := B2) (r := Reps.C.next + 1) ?_ c1 (by omega) c3
    ((hR _ _ _ _).2 ⟨rfl, c5, _, rfl, Reps.C.next, none, [], 0, c4, rfl, Nat.le_refl _, Nat.le_refl _, rfl, by simp⟩) c6 c7 (.ptr 0 (.inr ⟨rfl, rfl⟩))
  exact pipe_new nc_none 4

/-- a method that only looks -/
theorem look_call {g : Gh} {A : Hp} {w : World} (hA : RelX Tryd.prog g A w) {i : Nat} {x : PX} (hi : A.get i = some (.abs 1 x.dat)) {f : FuncId} {u : Value} (hu : plain0 u = true) {args' : Array Value} (ha : AR g.ρ [ptr i].toArray args')
    (hrun : ∀ B r, B.wf → RepP x B r → callD Tryd.bk noCalls 6 f [ptr r] B = some (u, B)) :
    Calls Tryd.prog f args' w fun e w' => ∃ v', e = .returned v' ∧ After Tryd.prog g A w u (A.set i (some (.abs 1 x.dat))) v' w' := by
  have hC := callD_ok Tryd.good (noCalls_ok _) 6
  refine call_method hC hA hi (k' := 1) (im := []) (ims := []) rfl (by simp) [] (by simp) ha (fun r _ => [ptr r]) (fun r n => .cons (.ptr 0 (.inl ⟨rfl, rfl⟩)) .nil) u ?_
  intro B r hCB hw hCn hrep
  obtain ⟨_, _, y, e1, f', io, ps, gg, r1, r2, r3, r4, r5, r6⟩ := (hR _ _ _ _).1 hrep
  obtain rfl := PX.dat_inj e1
  obtain ⟨B2, c1, c2, c3, c4, c5, c6, c7, _⟩ := r1.close hw hCB
  exact ⟨u, B, B2, [], hrun B r hw ⟨f', io, ps, gg, r1, r2, r3, r4, r5, r6⟩, c1, by omega, c3, (hR _ _ _ _).2 ⟨rfl, c5, _, rfl, f', io, ps, gg, c4, r2, r3, r4, r5, r6⟩, c6, c7, rfl, .nil, by simp, .plain hu⟩

theorem len_call {g : Gh} {A : Hp} {w : World} (hA : RelX Tryd.prog g A w) {i : Nat} {x : PX} (hi : A.get i = some (.abs 1 x.dat)) (hx : x.n ≤ 1073741824) {args' : Array Value} (ha : AR g.ρ [ptr i].toArray args') :
    Calls Tryd.prog 16 args' w fun e w' => ∃ v', e = .returned v' ∧ After Tryd.prog g A w (.int .i64 x.fl.length) (A.set i (some (.abs 1 x.dat))) v' w' :=
  look_call hR hA hi rfl ha fun B r hw hrep => by
    obtain ⟨f, io, ps, gg, r1, r2, r3, r4, r5, r6⟩ := hrep
    obtain ⟨rv, h1, h2⟩ := r1.hf
    have hfl := flow_length ps gg
    rw [r2] at hfl
    have hg : gg ≤ total ps := by
      rcases r1.hg with e | ⟨z, ps', e1, e2⟩
      · omega
      · rw [e1]; simp only [total]; omega
    have hne : f ≠ r := by rintro rfl; rw [r1.hp] at h1; cases h1
    have := pipe_len nc_none 4 r1.hp h1 hne
    rw [this]
    have e : (total ps : Int) - gg = (x.fl.length : Nat) := by omega
    rw [e, wrap64 (by omega) (by omega)]

theorem passed_call {g : Gh} {A : Hp} {w : World} (hA : RelX Tryd.prog g A w) {i : Nat} {x : PX} (hi : A.get i = some (.abs 1 x.dat)) {args' : Array Value} (ha : AR g.ρ [ptr i].toArray args') :
    Calls Tryd.prog 18 args' w fun e w' => ∃ v', e = .returned v' ∧ After Tryd.prog g A w (.int .u64 x.s) (A.set i (some (.abs 1 x.dat))) v' w' :=
  look_call hR hA hi rfl ha fun B r hw hrep => by
    obtain ⟨f, io, ps, gg, r1, _⟩ := hrep
    exact pipe_passed nc_none 5 r1.hp

theorem broken_call {g : Gh} {A : Hp} {w : World} (hA : RelX Tryd.prog g A w) {i : Nat} {x : PX} (hi : A.get i = some (.abs 1 x.dat)) {args' : Array Value} (ha : AR g.ρ [ptr i].toArray args') :
    Calls Tryd.prog 19 args' w fun e w' => ∃ v', e = .returned v' ∧ After Tryd.prog g A w (.bool x.c) (A.set i (some (.abs 1 x.dat))) v' w' :=
  look_call hR hA hi rfl ha fun B r hw hrep => by
    obtain ⟨f, io, ps, gg, r1, _⟩ := hrep
    exact pipe_broken nc_none 5 r1.hp
end Go.Dn.Pipe
end

section
namespace Go.Dn
open Classical in
/-- a function told by a relation -/
noncomputable def byRel (R : List Value → Hp → Value × Hp → Prop) (args : List Value) (A : Hp) : Option (Value × Hp) := if h : ∃ r, R args A r then some h.choose else none

theorem byRel_some {R : List Value → Hp → Value × Hp → Prop} {args : List Value} {A : Hp} {r : Value × Hp} (h : byRel R args A = some r) : R args A r := by
  unfold byRel at h
  split at h
  · rename_i hr
    cases h
    exact hr.choose_spec
  · cases h

theorem byRel_of {R : List Value → Hp → Value × Hp → Prop} {args : List Value} {A : Hp} {r : Value × Hp} (hr : R args A r) (hu : ∀ r', R args A r' → r' = r) : byRel R args A = some r := by
  unfold byRel
  have h : ∃ r, R args A r := ⟨r, hr⟩
  rw [dif_pos h]
  exact congrArg some (hu _ h.choose_spec)

theorem withCall_same {base : CallT} {f : FuncId} {F : List Value → Hp → Option (Value × Hp)} {args : List Value} {A : Hp} : withCall base f F f args A = F args A := by
  unfold withCall
  rw [Nat.beq_refl, cond_true]
theorem withCall_ne {base : CallT} {f g : FuncId} {F : List Value → Hp → Option (Value × Hp)} {args : List Value} {A : Hp} (h : Nat.beq g f = false) : withCall base f F g args A = base g args A := by
  unfold withCall
  rw [h, cond_false]
end Go.Dn
end

section
/-
  a pipe's functions, told by relations on abstract heaps
-/
namespace Go.Dn.Pipe
open Go.Proofs
set_option maxHeartbeats 4000000
set_option maxRecDepth 100000
attribute [local irreducible] Hp.get Hp.set Hp.push dappend dcopy dstore cellsAt callD loopD

theorem pipe_put0 {base : CallT} (hb : ∀ f args A, f ∉ [61, 12, 20, 38, 27] → base f args A = none) (n : Nat) {A : Hp} {p : Nat} {a b s : Value} {T : TypeId} {md : Md} (hp : A.get p = some (.arr T [a, b, s, .bool false] md)) (v : Option Addr) (c : Nat) :
    callD Tryd.bk base (n + 1) 14 [ptr p, .slice v 0 c] A = some (.tuple #[.int .i64 0, .nilIface], A) := by
  refine callD_of (hb _ _ _ (by decide)) (fn := Tryd.f14) rfl ?_
  conv => lhs; whnf
  rw [cellsAt_of hp]
  conv => lhs; whnf
  rfl

inductive NewR : List Value → Hp → Value × Hp → Prop
  | mk (A : Hp) : NewR [] A (ptr A.next, A.push (.abs 1 PX.new.dat))
inductive PutR : List Value → Hp → Value × Hp → Prop
  | put (A : Hp) (i : Nat) (x : PX) (hi : A.get i = some (.abs 1 x.dat)) (hx : x.c = false) (bi bo bn bc : Nat) (us cs : List Value) (m : Md) (hb : A.get bi = some (.arr 5 cs m)) (hpl : ∀ u ∈ cs, plain0 u = true)
      (hpu : ∀ u ∈ us, plain0 u = true) (he : elemsOf A 1 (.slice (some ⟨bi, bo, some 1⟩) bn bc) = some (bn, us)) (hus : us.length = bn) (hn : x.n + bn ≤ 1073741824) :
      PutR [ptr i, .slice (some ⟨bi, bo, some 1⟩) bn bc] A (.tuple #[.int .i64 bn, .nilIface], A.set i (some (.abs 1 (PX.dat { x with fl := x.fl ++ us, n := x.n + bn }))))
inductive MoveR : List Value → Hp → Value × Hp → Prop
  | mk (A : Hp) (i : Nat) (x : PX) (hi : A.get i = some (.abs 1 x.dat)) (n : Int) (hn : n ≤ 9223372036854775807) (hx : x.n ≤ 1073741824) (hpl : ∀ u ∈ x.fl, plain0 u = true) :
      MoveR [ptr i, .int .i64 n] A (outV A.next (x.fl.take n.toNat),
        pushL .own (A.set i (some (.abs 1 (PX.dat { x with fl := x.fl.drop n.toNat, s := IntKind.u64.wrap (x.s + ((x.fl.take n.toNat).length : Nat)) })))) (outE (x.fl.take n.toNat)))
inductive LenR : List Value → Hp → Value × Hp → Prop
  | mk (A : Hp) (i : Nat) (x : PX) (hi : A.get i = some (.abs 1 x.dat)) (hx : x.n ≤ 1073741824) : LenR [ptr i] A (.int .i64 x.fl.length, A.set i (some (.abs 1 x.dat)))
inductive PassedR : List Value → Hp → Value × Hp → Prop
  | mk (A : Hp) (i : Nat) (x : PX) (hi : A.get i = some (.abs 1 x.dat)) : PassedR [ptr i] A (.int .u64 x.s, A.set i (some (.abs 1 x.dat)))
inductive BrokenR : List Value → Hp → Value × Hp → Prop
  | mk (A : Hp) (i : Nat) (x : PX) (hi : A.get i = some (.abs 1 x.dat)) : BrokenR [ptr i] A (.bool x.c, A.set i (some (.abs 1 x.dat)))

theorem same_px {A : Hp} {i : Nat} {x y : PX} (h1 : A.get i = some (.abs 1 x.dat)) (h2 : A.get i = some (.abs 1 y.dat)) : x = y := by
  rw [h1] at h2
  have := Option.some.inj h2
  simp only [Ob.abs.injEq, true_and] at this
  exact PX.dat_inj this

theorem NewR.one {A : Hp} {args : List Value} {r r' : Value × Hp} (h : NewR args A r) (h' : NewR args A r') : r' = r := by
  cases h; cases h'; rfl
theorem LenR.one {A : Hp} {args : List Value} {r r' : Value × Hp} (h : LenR args A r) (h' : LenR args A r') : r' = r := by
  cases h with | mk _ i x hi _ => cases h' with | mk _ _ y hj => rw [same_px hj hi]
theorem PassedR.one {A : Hp} {args : List Value} {r r' : Value × Hp} (h : PassedR args A r) (h' : PassedR args A r') : r' = r := by
  cases h with | mk _ i x hi => cases h' with | mk _ _ y hj => rw [same_px hj hi]
theorem BrokenR.one {A : Hp} {args : List Value} {r r' : Value × Hp} (h : BrokenR args A r) (h' : BrokenR args A r') : r' = r := by
  cases h with | mk _ i x hi => cases h' with | mk _ _ y hj => rw [same_px hj hi]
theorem MoveR.one {A : Hp} {args : List Value} {r r' : Value × Hp} (h : MoveR args A r) (h' : MoveR args A r') : r' = r := by
  cases h with | mk _ i x hi => cases h' with | mk _ _ y hj => rw [same_px hj hi]
theorem PutR.one {A : Hp} {args : List Value} {r r' : Value × Hp} (h : PutR args A r) (h' : PutR args A r') : r' = r := by
  cases h with
  | put _ i x hi hx bi bo bn bc us cs m hb hpl hpu he hus hn =>
    cases h' with
    | put _ _ y hj hy _ _ _ _ us' cs' m' hb' hpl' hpu' he' hus' hn' =>
      rw [same_px hj hi]
      rw [he] at he'
      cases he'
      rfl
end Go.Dn.Pipe
end

section
/-
  the pipe's functions as known calls
-/
namespace Go.Dn.Pipe
open Go.Proofs
set_option maxHeartbeats 4000000
set_option maxRecDepth 100000
attribute [local irreducible] Hp.get Hp.set Hp.push dappend dcopy dstore cellsAt callD loopD

theorem fn13 : ∃ x, Tryd.prog.funcs[13]? = some x ∧ x.body.isSome = true ∧ (x.name == "runtime.NumGoroutine") = false := ⟨Tryd.f13, by kernel_rfl, by kernel_rfl, by kernel_rfl⟩
theorem fn14 : ∃ x, Tryd.prog.funcs[14]? = some x ∧ x.body.isSome = true ∧ (x.name == "runtime.NumGoroutine") = false := ⟨Tryd.f14, by kernel_rfl, by kernel_rfl, by kernel_rfl⟩
theorem fn16 : ∃ x, Tryd.prog.funcs[16]? = some x ∧ x.body.isSome = true ∧ (x.name == "runtime.NumGoroutine") = false := ⟨Tryd.f16, by kernel_rfl, by kernel_rfl, by kernel_rfl⟩
theorem fn17 : ∃ x, Tryd.prog.funcs[17]? = some x ∧ x.body.isSome = true ∧ (x.name == "runtime.NumGoroutine") = false := ⟨Tryd.f17, by kernel_rfl, by kernel_rfl, by kernel_rfl⟩
theorem fn18 : ∃ x, Tryd.prog.funcs[18]? = some x ∧ x.body.isSome = true ∧ (x.name == "runtime.NumGoroutine") = false := ⟨Tryd.f18, by kernel_rfl, by kernel_rfl, by kernel_rfl⟩
theorem fn19 : ∃ x, Tryd.prog.funcs[19]? = some x ∧ x.body.isSome = true ∧ (x.name == "runtime.NumGoroutine") = false := ⟨Tryd.f19, by kernel_rfl, by kernel_rfl, by kernel_rfl⟩

noncomputable def T3 (base : CallT) : CallT := withCall (withCall (withCall (withCall (withCall (withCall base 13 (byRel NewR)) 14 (byRel PutR)) 16 (byRel LenR)) 17 (byRel MoveR)) 18 (byRel PassedR)) 19 (byRel BrokenR)

variable [Reps] (hR : ∀ k d B r, Reps.rep k d B r ↔ repP k d B r)
include hR

theorem put0_call {g : Gh} {A : Hp} {w : World} (hA : RelX Tryd.prog g A w) {i : Nat} {x : PX} (hi : A.get i = some (.abs 1 x.dat)) (hx : x.c = false) {bi bo bc : Nat} {cs : List Value} {m : Md}
    (hb : A.get bi = some (.arr 5 cs m)) (hpl : ∀ u ∈ cs, plain0 u = true) {args' : Array Value} (ha : AR g.ρ [ptr i, .slice (some ⟨bi, bo, some 1⟩) 0 bc].toArray args') :
    Calls Tryd.prog 14 args' w fun e w' => ∃ v', e = .returned v' ∧ After Tryd.prog g A w (.tuple #[.int .i64 0, .nilIface]) (A.set i (some (.abs 1 x.dat))) v' w' := by
  have hC := callD_ok Tryd.good (noCalls_ok _) 6
  refine call_method hC hA hi (k' := 1) (im := [(5, cs)]) (ims := [bi]) rfl ?_ [] (by simp) ha (fun r n => [ptr r, .slice (some ⟨n, bo, some 1⟩) 0 bc]) ?_ (.tuple #[.int .i64 0, .nilIface]) ?_
  · intro t e j h1 h2
    match t, h1, h2 with
    | 0, h1, h2 =>
      simp only [List.getElem?_cons_zero, Option.some.injEq] at h1 h2
      subst h1 h2
      exact ⟨⟨m, hb⟩, hpl⟩
  · intro r n
    exact .cons (.ptr 0 (.inl ⟨rfl, rfl⟩)) (.cons (.slice bo 1 0 bc (.inr (.inr ⟨0, rfl, rfl⟩))) .nil)
  · intro B r hCB hw hCn hrep
    obtain ⟨_, _, y, e1, f, io, ps, gg, r1, r2, r3, r4, r5, r6⟩ := (hR _ _ _ _).1 hrep
    obtain rfl := PX.dat_inj e1
    have hP : IsPipe (B.push (.arr 5 cs .sh)) r f io ps gg x.s x.c := r1.keep fun j o hj _ => Hp.get_push_ne _ _ (by have := hw.lt hj; omega)
    have hCA : ∀ i o, Reps.C.get i = some o → (B.push (.arr 5 cs .sh)).get i = some o := fun j o hj => by
      have := (Reps.Cro j o hj).1
      rw [Hp.get_push_ne _ _ (by omega)]; exact hCB j o hj
    obtain ⟨B2, c1, c2, c3, c4, c5, c6, c7, _⟩ := hP.close (hw.push _) hCA
    have hp := hP.hp
    rw [hx] at hp
    refine ⟨_, _, B2, [], pipe_put0 nc_none 5 hp _ _, c1, by omega, c3, (hR _ _ _ _).2 ⟨rfl, c5, _, rfl, f, io, ps, gg, c4, r2, r3, r4, r5, r6⟩, c6, c7, rfl, .nil, by simp, ?_⟩
    exact VM.tuples (us := [.int .i64 0, .nilIface]) (vs := [.int .i64 0, .nilIface]) (.cons (.plain rfl) (.cons (.plain rfl) .nil))

theorem T3_ok {base : CallT} (hB : CallOK Tryd.prog base) (hCw : Reps.C.wf) : CallOK Tryd.prog (T3 base) := by
  refine withCall_ok (withCall_ok (withCall_ok (withCall_ok (withCall_ok (withCall_ok hB fn13 ?_) fn14 ?_) fn16 ?_) fn17 ?_) fn18 ?_) fn19 ?_
  · intro args A v A' h ρ w args' hr ha
    have h := byRel_some h
    cases h
    exact new_call hR hr hCw ha
  · intro args A v A' h ρ w args' hr ha
    have h := byRel_some h
    cases h with
    | put _ i x hi hx bi bo bn bc us cs m hb hpl hpu he hus hn =>
      rcases Nat.eq_zero_or_pos bn with e | e
      · subst e
        have : us = [] := List.eq_nil_of_length_eq_zero hus
        subst this
        have e2 : ({ x with fl := x.fl ++ [], n := x.n + 0 } : PX) = x := by rw [List.append_nil]; rfl
        rw [e2]
        exact put0_call hR hr hi hx hb hpl ha
      · exact put_call hR hr hi hx hb hpl hpu he hus e hn ha
  · intro args A v A' h ρ w args' hr ha
    have h := byRel_some h
    cases h with
    | mk _ i x hi hx => exact len_call hR hr hi hx ha
  · intro args A v A' h ρ w args' hr ha
    have h := byRel_some h
    cases h with
    | mk _ i x hi n hn hx hpl => exact move_call hR hr hi hn hx hpl ha
  · intro args A v A' h ρ w args' hr ha
    have h := byRel_some h
    cases h with
    | mk _ i x hi => exact passed_call hR hr hi ha
  · intro args A v A' h ρ w args' hr ha
    have h := byRel_some h
    cases h with
    | mk _ i x hi => exact broken_call hR hr hi ha
end Go.Dn.Pipe
end

section
namespace Go.Dn
theorem kdec {p : Prop} [Decidable p] (h : p) : decide p = true := decide_eq_true h
theorem kdecn {p : Prop} [Decidable p] (h : ¬ p) : decide p = false := decide_eq_false h
theorem callD_base {B : Bk} {base : CallT} {f : FuncId} {args : List Value} {A : Hp} {r : Value × Hp} (hb : base f args A = some r) : ∀ n, callD B base n f args A = some r
  | 0 => hb
  | n + 1 => by simp only [callD, hb]
theorem cellsAt_push_same {A : Hp} {T : TypeId} {cs : List Value} {md : Md} (o n : Nat) : cellsAt (A.push (.arr T cs md)) A.next o n = cellsIn cs o n := cellsAt_of (Hp.get_push_same _ _) o n
theorem cellsAt_push_ne {A : Hp} {ob : Ob} {i o n : Nat} (h : i ≠ A.next) : cellsAt (A.push ob) i o n = cellsAt A i o n := by
  unfold cellsAt; rw [Hp.get_push_ne _ _ h]
theorem cellsAt_set_same {A : Hp} {T : TypeId} {cs : List Value} {md : Md} {i : Nat} (o n : Nat) : cellsAt (A.set i (some (.arr T cs md))) i o n = cellsIn cs o n := cellsAt_of (Hp.get_set_same _ _ _) o n
theorem cellsAt_set_ne {A : Hp} {ob : Option Ob} {i j o n : Nat} (h : i ≠ j) : cellsAt (A.set j ob) i o n = cellsAt A i o n := by
  unfold cellsAt; rw [Hp.get_set_ne _ _ h]
theorem loopD_end {ks : Option (List Nat)} {f : Sl → Hp → Option (Ex × Sl × Hp)} {n : Nat} {σ σ1 : Sl} {A A1 : Hp} {e : Ex} (h : f σ A = some (e, σ1, A1)) (he : e ≠ .normal) : loopD ks f (n + 1) σ A = some (e, keepSl ks σ1, A1) := by
  simp only [loopD, h, Option.bind_some]
theorem Hp.get_push_at {A : Hp} {i : Nat} (o : Ob) (h : i = A.next) : (A.push o).get i = some o := by subst h; exact Hp.get_push_same _ _
end Go.Dn
end

section
/-
  constants of a law's own list
-/
namespace Go.Dn.Pipe
open Go.Proofs

/-- a heap of these sentinels alone -/
def mkC (gs : List Nat) : Hp := gs.foldr (fun g A => A.set g (some (er g))) ⟨86, .nil⟩

theorem mkC_next (gs : List Nat) : (mkC gs).next = 86 := by
  induction gs with
  | nil => rfl
  | cons g l ih => exact ih
theorem mkC_get {gs : List Nat} {i : Nat} {o : Ob} (h : (mkC gs).get i = some o) : i ∈ gs ∧ o = er i := by
  induction gs with
  | nil =>
    have : (⟨86, .nil⟩ : Hp).get i = none := by
      show Tr.get Tr.nil i = none
      simp
    rw [show mkC [] = ⟨86, .nil⟩ from rfl, this] at h
    cases h
  | cons g l ih =>
    have hh : ((mkC l).set g (some (er g))).get i = some o := h
    by_cases e : i = g
    · subst e
      rw [Hp.get_set_same] at hh
      cases hh
      exact ⟨by simp, rfl⟩
    · rw [Hp.get_set_ne _ _ e] at hh
      obtain ⟨h1, h2⟩ := ih hh
      exact ⟨by simp [h1], h2⟩
theorem mkC_has {gs : List Nat} {g : Nat} (h : g ∈ gs) : (mkC gs).get g = some (er g) := by
  induction gs with
  | nil => cases h
  | cons x l ih =>
    show ((mkC l).set x (some (er x))).get g = _
    by_cases e : g = x
    · subst e; exact Hp.get_set_same _ _ _
    · rw [Hp.get_set_ne _ _ e]
      exact ih (by simpa [e] using h)
theorem mkC_wf {gs : List Nat} (h : ∀ g ∈ gs, g < 86) : (mkC gs).wf := by
  intro i hi
  rw [mkC_next] at hi
  cases hg : (mkC gs).get i with
  | none => rfl
  | some o =>
    have := h i (mkC_get hg).1
    omega

/-- the document's example, run on the constants -/
theorem wakes_known [Reps] (h : (callD Tryd.bk noCalls 20 12 [] Reps.C).map (·.1) = some (.bool true)) : CallOK Tryd.prog (withCall noCalls 12 wakesF) := by
  refine withCall_ok (noCalls_ok _) fn12 fun args A v A' h1 ρ w args' hr ha => ?_
  unfold wakesF at h1
  split at h1
  · cases h1
    cases hc : callD Tryd.bk noCalls 20 12 [] Reps.C with
    | none => rw [hc] at h; cases h
    | some r =>
      obtain ⟨v, B'⟩ := r
      rw [hc] at h
      cases h
      exact closed_ok (callD_ok Tryd.good (noCalls_ok _) 20) hc .nil rfl ρ A w args' hr ha
  · cases h1
end Go.Dn.Pipe
end

section
namespace Go.Dn.Pipe
open Go.Proofs
set_option maxHeartbeats 4000000
set_option maxRecDepth 100000
attribute [local irreducible] Hp.get Hp.set Hp.push dappend dcopy dstore cellsAt callD loopD

/-- bytes of one's own -/
theorem copied_walk {call : CallT} (lf : Nat) {A : Hp} (hw : A.wf) {x : Value} {us : List Value} (hx : elemsOf A 1 x = some (us.length, us)) (hl : us.length ≤ 140737488355328) (hl2 : us.length ≤ maxLen) :
    ∃ i o c A', kfn Tryd.bk.E call (Tryd.bk.inf 15) lf Tryd.f15 [x] A = some (.slice (some ⟨i, o, some 1⟩) us.length c, A') ∧ SlAt 5 1 A' (.slice (some ⟨i, o, some 1⟩) us.length c) (some i) us us.length ∧ A'.wf ∧ A.next ≤ i ∧ i < A'.next ∧ (∀ j, j < A.next → A'.get j = A.get j) := by
  have h1 : SlAt 5 1 (A.push (.arr 5 [] .own)) (.slice (some ⟨A.next, 0, some 1⟩) 0 1) (some A.next) [] 0 := .at A.next 0 0 1 [] [] (.inr rfl) (Hp.get_push_same _ _) (by simp) rfl
  have h2 : elemsOf (A.push (.arr 5 [] .own)) 1 x = some (us.length, us) := elemsOf_keep hx fun i o hi _ => Hp.get_push_ne _ _ (by have := hw.lt hi; omega)
  obtain ⟨v', A2, io', a1, a2, a3, a4, a5, a6⟩ := append_at elB elB2 h1 h2 (by simp) (by omega) (by omega)
  simp only [Hp.next_push, List.nil_append, Nat.zero_add] at a2 a3 a5 a6
  have hrun : kfn Tryd.bk.E call (Tryd.bk.inf 15) lf Tryd.f15 [x] A = some (v', A2) := by
    conv => lhs; whnf
    refine bind_of a1 ?_
    conv => lhs; whnf
    rfl
  obtain ⟨i, hi, hi1, hi2⟩ : ∃ i, io' = some i ∧ A.next ≤ i ∧ i < A2.next := by
    rcases a6 with ⟨e1, e2, _, _⟩ | ⟨i', e1, e2, e3⟩
    · exact ⟨A.next, e1, Nat.le_refl _, by rw [e2]; simp⟩
    · exact ⟨i', e1, by omega, e3⟩
  subst hi
  have hfr : ∀ j, j < A.next → A2.get j = A.get j := fun j hj => by
    rw [a5 j (by omega) (fun e => by cases e; omega), Hp.get_push_ne _ _ (by omega)]
  have hw2 := a4 (hw.push _)
  cases a2 with
  | «at» _ o _ c cs _ q1 q2 q3 q4 => exact ⟨i, o, c, A2, hrun, .at i o _ c cs us q1 q2 q3 q4, hw2, hi1, hi2, hfr⟩

end Go.Dn.Pipe
end
