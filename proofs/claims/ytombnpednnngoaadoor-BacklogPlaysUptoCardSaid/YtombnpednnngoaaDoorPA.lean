/-
  Part of the abstract machine for this program.
-/
import Derived.Test.YtombnpednnngoaaDoorDnG
import Derived.RangeFuncBox
import Derived.RangeFuncLeaves
import Derived.Shelf.Abstract
import Derived.WalkKit
import Derived.OwnWalkIn
import Derived.TacticsInMore
import Derived.LoopNIn
import Derived.LoopIn
import Derived.Test.YtombnpednnngoaaDoorProg
import Derived.Test.YtombnpednnngoaaDoorChecked
import Derived.LaidEql
import Derived.Stop.Asserts
import Derived.RowKitTokens

section
/-
  layer 3 (fifo): what a queue's iterator says, in the model
-/
namespace Go.Proofs
open Go.RowKit Go.Shelf

attribute [local go_sem] Oper.semAt_some

set_option maxRecDepth 100000 in
set_option maxHeartbeats 2000000 in
/-- the iterator of a queue: its rounds, one for each row -/
theorem Tryd.all1_in (l Bs q b off len cap : Nat) (zs : List (Int × Int)) (hlen : zs.length = len) (hreach : len * 16 ≤ 140737488351232) (keep : Nat → Prop) (hkb : keep b)
    (J Jx : Nat → World → Prop) (hJ : ∀ k W1 W2, J k W1 → Below W1.heap.size W1 W2 → J k W2)
    (hY : ∀ (k : Nat) z W1, J k W1 → zs[k]? = some z → YieldAt Fence.wide 2 Tryd.prog l #[.int .u32 z.1, .int .i64 z.2] W1 fun e W' =>
      (e = .returned (.bool true) ∧ J (k + 1) W' ∧ W1.heap.size ≤ W'.heap.size ∧ ∀ b, b < W1.heap.size → keep b → W'.heap[b]? = W1.heap[b]?) ∨ (e = .returned (.bool false) ∧ Jx (k + 1) W'))
    (W : World) (hb : b < W.heap.size) (hBs : W.cell? ⟨Bs, q, none⟩ = some (.slice (some ⟨b, off, none⟩) len cap)) (hc : ∀ (j : Nat) z, zs[j]? = some z → W.cell? ⟨b, off + j * 2, none⟩ = some (.int .u32 z.1) ∧ W.cell? ⟨b, off + j * 2 + 1, none⟩ = some (.int .i64 z.2)) (h0 : J 0 W) :
    CallsIn Fence.wide 3 Tryd.prog 110 #[.func (.yield l) #[] #[], .pointer (some ⟨Bs, q, none⟩)] W fun e W' => (∃ v, e = .returned v) ∧ (J len W' ∨ ∃ k, Jx k W') := by
  have hn : 1 ≤ 3 := by omega
  refine callsIn_of_wp Tryd.func110 rfl trivial ?_ rfl
  simp only [Tryd.ntmps110, List.size_toArray, List.length_cons, List.length_nil, Nat.reduceAdd, Nat.reduceSub, Array.replicate_succ, Array.replicate_zero, List.push_toArray, List.append_toArray, List.nil_append, List.cons_append]
  gi_wp2
  gi_loopw [7] (fun i wr => ∃ k : Nat, k ≤ len ∧ i = .int .i64 k ∧ J k wr ∧ W.heap.size ≤ wr.heap.size ∧ ∀ b, b < W.heap.size → keep b → wr.heap[b]? = W.heap[b]?)
    (fun i _ => len - (intOf i).toNat)
  case atStart => exact ⟨0, Nat.zero_le _, rfl, h0, Nat.le_refl _, fun _ _ _ => rfl⟩
  case round =>
    obtain ⟨k, hk, rfl, hJs, hsz, hkp⟩ := hrel
    by_cases hlt : k < len
    · obtain ⟨z, hzk⟩ : ∃ z, zs[k]? = some z := ⟨_, List.getElem?_eq_getElem (by omega)⟩
      obtain ⟨hw1, hw2⟩ := hc k z hzk
      have hc1 : wr.cell? ⟨b, off + k * 2, none⟩ = some (.int .u32 z.1) := (World.cell?_of_block (w := W) (hkp b hb hkb)).trans hw1
      have hc2 : wr.cell? ⟨b, off + k * 2 + 1, none⟩ = some (.int .i64 z.2) := (World.cell?_of_block (w := W) (hkp b hb hkb)).trans hw2
      have hJ2 := hJ k wr (wr.alloc (Obj.cells #[.int .u32 z.1, .int .i64 z.2] 178)) hJs ((Below.refl _ wr).alloc (Nat.le_refl _) _)
      obtain ⟨fn, tmps, assign, body, hy, hR⟩ := hY k z _ hJ2 hzk
      gi_wp2
      refine hR.mono ?_
      rintro e W3 (⟨rfl, hJ3, hs3, hk3⟩ | ⟨rfl, hJx3⟩)
      · gi_wp2
        go_roundw
        case rel =>
          refine ⟨k + 1, by omega, by simp, hJ3, by simp at hs3; omega, fun c hcl hck => ?_⟩
          rw [hk3 c (by simp; omega) hck, ← hkp c hcl hck]
          exact Below.heap_alloc _ _ _ (by omega)
        case measure => simp [intOf]; omega
      · gi_wp2
        refine bodyPost_ret (results_none rfl _ _ _) rfl ?_
        exact ⟨⟨_, rfl⟩, .inr ⟨_, hJx3⟩⟩
    · obtain rfl : k = len := by omega
      gi_wp2
      go_end0
      exact ⟨⟨_, rfl⟩, .inl hJs⟩

set_option maxRecDepth 100000 in
set_option maxHeartbeats 2000000 in
/-- .. at the nil slice: no round -/
theorem Tryd.all1_nil_in (l Bs q : Nat) (a : Option Addr) (cap : Nat) (J : Nat → World → Prop) (W : World) (hBs : W.cell? ⟨Bs, q, none⟩ = some (.slice a 0 cap)) (h0 : J 0 W) :
    CallsIn Fence.wide 3 Tryd.prog 110 #[.func (.yield l) #[] #[], .pointer (some ⟨Bs, q, none⟩)] W fun e W' => (∃ v, e = .returned v) ∧ J 0 W' := by
  refine callsIn_of_wp Tryd.func110 rfl trivial ?_ rfl
  simp only [Tryd.ntmps110, List.size_toArray, List.length_cons, List.length_nil, Nat.reduceAdd, Nat.reduceSub, Array.replicate_succ, Array.replicate_zero, List.push_toArray, List.append_toArray, List.nil_append, List.cons_append]
  gi_wp2
  gi_loopw [7] (fun i wr => i = .int .i64 0 ∧ J 0 wr) (fun _ _ => 0)
  case atStart => exact ⟨rfl, h0⟩
  case round =>
    obtain ⟨rfl, hJs⟩ := hrel
    gi_wp2
    go_end0
    exact ⟨⟨_, rfl⟩, hJs⟩
end Go.Proofs
end

section
namespace Go.Proofs.YtombnpednnngoaaDoor
open Go.RowKit Go.Extern.Stop Go.Stop Go.Extern
set_option maxRecDepth 100000

/-! ### CLOSED FACTS: what 'reflectlite.TypeOf(target).Comparable()' gives at such a target -/
theorem isTypeOf (v : Value) (w : World) : (Extern.ReflectliteType.typeOf #[.iface 206 v]).run Tryd.prog w = .ok (.iface 192 (.agg #[.pointer (some ⟨44, 206, none⟩)])) w := by kernel_rfl
theorem isComparable (w : World) : ((Extern.ReflectliteType.method fun t => do Extern.Rtype.noPackHeld "Comparable" t; (fun a => Value.bool a.comparable) <$> typeInfo t) #[.agg #[.pointer (some ⟨44, 206, none⟩)]]).run Tryd.prog w = .ok (.bool true) w := by kernel_rfl
theorem isMethodComparable (v : Value) (w : World) : (Go.method 341 192 v "Comparable").run Tryd.prog w = .ok (139, v) w := by kernel_rfl
theorem isComp : (Tryd.prog.info? 206).map (·.comparable) = some true := by kernel_rfl
theorem isSize : (Tryd.prog.info? 230).map (·.size) = some 1 := by kernel_rfl

/-! ### CLOSED FACTS ON THE METHOD SETS: what errors.is's assertions find -/
theorem noIsE (v : Value) (xT : TypeId) (w : World) : (Instr.typeAssert (.iface 206 v) xT 194 true).run Tryd.prog w = .ok (.tuple #[.nilIface, .bool false]) w := run_typeAssert_lacksB Tryd.underlying194 (by kernel_rfl) (by kernel_rfl) v xT w
theorem noUnwrapE (v : Value) (xT : TypeId) (w : World) : (Instr.typeAssert (.iface 206 v) xT 197 true).run Tryd.prog w = .ok (.tuple #[.nilIface, .bool false]) w := run_typeAssert_lacksB Tryd.underlying197 (by kernel_rfl) (by kernel_rfl) v xT w
theorem noUnwrapsE (v : Value) (xT : TypeId) (w : World) : (Instr.typeAssert (.iface 206 v) xT 199 true).run Tryd.prog w = .ok (.tuple #[.nilIface, .bool false]) w := run_typeAssert_lacksB Tryd.underlying199 (by kernel_rfl) (by kernel_rfl) v xT w

/-- errors.Is(x, x), x a pointer to an errors.errorString. -/
theorem is_same (a : Addr) (w : World) :
    Calls Tryd.prog 66 #[.iface 206 (.pointer (some a)), .iface 206 (.pointer (some a))] w fun e w' => e = .returned (.bool true) ∧ w' = w := by
  obtain ⟨i, hi, hcmp⟩ := Option.map_eq_some_iff.1 isComp
  obtain ⟨j, hj, hjs⟩ := Option.map_eq_some_iff.1 isSize
  have h8 := @run_callFunc_extern Tryd.prog 107 _ Extern.ReflectliteType.typeOf Tryd.func107 (by kernel_rfl) (by kernel_rfl) (by kernel_rfl) (by kernel_rfl)
  have h32 := @run_callFunc_extern Tryd.prog 139 _ (Extern.ReflectliteType.method fun t => do Extern.Rtype.noPackHeld "Comparable" t; pure (.bool (← typeInfo t).comparable)) Tryd.func139 (by kernel_rfl) (by kernel_rfl) (by kernel_rfl) (by kernel_rfl)
  have tT := isTypeOf
  have cT := isComparable
  have mR := isMethodComparable
  have heq := run_eql_iface_ptr_same (P := Tryd.prog) w a Tryd.underlying31 Tryd.underlying206 hi hcmp hj
  go_enter Tryd.func66, Tryd.ntmps66
  go_wp2
  refine wp_loop_rounds 1 ?_
  rw [rounds_succ]
  go_wp2
  go_ret
  exact ⟨rfl, rfl⟩

/-- errors.Is(nil, x). -/
theorem is_nil (b : Addr) (w : World) :
    Calls Tryd.prog 66 #[.nilIface, .iface 206 (.pointer (some b))] w fun e w' => e = .returned (.bool false) ∧ w' = w := by
  have hn := run_eql_iface_nil_left (P := Tryd.prog) w 206 (.pointer (some b)) Tryd.underlying31
  go_enter Tryd.func66, Tryd.ntmps66
  go_wp2
  go_ret
  exact ⟨rfl, rfl⟩

/-- errors.Is(x, y), two different pointers to errors.errorString: neither has Is nor Unwrap: false. -/
theorem is_other (a b : Addr) (ca cb : Array Value) (ta tb : TypeId) (w : World) (hne : a ≠ b) (ha : w.heap[a.block]? = some (.cells ca ta (0, 0))) (hb : w.heap[b.block]? = some (.cells cb tb (0, 0))) :
    Calls Tryd.prog 66 #[.iface 206 (.pointer (some a)), .iface 206 (.pointer (some b))] w fun e w' => e = .returned (.bool false) ∧ w' = w := by
  obtain ⟨i, hi, hcmp⟩ := Option.map_eq_some_iff.1 isComp
  obtain ⟨j, hj, hjs⟩ := Option.map_eq_some_iff.1 isSize
  have h8 := @run_callFunc_extern Tryd.prog 107 _ Extern.ReflectliteType.typeOf Tryd.func107 (by kernel_rfl) (by kernel_rfl) (by kernel_rfl) (by kernel_rfl)
  have h32 := @run_callFunc_extern Tryd.prog 139 _ (Extern.ReflectliteType.method fun t => do Extern.Rtype.noPackHeld "Comparable" t; pure (.bool (← typeInfo t).comparable)) Tryd.func139 (by kernel_rfl) (by kernel_rfl) (by kernel_rfl) (by kernel_rfl)
  have tT := isTypeOf
  have cT := isComparable
  have mR := isMethodComparable
  have nE := noIsE
  have uE := noUnwrapE
  have vE := noUnwrapsE
  have heq := run_eql_iface_ptr_other (P := Tryd.prog) w Tryd.underlying31 Tryd.underlying206 hi hcmp hj (by rw [hjs]; decide) hne ha hb
  go_enter Tryd.func66, Tryd.ntmps66
  go_wp2
  refine wp_loop_rounds 1 ?_
  rw [rounds_succ]
  go_wp2
  go_ret
  exact ⟨rfl, rfl⟩


end Go.Proofs.YtombnpednnngoaaDoor
end
