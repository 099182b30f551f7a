/-
  Part of the abstract machine for this program.
-/
import Derived.Test.YtleljjahgofbcaaDoorDnN
import Derived.Test.YtleljjahgofbcaaDoorDnL
import Derived.Test.YtleljjahgofbcaaDoorDnJ

section
/-
  Cut
-/
namespace Go.Dn.Pipe
open Go.Proofs
set_option maxHeartbeats 4000000
set_option maxRecDepth 100000
attribute [local irreducible] Hp.get Hp.set Hp.push dappend dcopy dstore cellsAt callD loopD

theorem rows_cell {cs us : List Value} {o m : Nat} (hl : o + m * 2 ≤ cs.length) (hu : (cs.drop o).take (m * 2) = us) {i : Nat} (hi : i < m) : ∃ x y, us[2 * i]? = some x ∧ us[2 * i + 1]? = some y ∧ cellsIn cs (o + i * 2) 2 = some [x, y] := by
  have h1 : us.length = m * 2 := by rw [← hu]; simp; omega
  obtain ⟨x, g1⟩ : ∃ x, us[2 * i]? = some x := ⟨_, List.getElem?_eq_getElem (by omega)⟩
  obtain ⟨y, g2⟩ : ∃ y, us[2 * i + 1]? = some y := ⟨_, List.getElem?_eq_getElem (by omega)⟩
  refine ⟨x, y, g1, g2, cellsIn_of (by omega) ?_⟩
  rw [← hu, List.getElem?_take, if_pos (by omega), List.getElem?_drop] at g1 g2
  apply List.ext_getElem?
  intro j
  rw [List.getElem?_take]
  match j with
  | 0 => rw [if_pos (by omega), List.getElem?_drop, show o + i * 2 + 0 = o + 2 * i by omega, g1]; rfl
  | 1 => rw [if_pos (by omega), List.getElem?_drop, show o + i * 2 + 1 = o + (2 * i + 1) by omega, g2]; rfl
  | j + 2 => rw [if_neg (by omega)]; rfl

variable {base : CallT} (hb : ∀ f args A, f ∉ [61, 12, 20, 38, 27] → base f args A = none)
include hb

def clo : Value := .func (.func 60) #[] #[]

theorem cut_all (n : Nat) (x : Value) (A : Hp) : callD Tryd.bk base (n + 1) 60 [x] A = some (.bool true, A) := by
  refine callD_of (hb _ _ _ (by decide)) (fn := Tryd.f60) rfl ?_
  conv => lhs; whnf
  rfl

omit hb in
theorem ks59 : keepOf (Tryd.bk.inf 59) (loopOf Tryd.f59 0) = some [0, 1, 4, 5, 6, 20, 21, 22] := rfl

theorem clear_loop (n : Nat) {A0 : Hp} {f : Nat} {ri ro rc m : Nat} {cs us : List Value} (hw : A0.wf) (hg : A0.get ri = some (.arr 143 cs .own)) (hl : ro + m * 2 ≤ cs.length) (hu : (cs.drop ro).take (m * 2) = us) (hm : m ≤ 2000000000) (hn : m ≤ n) (hc : m ≤ rc / 2) (hrow : ∀ i, i < m → ∃ a n' c' k, us[2 * i]? = some (.slice a n' c') ∧ us[2 * i + 1]? = some (.int .i64 k)) :
    ∃ A1, loopD (some [0, 1, 4, 5, 6, 20, 21, 22]) (exec Tryd.bk.E (callD Tryd.bk base (n + 1)) Tryd.f59.ntmps (Tryd.bk.inf 59) (n + 1) (loopOf Tryd.f59 0)) (n + 1)
        [(0, ptr f), (1, clo), (4, .int .i64 0), (5, .slice none 0 0), (6, .int .i64 0), (20, .slice (some ⟨ri, ro, some 2⟩) m rc), (21, .int .i64 (m : Nat)), (22, .int .i64 ((0 : Nat) : Int))] A0 =
      some (.exit 0, [(0, ptr f), (1, clo), (4, .int .i64 0), (5, .slice none 0 0), (6, .int .i64 0), (20, .slice (some ⟨ri, ro, some 2⟩) m rc), (21, .int .i64 (m : Nat)), (22, .int .i64 (m : Nat))], A1) ∧ A1.wf ∧ A0.next ≤ A1.next ∧ ∀ j, j < A0.next → A1.get j = A0.get j := by
  have key := loop_rule (ks := some [0, 1, 4, 5, 6, 20, 21, 22]) (f := exec Tryd.bk.E (callD Tryd.bk base (n + 1)) Tryd.f59.ntmps (Tryd.bk.inf 59) (n + 1) (loopOf Tryd.f59 0)) (S := Nat)
    (fun i => [(0, ptr f), (1, clo), (4, .int .i64 0), (5, .slice none 0 0), (6, .int .i64 0), (20, .slice (some ⟨ri, ro, some 2⟩) m rc), (21, .int .i64 (m : Nat)), (22, .int .i64 (i : Nat))])
    (fun i A => i ≤ m ∧ A.wf ∧ A0.next ≤ A.next ∧ ∀ j, j < A0.next → A.get j = A0.get j) (fun i => m - i)
    (fun e σ A1 => e = .exit 0 ∧ σ = [(0, ptr f), (1, clo), (4, .int .i64 0), (5, .slice none 0 0), (6, .int .i64 0), (20, .slice (some ⟨ri, ro, some 2⟩) m rc), (21, .int .i64 (m : Nat)), (22, .int .i64 (m : Nat))] ∧ A1.wf ∧ A0.next ≤ A1.next ∧ ∀ j, j < A0.next → A1.get j = A0.get j) (fun i A hI => ?_)
    (n + 1) 0 A0 ⟨Nat.zero_le _, hw, Nat.le_refl _, fun _ _ => rfl⟩ (by omega)
  · obtain ⟨e, σ1, A1, k1, rfl, rfl, k2, k3, k4⟩ := key
    exact ⟨A1, k1, k2, k3, k4⟩
  · obtain ⟨hi, i1, i2, i3⟩ := hI
    by_cases him : i < m
    · obtain ⟨x, y, r1, r2, r3⟩ := rows_cell hl hu him
      obtain ⟨ra, rn, rk, ry, s1, s2⟩ := hrow i him
      rw [r1] at s1; rw [r2] at s2
      cases s1; cases s2
      have hgA : A.get ri = some (.arr 143 cs .own) := by rw [i3 ri (hw.lt hg)]; exact hg
      have hw2 : IntKind.i64.wrap ((i : Int) + 1) = ((i + 1 : Nat) : Int) := by rw [wrap64 (by omega) (by omega)]; omega
      have d1 : ((i : Nat) : Int) < ((m : Nat) : Int) := by omega
      refine ⟨.normal, ?s, ?A1, kexec_run ?run, .inl ⟨rfl, i + 1, ?kp, ⟨by omega, ?w, ?nx, ?fr⟩, by omega⟩⟩
      case run =>
        conv => lhs; whnf
        rw [kdec d1]
        conv => lhs; whnf
        rw [kdec d1]
        conv => lhs; whnf
        refine bind_of ((cellsAt_of hgA _ _).trans r3) ?_
        conv => lhs; whnf
        refine bind_of (dstore_of (Hp.get_push_same _ _) (t := 143) (o := 0) (cs' := [.slice ra rn rk, .int .i64 ry]) rfl) ?_
        conv => lhs; whnf
        rw [cellsAt_of (Hp.get_set_same _ _ _)]
        conv => lhs; whnf
        refine bind_of (cut_all hb n _ _) ?_
        conv => lhs; whnf
      case kp =>
        show [_, _, _, _, _, _, _, (22, Value.int .i64 (IntKind.i64.wrap ((i : Int) + 1)))] = _
        rw [hw2]
      case w => exact (i1.push _).put (Hp.get_push_same _ _) _
      case nx => simp; omega
      case fr =>
        intro j hj
        rw [Hp.get_set_ne _ _ (by omega), Hp.get_push_ne _ _ (by omega), i3 j hj]
    · have d1 : ¬ ((i : Nat) : Int) < ((m : Nat) : Int) := by omega
      obtain rfl : i = m := by omega
      refine ⟨.exit 0, ?s2, A, kexec_run ?run2, .inr ⟨by simp, rfl, ?kp2, i1, i2, i3⟩⟩
      case run2 =>
        conv => lhs; whnf
        rw [kdecn d1]
      case kp2 => rfl

theorem fifo_clear (n : Nat) {A : Hp} {f : Nat} {t mo rv w : Value} {io : Option Nat} {us : List Value} {m : Nat} (hw : A.wf) (hf : A.get f = some (.arr 141 [t, mo, rv, w] .own)) (hr : SlAt 143 2 A rv io us (m + 1)) (hm : m ≤ 1000000000) (hn : m + 3 ≤ n) (hrow : ∀ i, i < m + 1 → ∃ a n' c' k, us[2 * i]? = some (.slice a n' c') ∧ us[2 * i + 1]? = some (.int .i64 k)) :
    ∃ A', callD Tryd.bk base (n + 2) 59 [ptr f, clo] A = some (.int .i64 (m + 1 : Nat), A') ∧ A'.wf ∧ A.next ≤ A'.next ∧ A'.get f = some (.arr 141 [t, mo, .slice none 0 0, .int .i64 0] .own) ∧ ∀ j, j < A.next → j ≠ f → A'.get j = A.get j := by
  have hlen := fifo_len hb n hf hr
  cases hr with
  | «at» ri ro _ rc cs _ hc hg hl hu =>
  obtain ⟨A1, l1, l2, l3, l4⟩ := clear_loop hb n (f := f) hw hg hl hu (by omega) (by omega) (rc := rc) (by omega) hrow
  have hfl := hw.lt hf
  have hf1 : A1.get f = some (.arr 141 [t, mo, .slice (some ⟨ri, ro, some 2⟩) (m + 1) rc, w] .own) := by rw [l4 f hfl]; exact hf
  have hwm : IntKind.i64.wrap (((m + 1 : Nat) : Int) - ((0 : Nat) : Int)) = ((m + 1 : Nat) : Int) := by rw [wrap64 (by omega) (by omega)]; omega
  refine ⟨?A', callD_of (hb _ _ _ (by decide)) (fn := Tryd.f59) rfl ?run, ?_⟩
  case run =>
    conv => lhs; whnf
    rw [hlen]
    conv => lhs; whnf
    rw [cellsAt_of hf]
    conv => lhs; whnf
    refine bind_of l1 ?_
    conv => lhs; whnf
    rw [cellsAt_of hf1]
    conv => lhs; whnf
    refine bind_of (dstore_of hf1 (t := 139) (o := 2) (cs' := [t, mo, .slice none 0 0, w]) rfl) ?_
    conv => lhs; whnf
    refine bind_of (dstore_of (Hp.get_set_same _ _ _) (t := 3) (o := 3) (cs' := [t, mo, .slice none 0 0, .int .i64 0]) rfl) ?_
    conv => lhs; whnf
    rw [hwm]
    rfl
  refine ⟨?w, ?nx, Hp.get_set_same _ _ _, fun j hj hjf => ?fr⟩
  case w => exact (l2.put hf1 _).put (Hp.get_set_same _ _ _) _
  case nx => simp; omega
  case fr => rw [Hp.get_set_ne _ _ hjf, Hp.get_set_ne _ _ hjf, l4 j hj]

omit hb in
theorem rows_of : ∀ (ps : List Pc) (i : Nat), (ps.flatMap rowOf)[2 * i]? = ps[i]?.map (·.v) ∧ (ps.flatMap rowOf)[2 * i + 1]? = ps[i]?.map fun x => .int .i64 (x.us.length : Nat)
  | [], i => by simp
  | x :: ps, 0 => by simp [rowOf]
  | x :: ps, i + 1 => by
    obtain ⟨h1, h2⟩ := rows_of ps i
    rw [show 2 * (i + 1) = 2 * i + 1 + 1 by omega]
    simp only [List.flatMap_cons, rowOf, List.cons_append, List.nil_append, List.getElem?_cons_succ]
    exact ⟨h1, h2⟩

/-- Cut: what was under way is lost -/
theorem pipe_cut (n : Nat) {A : Hp} {p f : Nat} {io : Option Nat} {ps : List Pc} {g : Nat} {s : Int} {c : Bool} (h : IsPipe A p f io ps g s c) (hw : A.wf) (hT : total ps ≤ 140737488355328) (hP : ps.length ≤ 1000000000) (hn : ps.length + 3 ≤ n) :
    ∃ A' io', callD Tryd.bk base (n + 3) 26 [ptr p] A = some (.int .i64 (flow ps g).length, A') ∧ A'.wf ∧ A.next ≤ A'.next ∧ IsPipe A' p f io' [] 0 s true ∧ (io' = none ∨ io' = io) ∧ ∀ j, j < A.next → j ≠ p → j ≠ f → A'.get j = A.get j := by
  obtain ⟨rv, h1, h2⟩ := h.hf
  have hfp : f ≠ p := by rintro rfl; rw [h.hp] at h1; cases h1
  have hlen := pipe_len hb n h.hp h1 hfp
  have hg : g ≤ total ps := by
    rcases h.hg with e | ⟨x, ps', rfl, e⟩
    · omega
    · simp only [total]; omega
  have hwl : IntKind.i64.wrap ((total ps : Int) - (g : Int)) = ((flow ps g).length : Int) := by rw [wrap64 (by omega) (by omega), flow_length]; omega
  rw [hwl] at hlen
  have hpl := hw.lt h.hp
  have hfl := hw.lt h1
  let A1 : Hp := A.set p (some (.arr 100 [ptr f, .int .i64 g, .int .u64 s, .bool true] .own))
  have hA1w : A1.wf := hw.put h.hp _
  have hA1n : A1.next = A.next := Hp.next_set _ _ _
  have hp1 : A1.get p = some (.arr 100 [ptr f, .int .i64 g, .int .u64 s, .bool true] .own) := Hp.get_set_same _ _ _
  have hf1 : A1.get f = some (.arr 141 [inMax, inMax, rv, .int .i64 (total ps)] .own) := by rw [show A1.get f = A.get f from Hp.get_set_ne _ _ hfp]; exact h1
  have hiop : ∀ i, io = some i → i ≠ p := by
    rintro i rfl rfl
    obtain ⟨cs, hcs⟩ := h2.lt
    rw [h.hp] at hcs; cases hcs
  have h2' : SlAt 143 2 A1 rv io (ps.flatMap rowOf) ps.length := h2.keep fun i hi => Hp.get_set_ne _ _ (hiop i hi)
  have key : ∃ A2 rv2 io2 k, callD Tryd.bk base (n + 2) 59 [ptr f, clo] A1 = some (.int .i64 k, A2) ∧ A2.wf ∧ A1.next ≤ A2.next ∧ A2.get f = some (.arr 141 [inMax, inMax, rv2, .int .i64 ((0 : Nat) : Int)] .own) ∧ SlAt 143 2 A2 rv2 io2 [] 0 ∧ (io2 = none ∨ io2 = io) ∧ ∀ j, j < A1.next → j ≠ f → A2.get j = A1.get j := by
    cases ps with
    | nil =>
      have hl0 := fifo_len hb n hf1 h2'
      refine ⟨A1, rv, io, 0, callD_of (hb _ _ _ (by decide)) (fn := Tryd.f59) rfl ?run, hA1w, Nat.le_refl _, hf1, h2', .inr rfl, fun _ _ _ => rfl⟩
      case run =>
        conv => lhs; whnf
        rw [hl0]
        conv => lhs; whnf
        rfl
    | cons x l =>
      obtain ⟨A2, c1, c2, c3, c4, c5⟩ := fifo_clear hb n hA1w hf1 h2' (by simp at hP; omega) (by simp at hn; omega) (fun i hi => by
        obtain ⟨q1, q2⟩ := rows_of (x :: l) i
        have hi' : i < (x :: l).length := by simpa using hi
        rw [List.getElem?_eq_getElem hi'] at q1 q2
        have hm := h.hx _ (List.getElem_mem hi')
        obtain ⟨a, n', c', e⟩ : ∃ a n' c', ((x :: l)[i]).v = .slice a n' c' := by
          generalize ((x :: l)[i]).v = vv at hm
          cases hm.1 with
          | «at» _ _ _ c' _ _ _ _ _ _ => exact ⟨_, _, _, rfl⟩
        refine ⟨a, n', c', _, ?_, q2⟩
        rw [q1, Option.map_some, e])
      exact ⟨A2, _, none, _, c1, c2, c3, c4, .nil, .inl rfl, c5⟩
  obtain ⟨A2, rv2, io2, k, k1, k2, k3, k4, k5, k6, k7⟩ := key
  have hp2 : A2.get p = some (.arr 100 [ptr f, .int .i64 g, .int .u64 s, .bool true] .own) := by rw [k7 p (by omega) (fun e => hfp e.symm)]; exact hp1
  refine ⟨?A', io2, callD_of (hb _ _ _ (by decide)) (fn := Tryd.f26) rfl ?run, ?w, ?nx, ?ip, k6, ?fr⟩
  case run =>
    conv => lhs; whnf
    rw [hlen]
    conv => lhs; whnf
    refine bind_of (dstore_of h.hp (t := 4) (o := 3) (cs' := [ptr f, .int .i64 g, .int .u64 s, .bool true]) rfl) ?_
    conv => lhs; whnf
    rw [cellsAt_of (Hp.get_set_same _ _ _)]
    conv => lhs; whnf
    refine bind_of k1 ?_
    conv => lhs; whnf
    refine bind_of (dstore_of hp2 (t := 3) (o := 1) (cs' := [ptr f, .int .i64 ((0 : Nat) : Int), .int .u64 s, .bool true]) rfl) ?_
    conv => lhs; whnf
    rfl
  case w => exact k2.put hp2 _
  case nx => rw [Hp.next_set]; omega
  case ip =>
    refine ⟨Hp.get_set_same _ _ _, ⟨rv2, by rw [Hp.get_set_ne _ _ hfp, k4]; rfl, k5.keep fun i hi => ?_⟩, by simp, .inl rfl⟩
    have : i ≠ p := by
      rcases k6 with e | e
      · rw [e] at hi; cases hi
      · exact hiop i (by rw [← e]; exact hi)
    exact Hp.get_set_ne _ _ this
  case fr =>
    intro j hj hjp hjf
    rw [Hp.get_set_ne _ _ hjp, k7 j (by omega) hjf]
    exact Hp.get_set_ne _ _ hjp

/-- a pipe that is cut takes nothing -/
theorem pipe_put_cut (n : Nat) {A : Hp} {p : Nat} {a b s : Value} {T : TypeId} {md : Md} (hp : A.get p = some (.arr T [a, b, s, .bool true] md)) (h1 : A.get 1 = some (er 1)) (x : Value) :
    callD Tryd.bk base (n + 1) 14 [ptr p, x] A = some (.tuple #[.int .i64 0, .iface 168 (.pointer (some ⟨44, 0, none⟩))], A) := by
  refine callD_of (hb _ _ _ (by decide)) (fn := Tryd.f14) rfl ?_
  conv => lhs; whnf
  rw [cellsAt_of hp]
  conv => lhs; whnf
  rw [cellsAt_of h1]
  conv => lhs; whnf
  rfl
end Go.Dn.Pipe
end

section
/-
  Cut, and Put on a pipe that is cut, by their contracts
-/
namespace Go.Dn.Pipe
open Go.Proofs
set_option maxHeartbeats 4000000
set_option maxRecDepth 100000
attribute [local irreducible] Hp.get Hp.set Hp.push dappend dcopy dstore cellsAt callD loopD

def cutErr : Value := .tuple #[.int .i64 0, .iface 168 (.pointer (some ⟨44, 0, none⟩))]

inductive CutR : List Value → Hp → Value × Hp → Prop
  | mk (A : Hp) (i : Nat) (x : PX) (hi : A.get i = some (.abs 1 x.dat)) (hx : x.n ≤ 1000000000) : CutR [ptr i] A (.int .i64 x.fl.length, A.set i (some (.abs 1 (PX.dat { x with fl := [], c := true }))))
inductive PutR2 : List Value → Hp → Value × Hp → Prop
  | put {args : List Value} {A : Hp} {r : Value × Hp} (h : PutR args A r) : PutR2 args A r
  | cut (A : Hp) (i : Nat) (x : PX) (hi : A.get i = some (.abs 1 x.dat)) (hx : x.c = true) (bi bo bn bc : Nat) (cs : List Value) (m : Md) (hb : A.get bi = some (.arr 5 cs m)) (hpl : ∀ u ∈ cs, plain0 u = true) :
      PutR2 [ptr i, .slice (some ⟨bi, bo, some 1⟩) bn bc] A (cutErr, A.set i (some (.abs 1 x.dat)))

theorem CutR.one {A : Hp} {args : List Value} {r r' : Value × Hp} (h : CutR args A r) (h' : CutR args A r') : r' = r := by
  cases h with | mk _ i x hi _ => cases h' with | mk _ _ y hj => rw [same_px hj hi]
theorem PutR2.one {A : Hp} {args : List Value} {r r' : Value × Hp} (h : PutR2 args A r) (h' : PutR2 args A r') : r' = r := by
  cases h with
  | put h =>
    cases h' with
    | put h' => exact h.one h'
    | cut _ i y hj hy =>
      cases h with
      | put _ _ x hi hx => rw [same_px hj hi, hx] at hy; cases hy
  | cut _ i x hi hx =>
    cases h' with
    | put h' =>
      cases h' with
      | put _ _ y hj hy => rw [same_px hj hi, hx] at hy; cases hy
    | cut _ _ y hj => rw [same_px hj hi]

theorem fn26 : ∃ x, Tryd.prog.funcs[26]? = some x ∧ x.body.isSome = true ∧ (x.name == "runtime.NumGoroutine") = false := ⟨Tryd.f26, by kernel_rfl, by kernel_rfl, by kernel_rfl⟩

noncomputable def T4 (base : CallT) : CallT := withCall (withCall (T3 base) 14 (byRel PutR2)) 26 (byRel CutR)

variable [Reps] (hR : ∀ k d B r, Reps.rep k d B r ↔ repP k d B r)
include hR

theorem cut_call {g : Gh} {A : Hp} {w : World} (hA : RelX Tryd.prog g A w) {i : Nat} {x : PX} (hi : A.get i = some (.abs 1 x.dat)) (hx : x.n ≤ 1000000000) {args' : Array Value} (ha : AR g.ρ [ptr i].toArray args') :
    Calls Tryd.prog 26 args' w fun e w' => ∃ v', e = .returned v' ∧ After Tryd.prog g A w (.int .i64 x.fl.length) (A.set i (some (.abs 1 (PX.dat { x with fl := [], c := true })))) v' w' := by
  have hC := callD_ok Tryd.good (noCalls_ok _) (x.n + 3 + 3)
  refine call_method hC hA hi (k' := 1) (im := []) (ims := []) rfl (by simp) [] (by simp) ha (fun r _ => [ptr r]) (fun r n => .cons (.ptr 0 (.inl ⟨rfl, rfl⟩)) .nil) (.int .i64 x.fl.length) ?_
  intro B r hCB hw hCn hrep
  obtain ⟨_, _, y, e1, f, io, ps, gg, r1, r2, r3, r4, r5, r6⟩ := (hR _ _ _ _).1 hrep
  obtain rfl := PX.dat_inj e1
  obtain ⟨A', io', q1, q2, q3, q4, q5, q6⟩ := pipe_cut nc_none (x.n + 3) r1 hw (by omega) (by omega) (by omega)
  rw [r2] at q1
  have hCA : ∀ i o, Reps.C.get i = some o → A'.get i = some o := by
    intro j o hj
    have hjl := (Reps.Cro j o hj).1
    have hjB := hCB j o hj
    have hjp : j ≠ r := by
      rintro rfl
      have h1 := r1.hp
      rw [hjB] at h1
      cases h1
      have := (Reps.Cro _ _ hj).2
      cases this
    have hjf : j ≠ f := by
      rintro rfl
      obtain ⟨rv, h1, _⟩ := r1.hf
      rw [hjB] at h1
      cases h1
      have := (Reps.Cro _ _ hj).2
      cases this
    rw [q6 j (by omega) hjp hjf]
    exact hjB
  obtain ⟨B2, c1, c2, c3, c4, c5, c6, c7, c8⟩ := q4.close q2 hCA
  exact ⟨_, A', B2, [], q1, c1, by omega, c3, (hR _ _ _ _).2 ⟨rfl, c5, _, rfl, f, io', [], 0, c4, rfl, Nat.zero_le _, Nat.zero_le _, r5, by simp⟩, c6, c7, rfl, .nil, by simp, .plain rfl⟩

theorem putcut_call (h1 : Reps.C.get 1 = some (er 1)) (h44 : 44 < Reps.C.next) {g : Gh} {A : Hp} {w : World} (hA : RelX Tryd.prog g A w) {i : Nat} {x : PX} (hi : A.get i = some (.abs 1 x.dat)) (hx : x.c = true) {bi bo bn bc : Nat} {cs : List Value} {m : Md}
    (hb : A.get bi = some (.arr 5 cs m)) (hpl : ∀ u ∈ cs, plain0 u = true) {args' : Array Value} (ha : AR g.ρ [ptr i, .slice (some ⟨bi, bo, some 1⟩) bn bc].toArray args') :
    Calls Tryd.prog 14 args' w fun e w' => ∃ v', e = .returned v' ∧ After Tryd.prog g A w cutErr (A.set i (some (.abs 1 x.dat))) v' w' := by
  have hC := callD_ok Tryd.good (noCalls_ok _) 6
  refine call_method hC hA hi (k' := 1) (im := [(5, cs)]) (ims := [bi]) rfl ?_ [] (by simp) ha (fun r n => [ptr r, .slice (some ⟨n, bo, some 1⟩) bn bc]) ?_ cutErr ?_
  · intro t e j h1 h2
    match t, h1, h2 with
    | 0, h1, h2 =>
      simp only [List.getElem?_cons_zero, Option.some.injEq] at h1 h2
      subst h1 h2
      exact ⟨⟨m, hb⟩, hpl⟩
  · intro r n
    exact .cons (.ptr 0 (.inl ⟨rfl, rfl⟩)) (.cons (.slice bo 1 bn bc (.inr (.inr ⟨0, rfl, rfl⟩))) .nil)
  · intro B r hCB hw hCn hrep
    obtain ⟨_, _, y, e1, f, io, ps, gg, r1, r2, r3, r4, r5, r6⟩ := (hR _ _ _ _).1 hrep
    obtain rfl := PX.dat_inj e1
    have hP : IsPipe (B.push (.arr 5 cs .sh)) r f io ps gg x.s x.c := r1.keep fun j o hj _ => Hp.get_push_ne _ _ (by have := hw.lt hj; omega)
    have hCA : ∀ i o, Reps.C.get i = some o → (B.push (.arr 5 cs .sh)).get i = some o := fun j o hj => by
      have := (Reps.Cro j o hj).1
      rw [Hp.get_push_ne _ _ (by omega)]; exact hCB j o hj
    obtain ⟨B2, c1, c2, c3, c4, c5, c6, c7, _⟩ := hP.close (hw.push _) hCA
    have hp := hP.hp
    rw [hx] at hp
    refine ⟨_, _, B2, [], pipe_put_cut nc_none 5 hp (hCA 1 _ h1) _, c1, by omega, c3, (hR _ _ _ _).2 ⟨rfl, c5, _, rfl, f, io, ps, gg, c4, r2, r3, r4, r5, r6⟩, c6, c7, rfl, .nil, by simp, ?_⟩
    exact VM.tuples (us := [.int .i64 0, .iface 168 (.pointer (some ⟨44, 0, none⟩))]) (vs := [.int .i64 0, .iface 168 (.pointer (some ⟨44, 0, none⟩))]) (.cons (.plain rfl) (.cons (.iface _ (.ptr 0 (.inr (.inl ⟨h44, rfl⟩)))) .nil))

theorem T4_ok {base : CallT} (hB : CallOK Tryd.prog base) (hCw : Reps.C.wf) (h1 : Reps.C.get 1 = some (er 1)) (h44 : 44 < Reps.C.next) : CallOK Tryd.prog (T4 base) := by
  refine withCall_ok (withCall_ok (T3_ok hR hB hCw) fn14 ?_) fn26 ?_
  · intro args A v A' h ρ w args' hr ha
    have h := byRel_some h
    cases h with
    | put h =>
      refine (T3_ok hR hB hCw).calls 14 args A v A' ?_ ρ w args' hr ha
      exact byRel_of h fun r' h' => h.one h'
    | cut _ i x hi hx bi bo bn bc cs m hb hpl => exact putcut_call hR h1 h44 hr hi hx hb hpl ha
  · intro args A v A' h ρ w args' hr ha
    have h := byRel_some h
    cases h with
    | mk _ i x hi hx => exact cut_call hR hr hi hx ha
end Go.Dn.Pipe
end

section
/-
  culvertref19: the document's pipe, walked
-/
namespace Go.Dn.Pipe
open Go.Proofs
set_option maxHeartbeats 4000000
set_option maxRecDepth 100000
attribute [local irreducible] Hp.get Hp.set Hp.push dappend dcopy dstore cellsAt callD loopD

/-- a byte -/
def IsB (us : List Value) : Prop := ∀ (j : Nat) x, us[j]? = some x → ∃ n, x = .int .u8 n

theorem IsB.append {a b : List Value} (ha : IsB a) (hb : IsB b) : IsB (a ++ b) := by
  intro j x hx
  rw [List.getElem?_append] at hx
  split at hx
  · exact ha j x hx
  · exact hb _ x hx
theorem IsB.take {a : List Value} (ha : IsB a) (n : Nat) : IsB (a.take n) := by
  intro j x hx
  rw [List.getElem?_take] at hx
  split at hx
  · exact ha j x hx
  · cases hx
theorem IsB.drop {a : List Value} (ha : IsB a) (n : Nat) : IsB (a.drop n) := by
  intro j x hx
  rw [List.getElem?_drop] at hx
  exact ha _ x hx
theorem IsB.plain {a : List Value} (ha : IsB a) : ∀ u ∈ a, plain0 u = true := by
  intro u hu
  obtain ⟨j, hj⟩ := List.getElem?_of_mem hu
  obtain ⟨n, rfl⟩ := ha j u hj
  rfl

theorem bs_cell {A : Hp} {a : Option Addr} {m c : Nat} {us : List Value} (h : BsAt A (.slice a m c) us) {i : Nat} {x : Value} (hx : us[i]? = some x) : ∃ b o T cs md, a = some ⟨b, o, some 1⟩ ∧ A.get b = some (.arr T cs md) ∧ cellsIn cs (o + i * 1) 1 = some [x] ∧ i < m := by
  cases h with
  | nil c hc => simp at hx
  | «at» b o _ _ T cs _ md hg hl hu hc =>
    have hlen : us.length = m := by rw [← hu]; simp; omega
    have hi : i < us.length := (List.getElem?_eq_some_iff.1 hx).1
    refine ⟨b, o, T, cs, md, rfl, hg, cellsIn_of (by omega) ?_, by omega⟩
    rw [← hu, List.getElem?_take, if_pos (by omega), List.getElem?_drop] at hx
    apply List.ext_getElem?
    intro j
    rw [List.getElem?_take]
    match j with
    | 0 => rw [if_pos (by omega), List.getElem?_drop, show o + i * 1 + 0 = o + i by omega, hx]; rfl
    | j + 1 => rw [if_neg (by omega)]; rfl

theorem bs_len {A : Hp} {a : Option Addr} {m c : Nat} {us : List Value} (h : BsAt A (.slice a m c) us) : us.length = m := by
  obtain ⟨a', c', e⟩ := h.form
  cases e; rfl

structure RI (A0 : Hp) (V : Value) (us : List Value) (A : Hp) : Prop where
  wf : A.wf
  nx : A0.next ≤ A.next
  old : ∀ j, j < A0.next → A.get j = A0.get j
  out : ∃ io, CanAt 5 1 A V io us us.length ∧ ∀ i, io = some i → A0.next ≤ i

/-- one byte more -/
theorem RI.app {A0 A : Hp} {V : Value} {us : List Value} (h : RI A0 V us A) (x : Value) (hl : us.length ≤ 4000000000) :
    ∃ V' A', dappend Tryd.bk.E 22 22 (A.push (.arr 5 [x] .own)) V (.slice (some ⟨A.next, 0, some 1⟩) 1 3) = some (V', A') ∧ RI A0 V' (us ++ [x]) A' := by
  obtain ⟨io, o1, o2⟩ := h.out
  have hio : ∀ i, io = some i → i < A.next := by
    rintro i rfl
    exact o1.lt h.wf
  have hV : CanAt 5 1 (A.push (.arr 5 [x] .own)) V io us us.length := o1.keep fun i hi => Hp.get_push_ne _ _ (by have := hio i hi; omega)
  have hx : elemsOf (A.push (.arr 5 [x] .own)) 1 (.slice (some ⟨A.next, 0, some 1⟩) 1 3) = some (1, [x]) :=
    (BsAt.at A.next 0 1 3 5 [x] [x] .own (Hp.get_push_same _ _) (by simp) rfl (by omega)).elems
  obtain ⟨V', A', io', d1, d2, d3, d4, d5, d6⟩ := append_can elB elB2 hV hx (by simp) (by omega) (by unfold maxLen; omega)
  simp only [Hp.next_push] at d3 d5 d6
  refine ⟨V', A', d1, d4 (h.wf.push _), by have := h.nx; omega, fun j hj => ?_, io', by rw [List.length_append]; exact d2, fun i hi => ?_⟩
  · have := h.nx
    rw [d5 j (by omega) (fun e => by have := o2 j e; omega), Hp.get_push_ne _ _ (by omega), h.old j hj]
  · have := h.nx
    rcases d6 with ⟨_, _, _, e⟩ | ⟨i', e, e2, _⟩
    · cases e
    · rw [e] at hi; cases hi; omega

theorem RI.nil {A : Hp} (hw : A.wf) : RI A (.slice none 0 0) [] A := ⟨hw, Nat.le_refl _, fun _ _ => rfl, none, .nil, by simp⟩
theorem RI.bs {A0 A : Hp} {V : Value} {us : List Value} (h : RI A0 V us A) : BsAt A V us := by
  obtain ⟨io, o1, _⟩ := h.out
  exact o1.slAt.bs

theorem take_succ {us : List Value} {i : Nat} {x : Value} (h : us[i]? = some x) : us.take (i + 1) = us.take i ++ [x] := by
  rw [List.take_add_one, h]; rfl

structure RS where
  i : Nat
  v : Value

/-- the first loop of Put: all that was there -/
theorem put_loop0 {call : CallT} (lf : Nat) {A0 : Hp} (hw : A0.wf) {q : Nat} {a : Option Addr} {c : Nat} {g : Int} {all : List Value} (hq : A0.get q = some (.arr 50 [.slice a all.length c, .int .i64 g, .bool false] .own)) (hV : BsAt A0 (.slice a all.length c) all) (hall : IsB all) (hl : all.length ≤ 1000000000) (hlf : all.length < lf)
    (b V4 : Value) :
    ∃ A1 V', loopD (some [1, 2, 4, 5, 6, 7, 8]) (exec Tryd.bk.E call Tryd.f28.ntmps (Tryd.bk.inf 28) lf (loopOf Tryd.f28 0)) lf [(1, b), (2, ptr q), (4, V4), (5, .int .i64 0), (6, .int .i64 0), (7, .slice none 0 0), (8, .int .i64 ((0 : Nat) : Int))] A0 =
      some (.exit 0, [(1, b), (2, ptr q), (4, V4), (5, .int .i64 0), (6, .int .i64 0), (7, V'), (8, .int .i64 (all.length : Nat))], A1) ∧ RI A0 V' all A1 := by
  have key := loop_rule (ks := some [1, 2, 4, 5, 6, 7, 8]) (f := exec Tryd.bk.E call Tryd.f28.ntmps (Tryd.bk.inf 28) lf (loopOf Tryd.f28 0)) (S := RS)
    (fun s => [(1, b), (2, ptr q), (4, V4), (5, .int .i64 0), (6, .int .i64 0), (7, s.v), (8, .int .i64 (s.i : Nat))])
    (fun s A => s.i ≤ all.length ∧ RI A0 s.v (all.take s.i) A) (fun s => all.length - s.i)
    (fun e σ A1 => e = .exit 0 ∧ ∃ V', σ = [(1, b), (2, ptr q), (4, V4), (5, .int .i64 0), (6, .int .i64 0), (7, V'), (8, .int .i64 (all.length : Nat))] ∧ RI A0 V' all A1) (fun s A hI => ?_)
    lf ⟨0, .slice none 0 0⟩ A0 ⟨Nat.zero_le _, RI.nil hw⟩ (by simp only; omega)
  · obtain ⟨e, σ1, A1, k1, rfl, V', rfl, k2⟩ := key
    exact ⟨A1, V', k1, k2⟩
  · obtain ⟨i, v⟩ := s
    obtain ⟨hi, hR⟩ := hI
    simp only at hi hR ⊢
    have hqA : A.get q = some (.arr 50 [.slice a all.length c, .int .i64 g, .bool false] .own) := by rw [hR.old q (hw.lt hq)]; exact hq
    by_cases him : i < all.length
    · obtain ⟨x, hx⟩ : ∃ x, all[i]? = some x := ⟨_, List.getElem?_eq_getElem him⟩
      obtain ⟨n, rfl⟩ := hall i x hx
      obtain ⟨bb, o, T, cs, md, rfl, hg, hc, _⟩ := bs_cell hV hx
      have hgA : A.get bb = some (.arr T cs md) := by rw [hR.old bb (hw.lt hg)]; exact hg
      obtain ⟨V', A', d1, d2⟩ := hR.app (.int .u8 n) (by simp; omega)
      have hw2 : IntKind.i64.wrap ((i : Int) + 1) = ((i + 1 : Nat) : Int) := by rw [wrap64 (by omega) (by omega)]; omega
      have e1 : ((i : Nat) : Int) < ((all.length : Nat) : Int) := by omega
      refine ⟨.normal, ?s, A', kexec_run ?run, .inl ⟨rfl, ⟨i + 1, V'⟩, ?kp, ⟨him, by rw [take_succ hx]; exact d2⟩, by simp only; omega⟩⟩
      case run =>
        conv => lhs; whnf
        rw [cellsAt_of hqA]
        conv => lhs; whnf
        rw [kdec e1]
        conv => lhs; whnf
        rw [cellsAt_of hqA]
        conv => lhs; whnf
        rw [kdec e1]
        conv => lhs; whnf
        refine bind_of ((cellsAt_of hgA _ _).trans hc) ?_
        conv => lhs; whnf
        refine bind_of d1 ?_
        conv => lhs; whnf
      case kp =>
        show [_, _, _, _, _, _, (8, Value.int .i64 (IntKind.i64.wrap ((i : Int) + 1)))] = _
        rw [hw2]
    · have e1 : ¬ ((i : Nat) : Int) < ((all.length : Nat) : Int) := by omega
      obtain rfl : i = all.length := by omega
      rw [List.take_length] at hR
      refine ⟨.exit 0, ?s2, A, kexec_run ?run2, .inr ⟨by simp, rfl, v, ?kp2, hR⟩⟩
      case run2 =>
        conv => lhs; whnf
        rw [cellsAt_of hqA]
        conv => lhs; whnf
        rw [kdecn e1]
      case kp2 => rfl
/-- the second loop of Put: what comes in -/
theorem put_loop1 {call : CallT} (lf : Nat) {A0 A1 : Hp} {a : Option Addr} {c : Nat} {all us : List Value} {V : Value} (hw : A0.wf) (hR0 : RI A0 V all A1) (hb : BsAt A0 (.slice a us.length c) us) (hus : IsB us) (hl : all.length + us.length ≤ 1000000000) (hlf : us.length < lf) (V2 V4 : Value) :
    ∃ A2 V', loopD (some [1, 2, 4, 5, 6, 7, 9]) (exec Tryd.bk.E call Tryd.f28.ntmps (Tryd.bk.inf 28) lf (loopOf Tryd.f28 1)) lf [(1, .slice a us.length c), (2, V2), (4, V4), (5, .int .i64 0), (6, .int .i64 0), (7, V), (9, .int .i64 ((0 : Nat) : Int))] A1 =
      some (.exit 2, [(1, .slice a us.length c), (2, V2), (4, V4), (5, .int .i64 0), (6, .int .i64 0), (7, V'), (9, .int .i64 (us.length : Nat))], A2) ∧ RI A0 V' (all ++ us) A2 := by
  have key := loop_rule (ks := some [1, 2, 4, 5, 6, 7, 9]) (f := exec Tryd.bk.E call Tryd.f28.ntmps (Tryd.bk.inf 28) lf (loopOf Tryd.f28 1)) (S := RS)
    (fun s => [(1, .slice a us.length c), (2, V2), (4, V4), (5, .int .i64 0), (6, .int .i64 0), (7, s.v), (9, .int .i64 (s.i : Nat))])
    (fun s A => s.i ≤ us.length ∧ RI A0 s.v (all ++ us.take s.i) A) (fun s => us.length - s.i)
    (fun e σ A1 => e = .exit 2 ∧ ∃ V', σ = [(1, .slice a us.length c), (2, V2), (4, V4), (5, .int .i64 0), (6, .int .i64 0), (7, V'), (9, .int .i64 (us.length : Nat))] ∧ RI A0 V' (all ++ us) A1) (fun s A hI => ?_)
    lf ⟨0, V⟩ A1 ⟨Nat.zero_le _, by simpa using hR0⟩ (by simp only; omega)
  · obtain ⟨e, σ1, A1, k1, rfl, V', rfl, k2⟩ := key
    exact ⟨A1, V', k1, k2⟩
  · obtain ⟨i, v⟩ := s
    obtain ⟨hi, hR⟩ := hI
    simp only at hi hR ⊢
    by_cases him : i < us.length
    · obtain ⟨x, hx⟩ : ∃ x, us[i]? = some x := ⟨_, List.getElem?_eq_getElem him⟩
      obtain ⟨n, rfl⟩ := hus i x hx
      obtain ⟨bb, o, T, cs, md, rfl, hg, hc, _⟩ := bs_cell hb hx
      have hgA : A.get bb = some (.arr T cs md) := by rw [hR.old bb (hw.lt hg)]; exact hg
      obtain ⟨V', A', d1, d2⟩ := hR.app (.int .u8 n) (by simp; omega)
      have hw2 : IntKind.i64.wrap ((i : Int) + 1) = ((i + 1 : Nat) : Int) := by rw [wrap64 (by omega) (by omega)]; omega
      have e1 : ((i : Nat) : Int) < ((us.length : Nat) : Int) := by omega
      refine ⟨.normal, ?s, A', kexec_run ?run, .inl ⟨rfl, ⟨i + 1, V'⟩, ?kp, ⟨him, by rw [take_succ hx, ← List.append_assoc]; exact d2⟩, by simp only; omega⟩⟩
      case run =>
        conv => lhs; whnf
        rw [kdec e1]
        conv => lhs; whnf
        rw [kdec e1]
        conv => lhs; whnf
        refine bind_of ((cellsAt_of hgA _ _).trans hc) ?_
        conv => lhs; whnf
        refine bind_of d1 ?_
        conv => lhs; whnf
      case kp =>
        show [_, _, _, _, _, _, (9, Value.int .i64 (IntKind.i64.wrap ((i : Int) + 1)))] = _
        rw [hw2]
    · have e1 : ¬ ((i : Nat) : Int) < ((us.length : Nat) : Int) := by omega
      obtain rfl : i = us.length := by omega
      rw [List.take_length] at hR
      refine ⟨.exit 2, ?s2, A, kexec_run ?run2, .inr ⟨by simp, rfl, v, ?kp2, hR⟩⟩
      case run2 =>
        conv => lhs; whnf
        rw [kdecn e1]
      case kp2 => rfl

theorem RI.set {A0 A : Hp} {V : Value} {us : List Value} (h : RI A0 V us A) {i : Nat} {o o' : Ob} (hg : A.get i = some o) (hio : ∀ cs, o ≠ .arr 5 cs .own) {B0 : Hp} (hB : B0.next ≤ i) (hB2 : B0.next ≤ A0.next) (hBo : ∀ j, j < B0.next → A0.get j = B0.get j) : RI B0 V us (A.set i (some o')) := by
  obtain ⟨io, o1, o2⟩ := h.out
  refine ⟨h.wf.put hg _, by rw [Hp.next_set]; have := h.nx; omega, fun j hj => ?_, io, o1.keep fun k hk => ?_, fun k hk => by have := o2 k hk; omega⟩
  · rw [Hp.get_set_ne _ _ (by omega), h.old j (by omega), hBo j hj]
  · refine Hp.get_set_ne _ _ ?_
    rintro rfl
    subst hk
    cases o1 with
    | «at» _ _ _ hg' _ _ => rw [hg] at hg'; cases hg'; exact hio _ rfl

/-- Put, of a pipe that is not cut -/
theorem refput_walk {call : CallT} (lf : Nat) {A : Hp} (hw : A.wf) {a a2 : Option Addr} {c c2 : Nat} {g : Int} {all us : List Value} (hV : BsAt A (.slice a all.length c) all) (hall : IsB all) (hb : BsAt A (.slice a2 us.length c2) us) (hus : IsB us)
    (hl : all.length + us.length ≤ 1000000000) (hlf : all.length + us.length < lf) :
    ∃ V' A', kfn Tryd.bk.E call (Tryd.bk.inf 28) lf Tryd.f28 [.agg #[.slice a all.length c, .int .i64 g, .bool false], .slice a2 us.length c2] A = some (.tuple #[.agg #[V', .int .i64 g, .bool false], .int .i64 (us.length : Nat), .int .i64 0], A') ∧ RI A V' (all ++ us) A' := by
  let A1 : Hp := A.push (.arr 50 [.slice a all.length c, .int .i64 g, .bool false] .own)
  let A2 : Hp := A1.push (.arr 50 [.slice none 0 0, .int .i64 0, .bool false] .own)
  have hw2 : A2.wf := (hw.push _).push _
  have n1 : A1.next = A.next + 1 := by simp [A1]
  have n2 : A2.next = A.next + 2 := by simp [A2, A1]
  have old : ∀ j, j < A.next → A2.get j = A.get j := fun j hj => by
    show (A1.push _).get j = _
    rw [Hp.get_push_ne _ _ (by omega)]
    exact Hp.get_push_ne _ _ (by omega)
  have hq : A2.get A.next = some (.arr 50 [.slice a all.length c, .int .i64 g, .bool false] .own) := by
    show (A1.push _).get A.next = _
    rw [Hp.get_push_ne _ _ (by omega)]
    exact Hp.get_push_same _ _
  have hq2 : A2.get A1.next = some (.arr 50 [.slice none 0 0, .int .i64 0, .bool false] .own) := Hp.get_push_same _ _
  obtain ⟨A3, V3, l1, r1⟩ := put_loop0 (call := call) lf hw2 hq (hV.old hw old) hall (by omega) (by omega) (.slice a2 us.length c2) (ptr A1.next)
  obtain ⟨A4, V4, l2, r2⟩ := put_loop1 (call := call) lf hw2 r1 (hb.old hw old) hus hl (by omega) (ptr A.next) (ptr A1.next)
  obtain ⟨av, nv, cv, rfl⟩ : ∃ x y z, V4 = .slice x y z := by
    obtain ⟨x, z, e⟩ := r2.bs.form
    exact ⟨x, _, z, e⟩
  have g1 : A4.get A.next = some (.arr 50 [.slice a all.length c, .int .i64 g, .bool false] .own) := by rw [r2.old _ (by omega)]; exact hq
  have r3 := r2.set (o' := .arr 50 [.slice av nv cv, .int .i64 g, .bool false] .own) g1 (by simp) (B0 := A) (Nat.le_refl _) (by omega) old
  have g2 : (A4.set A.next (some (.arr 50 [.slice av nv cv, .int .i64 g, .bool false] .own))).get A1.next = some (.arr 50 [.slice none 0 0, .int .i64 0, .bool false] .own) := by
    rw [Hp.get_set_ne _ _ (by omega), r2.old _ (by omega)]; exact hq2
  have r4 := r3.set (o' := .arr 50 [.slice av nv cv, .int .i64 g, .bool false] .own) g2 (by simp) (B0 := A) (by omega) (Nat.le_refl _) (fun _ _ => rfl)
  refine ⟨.slice av nv cv, _, ?run, r4⟩
  case run =>
    conv => lhs; whnf
    refine bind_of (cellsAt_of hq _ _) ?_
    conv => lhs; whnf
    refine bind_of l1 ?_
    conv => lhs; whnf
    refine bind_of l2 ?_
    conv => lhs; whnf
    refine bind_of (dstore_of g1 (t := 22) (o := 0) (cs' := [.slice av nv cv, .int .i64 g, .bool false]) rfl) ?_
    conv => lhs; whnf
    rw [cellsAt_of (Hp.get_set_same _ _ _)]
    conv => lhs; whnf
    refine bind_of (dstore_of g2 (t := 50) (o := 0) (cs' := [.slice av nv cv, .int .i64 g, .bool false]) rfl) ?_
    conv => lhs; whnf
    rw [cellsAt_of (Hp.get_set_same _ _ _)]
    conv => lhs; whnf
    rfl

/-- older objects stay -/
structure Kp (A A' : Hp) : Prop where
  wf : A'.wf
  nx : A.next ≤ A'.next
  old : ∀ j, j < A.next → A'.get j = A.get j
theorem Kp.trans {A B C : Hp} (h : Kp A B) (k : Kp B C) : Kp A C := ⟨k.wf, Nat.le_trans h.nx k.nx, fun j hj => by have := h.nx; rw [k.old j (by omega), h.old j hj]⟩
theorem Kp.push {A : Hp} (hw : A.wf) (o : Ob) : Kp A (A.push o) := ⟨hw.push _, by simp, fun j hj => Hp.get_push_ne _ _ (by omega)⟩
theorem Kp.set {A B : Hp} (h : Kp A B) {i : Nat} {o : Ob} (hg : B.get i = some o) (hi : A.next ≤ i) (o' : Ob) : Kp A (B.set i (some o')) :=
  ⟨h.wf.put hg _, by rw [Hp.next_set]; exact h.nx, fun j hj => by rw [Hp.get_set_ne _ _ (by omega), h.old j hj]⟩
theorem RI.kp {A0 A : Hp} {V : Value} {us : List Value} (h : RI A0 V us A) : Kp A0 A := ⟨h.wf, h.nx, h.old⟩

/-- Put, of a pipe that is cut -/
theorem refput_cut {call : CallT} (lf : Nat) {A : Hp} (hw : A.wf) {a : Option Addr} {m c : Nat} {g : Int} (b : Value) :
    ∃ A', kfn Tryd.bk.E call (Tryd.bk.inf 28) lf Tryd.f28 [.agg #[.slice a m c, .int .i64 g, .bool true], b] A = some (.tuple #[.agg #[.slice a m c, .int .i64 g, .bool true], .int .i64 0, .int .i64 27], A') ∧ Kp A A' := by
  let A1 : Hp := A.push (.arr 50 [.slice a m c, .int .i64 g, .bool true] .own)
  let A2 : Hp := A1.push (.arr 50 [.slice none 0 0, .int .i64 0, .bool false] .own)
  have n1 : A1.next = A.next + 1 := by simp [A1]
  have hq : A2.get A.next = some (.arr 50 [.slice a m c, .int .i64 g, .bool true] .own) := by
    show (A1.push _).get A.next = _
    rw [Hp.get_push_ne _ _ (by omega)]
    exact Hp.get_push_same _ _
  have hq2 : A2.get A1.next = some (.arr 50 [.slice none 0 0, .int .i64 0, .bool false] .own) := Hp.get_push_same _ _
  have k2 : Kp A A2 := (Kp.push hw _).trans (Kp.push (hw.push _) _)
  refine ⟨_, ?run, k2.set hq2 (by omega) (.arr 50 [.slice a m c, .int .i64 g, .bool true] .own)⟩
  case run =>
    conv => lhs; whnf
    refine bind_of (cellsAt_of hq _ _) ?_
    conv => lhs; whnf
    refine bind_of (cellsAt_of hq _ _) ?_
    conv => lhs; whnf
    refine bind_of (dstore_of hq2 (t := 50) (o := 0) (cs' := [.slice a m c, .int .i64 g, .bool true]) rfl) ?_
    conv => lhs; whnf
    refine bind_of (cellsAt_of (A := A2.set A1.next (some (.arr 50 [.slice a m c, .int .i64 g, .bool true] .own))) (i := A1.next) (Hp.get_set_same _ _ _) 0 3) ?_
    conv => lhs; whnf
    rfl

def lftOf (ct : Bool) (m g : Nat) : Nat := if ct then 0 else m - g

/-- Left -/
theorem left_walk {call : CallT} (lf : Nat) (A : Hp) (a : Option Addr) (m c g : Nat) (ct : Bool) (hg : g ≤ m) (hm : m ≤ 1000000000) :
    kfn Tryd.bk.E call (Tryd.bk.inf 57) lf Tryd.f57 [.agg #[.slice a m c, .int .i64 g, .bool ct]] A = some (.int .i64 (lftOf ct m g : Nat), A.push (.arr 50 [.slice a m c, .int .i64 g, .bool ct] .own)) := by
  have hw1 : IntKind.i64.wrap ((m : Int) - (g : Int)) = ((m - g : Nat) : Int) := by rw [wrap64 (by omega) (by omega)]; omega
  conv => lhs; whnf
  rw [cellsAt_push_same]
  cases ct with
  | true =>
    conv => lhs; whnf
    rfl
  | false =>
    conv => lhs; whnf
    rw [cellsAt_push_same]
    conv => lhs; whnf
    rw [cellsAt_push_same]
    conv => lhs; whnf
    rw [hw1]
    rfl

def LeftOK (call : CallT) : Prop := ∀ (A : Hp) (a : Option Addr) (m c g : Nat) (ct : Bool), g ≤ m → m ≤ 1000000000 → call 57 [.agg #[.slice a m c, .int .i64 g, .bool ct]] A = some (.int .i64 (lftOf ct m g : Nat), A.push (.arr 50 [.slice a m c, .int .i64 g, .bool ct] .own))

/-- Break -/
theorem break_walk {call : CallT} (h57 : LeftOK call) (lf : Nat) {A : Hp} (hw : A.wf) (a : Option Addr) (m c g : Nat) (ct : Bool) (hg : g ≤ m) (hm : m ≤ 1000000000) :
    ∃ A', kfn Tryd.bk.E call (Tryd.bk.inf 58) lf Tryd.f58 [.agg #[.slice a m c, .int .i64 g, .bool ct]] A = some (.tuple #[.agg #[.slice a m c, .int .i64 g, .bool true], .int .i64 (lftOf ct m g : Nat)], A') ∧ Kp A A' := by
  let A1 : Hp := A.push (.arr 50 [.slice a m c, .int .i64 g, .bool ct] .own)
  let A2 : Hp := A1.push (.arr 50 [.slice none 0 0, .int .i64 0, .bool false] .own)
  let A3 : Hp := A2.push (.arr 50 [.slice a m c, .int .i64 g, .bool ct] .own)
  have n1 : A1.next = A.next + 1 := by simp [A1]
  have n2 : A2.next = A.next + 2 := by simp [A2, A1]
  have hq : A2.get A.next = some (.arr 50 [.slice a m c, .int .i64 g, .bool ct] .own) := by
    show (A1.push _).get A.next = _
    rw [Hp.get_push_ne _ _ (by omega)]
    exact Hp.get_push_same _ _
  have hq2 : A2.get A1.next = some (.arr 50 [.slice none 0 0, .int .i64 0, .bool false] .own) := Hp.get_push_same _ _
  have hq' : A3.get A.next = some (.arr 50 [.slice a m c, .int .i64 g, .bool ct] .own) := by
    show (A2.push _).get A.next = _
    rw [Hp.get_push_ne _ _ (by omega)]; exact hq
  have hq2' : A3.get A1.next = some (.arr 50 [.slice none 0 0, .int .i64 0, .bool false] .own) := by
    show (A2.push _).get A1.next = _
    rw [Hp.get_push_ne _ _ (by omega)]; exact hq2
  have k3 : Kp A A3 := ((Kp.push hw _).trans (Kp.push (hw.push _) _)).trans (Kp.push ((hw.push _).push _) _)
  have hq2'' : (A3.set A.next (some (.arr 50 [.slice a m c, .int .i64 g, .bool true] .own))).get A1.next = some (.arr 50 [.slice none 0 0, .int .i64 0, .bool false] .own) := by
    rw [Hp.get_set_ne _ _ (by omega)]; exact hq2'
  refine ⟨_, ?run, (k3.set hq' (Nat.le_refl _) (.arr 50 [.slice a m c, .int .i64 g, .bool true] .own)).set hq2'' (by omega) (.arr 50 [.slice a m c, .int .i64 g, .bool true] .own)⟩
  case run =>
    conv => lhs; whnf
    refine bind_of (cellsAt_of hq _ _) ?_
    conv => lhs; whnf
    refine bind_of (h57 _ _ _ _ _ _ hg hm) ?_
    conv => lhs; whnf
    refine bind_of (dstore_of hq' (t := 4) (o := 2) (cs' := [.slice a m c, .int .i64 g, .bool true]) rfl) ?_
    conv => lhs; whnf
    rw [cellsAt_of (Hp.get_set_same _ _ _)]
    conv => lhs; whnf
    refine bind_of (dstore_of hq2'' (t := 50) (o := 0) (cs' := [.slice a m c, .int .i64 g, .bool true]) rfl) ?_
    conv => lhs; whnf
    refine bind_of (cellsAt_of (A := (A3.set A.next (some (.arr 50 [.slice a m c, .int .i64 g, .bool true] .own))).set A1.next (some (.arr 50 [.slice a m c, .int .i64 g, .bool true] .own))) (i := A1.next) (Hp.get_set_same _ _ _) 0 3) ?_
    conv => lhs; whnf
    rfl

/-- Move's loop -/
theorem move_loop30 {call : CallT} (lf : Nat) {A0 : Hp} (hw : A0.wf) {q : Nat} {a : Option Addr} {c g : Nat} {ct : Bool} {all : List Value} (hq : A0.get q = some (.arr 50 [.slice a all.length c, .int .i64 g, .bool ct] .own)) (hV : BsAt A0 (.slice a all.length c) all) (hall : IsB all) (hl : all.length ≤ 1000000000) (hlf : all.length < lf)
    (n : Int) (hn : n.toNat ≤ all.length - g) (hg : g ≤ all.length) (V4 : Value) :
    ∃ A1 V', loopD (some [1, 2, 4, 5, 7, 8]) (exec Tryd.bk.E call Tryd.f30.ntmps (Tryd.bk.inf 30) lf (loopOf Tryd.f30 0)) lf [(1, .int .i64 n), (2, ptr q), (4, V4), (5, .slice none 0 0), (7, .slice none 0 0), (8, .int .i64 ((0 : Nat) : Int))] A0 =
      some (.exit 0, [(1, .int .i64 n), (2, ptr q), (4, V4), (5, .slice none 0 0), (7, V'), (8, .int .i64 (n.toNat : Nat))], A1) ∧ RI A0 V' ((all.drop g).take n.toNat) A1 := by
  have key := loop_rule (ks := some [1, 2, 4, 5, 7, 8]) (f := exec Tryd.bk.E call Tryd.f30.ntmps (Tryd.bk.inf 30) lf (loopOf Tryd.f30 0)) (S := RS)
    (fun s => [(1, .int .i64 n), (2, ptr q), (4, V4), (5, .slice none 0 0), (7, s.v), (8, .int .i64 (s.i : Nat))])
    (fun s A => s.i ≤ n.toNat ∧ RI A0 s.v ((all.drop g).take s.i) A) (fun s => n.toNat - s.i)
    (fun e σ A1 => e = .exit 0 ∧ ∃ V', σ = [(1, .int .i64 n), (2, ptr q), (4, V4), (5, .slice none 0 0), (7, V'), (8, .int .i64 (n.toNat : Nat))] ∧ RI A0 V' ((all.drop g).take n.toNat) A1) (fun s A hI => ?_)
    lf ⟨0, .slice none 0 0⟩ A0 ⟨Nat.zero_le _, RI.nil hw⟩ (by simp only; omega)
  · obtain ⟨e, σ1, A1, k1, rfl, V', rfl, k2⟩ := key
    exact ⟨A1, V', k1, k2⟩
  · obtain ⟨i, v⟩ := s
    obtain ⟨hi, hR⟩ := hI
    simp only at hi hR ⊢
    have hqA : A.get q = some (.arr 50 [.slice a all.length c, .int .i64 g, .bool ct] .own) := by rw [hR.old q (hw.lt hq)]; exact hq
    by_cases him : i < n.toNat
    · have hgi : g + i < all.length := by omega
      obtain ⟨x, hx⟩ : ∃ x, all[g + i]? = some x := ⟨_, List.getElem?_eq_getElem hgi⟩
      obtain ⟨y, rfl⟩ := hall (g + i) x hx
      have hx2 : (all.drop g)[i]? = some (.int .u8 y) := by rw [List.getElem?_drop]; exact hx
      obtain ⟨bb, o, T, cs, md, rfl, hgb, hc, _⟩ := bs_cell hV hx
      have hgA : A.get bb = some (.arr T cs md) := by rw [hR.old bb (hw.lt hgb)]; exact hgb
      obtain ⟨V', A', d1, d2⟩ := hR.app (.int .u8 y) (by simp; omega)
      have hw2 : IntKind.i64.wrap ((i : Int) + 1) = ((i + 1 : Nat) : Int) := by rw [wrap64 (by omega) (by omega)]; omega
      have hw3 : IntKind.i64.wrap ((g : Int) + (i : Int)) = ((g + i : Nat) : Int) := by rw [wrap64 (by omega) (by omega)]; omega
      have e1 : ((i : Nat) : Int) < n := by omega
      have e2 : ((g + i : Nat) : Int) < ((all.length : Nat) : Int) := by omega
      have e3 : (0 : Int) ≤ ((g + i : Nat) : Int) := by omega
      refine ⟨.normal, ?s, A', kexec_run ?run, .inl ⟨rfl, ⟨i + 1, V'⟩, ?kp, ⟨him, by rw [take_succ hx2]; exact d2⟩, by simp only; omega⟩⟩
      case run =>
        conv => lhs; whnf
        rw [kdec e1]
        conv => lhs; whnf
        rw [cellsAt_of hqA]
        conv => lhs; whnf
        rw [cellsAt_of hqA]
        conv => lhs; whnf
        rw [hw3]
        first | (rw [kdec e3]; conv => lhs; whnf) | skip
        rw [kdec e2]
        conv => lhs; whnf
        refine bind_of ((cellsAt_of hgA _ _).trans hc) ?_
        conv => lhs; whnf
        refine bind_of d1 ?_
        conv => lhs; whnf
      case kp =>
        show [_, _, _, _, _, (8, Value.int .i64 (IntKind.i64.wrap ((i : Int) + 1)))] = _
        rw [hw2]
    · have e1 : ¬ ((i : Nat) : Int) < n := by omega
      obtain rfl : i = n.toNat := by omega
      refine ⟨.exit 0, ?s2, A, kexec_run ?run2, .inr ⟨by simp, rfl, v, ?kp2, hR⟩⟩
      case run2 =>
        conv => lhs; whnf
        rw [kdecn e1]
      case kp2 => rfl

/-- Move -/
theorem refmove_walk {call : CallT} (h57 : LeftOK call) (lf : Nat) {A : Hp} (hw : A.wf) (a : Option Addr) (c g : Nat) (ct : Bool) {all : List Value} (hV : BsAt A (.slice a all.length c) all) (hall : IsB all) (hg : g ≤ all.length) (hm : all.length ≤ 1000000000) (n : Int) (hlf : all.length < lf) :
    ∃ V' A', kfn Tryd.bk.E call (Tryd.bk.inf 30) lf Tryd.f30 [.agg #[.slice a all.length c, .int .i64 g, .bool ct], .int .i64 n] A =
      some (.tuple #[.agg #[.slice a all.length c, .int .i64 (g + min n.toNat (lftOf ct all.length g) : Nat), .bool ct], V'], A') ∧ RI A V' ((all.drop g).take (min n.toNat (lftOf ct all.length g))) A' := by
  let A1 : Hp := A.push (.arr 50 [.slice a all.length c, .int .i64 g, .bool ct] .own)
  let A2 : Hp := A1.push (.arr 50 [.slice none 0 0, .int .i64 0, .bool false] .own)
  let A3 : Hp := A2.push (.arr 50 [.slice a all.length c, .int .i64 g, .bool ct] .own)
  have n1 : A1.next = A.next + 1 := by simp [A1]
  have n2 : A2.next = A.next + 2 := by simp [A2, A1]
  have n3 : A3.next = A.next + 3 := by simp [A3, A2, A1]
  have hq : A2.get A.next = some (.arr 50 [.slice a all.length c, .int .i64 g, .bool ct] .own) := by
    show (A1.push _).get A.next = _
    rw [Hp.get_push_ne _ _ (by omega)]
    exact Hp.get_push_same _ _
  have hq2 : A2.get A1.next = some (.arr 50 [.slice none 0 0, .int .i64 0, .bool false] .own) := Hp.get_push_same _ _
  have hq' : A3.get A.next = some (.arr 50 [.slice a all.length c, .int .i64 g, .bool ct] .own) := by
    show (A2.push _).get A.next = _
    rw [Hp.get_push_ne _ _ (by omega)]; exact hq
  have hq2' : A3.get A1.next = some (.arr 50 [.slice none 0 0, .int .i64 0, .bool false] .own) := by
    show (A2.push _).get A1.next = _
    rw [Hp.get_push_ne _ _ (by omega)]; exact hq2
  have k3 : Kp A A3 := ((Kp.push hw _).trans (Kp.push (hw.push _) _)).trans (Kp.push ((hw.push _).push _) _)
  have hlft : lftOf ct all.length g ≤ all.length - g := by unfold lftOf; split <;> omega
  have fin : ∀ (n' : Int), n'.toNat = min n.toNat (lftOf ct all.length g) → (∃ V4 A4, loopD (some [1, 2, 4, 5, 7, 8]) (exec Tryd.bk.E call Tryd.f30.ntmps (Tryd.bk.inf 30) lf (loopOf Tryd.f30 0)) lf [(1, .int .i64 n'), (2, ptr A.next), (4, ptr A1.next), (5, .slice none 0 0), (7, .slice none 0 0), (8, .int .i64 ((0 : Nat) : Int))] A3 =
      some (.exit 0, [(1, .int .i64 n'), (2, ptr A.next), (4, ptr A1.next), (5, .slice none 0 0), (7, V4), (8, .int .i64 (n'.toNat : Nat))], A4) ∧ RI A3 V4 ((all.drop g).take n'.toNat) A4) := fun n' hn' => by
    obtain ⟨A4, V4, l1, l2⟩ := move_loop30 (call := call) lf k3.wf hq' (hV.old hw k3.old) hall hm (by omega) n' (by omega) hg (ptr A1.next)
    exact ⟨V4, A4, l1, l2⟩
  by_cases hgt : n > ((lftOf ct all.length g : Nat) : Int)
  · obtain ⟨V4, A4, l1, l2⟩ := fin ((lftOf ct all.length g : Nat) : Int) (by omega)
    rw [show ((lftOf ct all.length g : Nat) : Int).toNat = min n.toNat (lftOf ct all.length g) by omega] at l2
    have hk : ((all.drop g).take (min n.toNat (lftOf ct all.length g))).length = min n.toNat (lftOf ct all.length g) := by simp; omega
    have hkb : min n.toNat (lftOf ct all.length g) ≤ all.length - g := by omega
    obtain ⟨av, cv, e⟩ := l2.bs.form
    rw [hk] at e
    generalize min n.toNat (lftOf ct all.length g) = k at l2 e hk hkb
    subst e
    have hw4 : IntKind.i64.wrap ((g : Int) + (k : Int)) = ((g + k : Nat) : Int) := by rw [wrap64 (by omega) (by omega)]; omega
    have g1 : A4.get A.next = some (.arr 50 [.slice a all.length c, .int .i64 g, .bool ct] .own) := by rw [l2.old _ (by omega)]; exact hq'
    have r3 := l2.set (o' := .arr 50 [.slice a all.length c, .int .i64 (g + k : Nat), .bool ct] .own) g1 (by simp) (B0 := A) (Nat.le_refl _) (by omega) k3.old
    have g2 : (A4.set A.next (some (.arr 50 [.slice a all.length c, .int .i64 (g + k : Nat), .bool ct] .own))).get A1.next = some (.arr 50 [.slice none 0 0, .int .i64 0, .bool false] .own) := by
      rw [Hp.get_set_ne _ _ (by omega), l2.old _ (by omega)]; exact hq2'
    have r4 := r3.set (o' := .arr 50 [.slice a all.length c, .int .i64 (g + k : Nat), .bool ct] .own) g2 (by simp) (B0 := A) (by omega) (Nat.le_refl _) (fun _ _ => rfl)
    refine ⟨.slice av k cv, _, ?run1, r4⟩
    case run1 =>
      conv => lhs; whnf
      refine bind_of (cellsAt_of hq _ _) ?_
      conv => lhs; whnf
      refine bind_of (h57 _ _ _ _ _ _ hg hm) ?_
      conv => lhs; whnf
      rw [kdec hgt]
      conv => lhs; whnf
      refine bind_of l1 ?_
      conv => lhs; whnf
      refine bind_of (cellsAt_of g1 _ _) ?_
      conv => lhs; whnf
      rw [hw4]
      refine bind_of (dstore_of g1 (t := 3) (o := 1) (cs' := [.slice a all.length c, .int .i64 (g + k : Nat), .bool ct]) rfl) ?_
      conv => lhs; whnf
      rw [cellsAt_of (Hp.get_set_same _ _ _)]
      conv => lhs; whnf
      refine bind_of (dstore_of g2 (t := 50) (o := 0) (cs' := [.slice a all.length c, .int .i64 (g + k : Nat), .bool ct]) rfl) ?_
      conv => lhs; whnf
      refine bind_of (cellsAt_of (A := (A4.set A.next (some (.arr 50 [.slice a all.length c, .int .i64 (g + k : Nat), .bool ct] .own))).set A1.next (some (.arr 50 [.slice a all.length c, .int .i64 (g + k : Nat), .bool ct] .own))) (i := A1.next) (Hp.get_set_same _ _ _) 0 3) ?_
      conv => lhs; whnf
      rfl
  · obtain ⟨V4, A4, l1, l2⟩ := fin n (by omega)
    rw [show n.toNat = min n.toNat (lftOf ct all.length g) by omega] at l2
    have hk : ((all.drop g).take (min n.toNat (lftOf ct all.length g))).length = min n.toNat (lftOf ct all.length g) := by simp; omega
    have hkb : min n.toNat (lftOf ct all.length g) ≤ all.length - g := by omega
    obtain ⟨av, cv, e⟩ := l2.bs.form
    rw [hk] at e
    generalize min n.toNat (lftOf ct all.length g) = k at l2 e hk hkb
    subst e
    have hw4 : IntKind.i64.wrap ((g : Int) + (k : Int)) = ((g + k : Nat) : Int) := by rw [wrap64 (by omega) (by omega)]; omega
    have g1 : A4.get A.next = some (.arr 50 [.slice a all.length c, .int .i64 g, .bool ct] .own) := by rw [l2.old _ (by omega)]; exact hq'
    have r3 := l2.set (o' := .arr 50 [.slice a all.length c, .int .i64 (g + k : Nat), .bool ct] .own) g1 (by simp) (B0 := A) (Nat.le_refl _) (by omega) k3.old
    have g2 : (A4.set A.next (some (.arr 50 [.slice a all.length c, .int .i64 (g + k : Nat), .bool ct] .own))).get A1.next = some (.arr 50 [.slice none 0 0, .int .i64 0, .bool false] .own) := by
      rw [Hp.get_set_ne _ _ (by omega), l2.old _ (by omega)]; exact hq2'
    have r4 := r3.set (o' := .arr 50 [.slice a all.length c, .int .i64 (g + k : Nat), .bool ct] .own) g2 (by simp) (B0 := A) (by omega) (Nat.le_refl _) (fun _ _ => rfl)
    refine ⟨.slice av k cv, _, ?run2, r4⟩
    case run2 =>
      conv => lhs; whnf
      refine bind_of (cellsAt_of hq _ _) ?_
      conv => lhs; whnf
      refine bind_of (h57 _ _ _ _ _ _ hg hm) ?_
      conv => lhs; whnf
      rw [kdecn hgt]
      conv => lhs; whnf
      refine bind_of l1 ?_
      conv => lhs; whnf
      refine bind_of (cellsAt_of g1 _ _) ?_
      conv => lhs; whnf
      rw [hw4]
      refine bind_of (dstore_of g1 (t := 3) (o := 1) (cs' := [.slice a all.length c, .int .i64 (g + k : Nat), .bool ct]) rfl) ?_
      conv => lhs; whnf
      rw [cellsAt_of (Hp.get_set_same _ _ _)]
      conv => lhs; whnf
      refine bind_of (dstore_of g2 (t := 50) (o := 0) (cs' := [.slice a all.length c, .int .i64 (g + k : Nat), .bool ct]) rfl) ?_
      conv => lhs; whnf
      refine bind_of (cellsAt_of (A := (A4.set A.next (some (.arr 50 [.slice a all.length c, .int .i64 (g + k : Nat), .bool ct] .own))).set A1.next (some (.arr 50 [.slice a all.length c, .int .i64 (g + k : Nat), .bool ct] .own))) (i := A1.next) (Hp.get_set_same _ _ _) 0 3) ?_
      conv => lhs; whnf
      rfl
end Go.Dn.Pipe
end
