/-
  Part of the abstract machine for this program.
-/
import Derived.Test.YtombnpednnngoaaDoorPG
import Derived.Test.YtombnpednnngoaaDoorPH
import Derived.Test.YtombnpednnngoaaDoorPC

section
/-
  layer 16 (backlog): the backlog's functions as known calls
-/
namespace Go.Dn.Bl
open Go.Proofs Go.Dn.Ln
set_option maxHeartbeats 4000000
set_option maxRecDepth 100000
attribute [local irreducible] Hp.get Hp.set Hp.push dappend dcopy dstore cellsAt callD loopD rangeD itB hideL

theorem same_bx {A : Hp} {i : Nat} {x y : BX} (h1 : A.get i = some (.abs 4 x.dat)) (h2 : A.get i = some (.abs 4 y.dat)) : x = y := by
  rw [h1] at h2
  have := Option.some.inj h2
  simp only [Ob.abs.injEq, true_and] at this
  exact BX.dat_inj this

def numsV (n : Nat) (ids : List Int) : Value := match ids with
  | [] => .slice none 0 0
  | _ :: _ => .slice (some ⟨n, 0, some 1⟩) ids.length (2 * ids.length)
def numsE (ids : List Int) : List (TypeId × List Value) := match ids with
  | [] => []
  | _ :: _ => [(27, nums ids)]

abbrev bo (x : BX) : Ob := .abs 4 x.dat
inductive BNewR : List Value → Hp → Value × Hp → Prop
  | mk (A : Hp) (most : Int) (h1 : 1 ≤ most) (h2 : most ≤ 1024) : BNewR [.int .i64 most] A (.tuple #[ptr A.next, .nilIface], A.push (bo ⟨most, []⟩))
inductive BPutR : List Value → Hp → Value × Hp → Prop
  | mk (A : Hp) (i : Nat) (x : BX) (hi : A.get i = some (bo x)) (hok : x.ok) (y : Int) : BPutR [ptr i, .int .u32 y] A (errO' (putB x.most x.ids y).1, A.set i (some (bo ⟨x.most, (putB x.most x.ids y).2⟩)))
inductive BHasR : List Value → Hp → Value × Hp → Prop
  | mk (A : Hp) (i : Nat) (x : BX) (hi : A.get i = some (bo x)) (hok : x.ok) (y : Int) : BHasR [ptr i, .int .u32 y] A (.bool (x.ids.any (· == y)), A.set i (some (bo x)))
inductive BRemR : List Value → Hp → Value × Hp → Prop
  | mk (A : Hp) (i : Nat) (x : BX) (hi : A.get i = some (bo x)) (hok : x.ok) (y : Int) : BRemR [ptr i, .int .u32 y] A (.bool (x.ids.any (· == y)), A.set i (some (bo ⟨x.most, stayL (· == y) x.ids⟩)))
inductive BListR : List Value → Hp → Value × Hp → Prop
  | mk (A : Hp) (i : Nat) (x : BX) (hi : A.get i = some (bo x)) (hok : x.ok) : BListR [ptr i] A (numsV A.next x.ids, pushL .own (A.set i (some (bo x))) (numsE x.ids))
inductive BLenR : List Value → Hp → Value × Hp → Prop
  | mk (A : Hp) (i : Nat) (x : BX) (hi : A.get i = some (bo x)) (hok : x.ok) : BLenR [ptr i] A (.int .i64 (x.ids.length : Nat), A.set i (some (bo x)))
inductive BHeadR : List Value → Hp → Value × Hp → Prop
  | mk (A : Hp) (i : Nat) (x : BX) (hi : A.get i = some (bo x)) (hok : x.ok) : BHeadR [ptr i] A (topV x.ids, A.set i (some (bo x)))
inductive BTakeR : List Value → Hp → Value × Hp → Prop
  | mk (A : Hp) (i : Nat) (x : BX) (hi : A.get i = some (bo x)) (hok : x.ok) : BTakeR [ptr i] A (topV x.ids, A.set i (some (bo ⟨x.most, x.ids.tail⟩)))
inductive BClrR : List Value → Hp → Value × Hp → Prop
  | mk (A : Hp) (i : Nat) (x : BX) (hi : A.get i = some (bo x)) (hok : x.ok) : BClrR [ptr i] A (.int .i64 (x.ids.length : Nat), A.set i (some (bo ⟨x.most, []⟩)))

theorem BNewR.one {A : Hp} {args : List Value} {r r' : Value × Hp} (h : BNewR args A r) (h' : BNewR args A r') : r' = r := by
  cases h; cases h'; rfl
theorem BPutR.one {A : Hp} {args : List Value} {r r' : Value × Hp} (h : BPutR args A r) (h' : BPutR args A r') : r' = r := by
  cases h with | mk _ i x hi => cases h' with | mk _ _ y hj => rw [same_bx hj hi]
theorem BHasR.one {A : Hp} {args : List Value} {r r' : Value × Hp} (h : BHasR args A r) (h' : BHasR args A r') : r' = r := by
  cases h with | mk _ i x hi => cases h' with | mk _ _ y hj => rw [same_bx hj hi]
theorem BRemR.one {A : Hp} {args : List Value} {r r' : Value × Hp} (h : BRemR args A r) (h' : BRemR args A r') : r' = r := by
  cases h with | mk _ i x hi => cases h' with | mk _ _ y hj => rw [same_bx hj hi]
theorem BListR.one {A : Hp} {args : List Value} {r r' : Value × Hp} (h : BListR args A r) (h' : BListR args A r') : r' = r := by
  cases h with | mk _ i x hi => cases h' with | mk _ _ y hj => rw [same_bx hj hi]
theorem BLenR.one {A : Hp} {args : List Value} {r r' : Value × Hp} (h : BLenR args A r) (h' : BLenR args A r') : r' = r := by
  cases h with | mk _ i x hi => cases h' with | mk _ _ y hj => rw [same_bx hj hi]
theorem BHeadR.one {A : Hp} {args : List Value} {r r' : Value × Hp} (h : BHeadR args A r) (h' : BHeadR args A r') : r' = r := by
  cases h with | mk _ i x hi => cases h' with | mk _ _ y hj => rw [same_bx hj hi]
theorem BTakeR.one {A : Hp} {args : List Value} {r r' : Value × Hp} (h : BTakeR args A r) (h' : BTakeR args A r') : r' = r := by
  cases h with | mk _ i x hi => cases h' with | mk _ _ y hj => rw [same_bx hj hi]
theorem BClrR.one {A : Hp} {args : List Value} {r r' : Value × Hp} (h : BClrR args A r) (h' : BClrR args A r') : r' = r := by
  cases h with | mk _ i x hi => cases h' with | mk _ _ y hj => rw [same_bx hj hi]

theorem fn26 : ∃ x, Tryd.prog.funcs[26]? = some x ∧ x.body.isSome = true ∧ (x.name == "runtime.NumGoroutine") = false := ⟨Tryd.f26, by kernel_rfl, by kernel_rfl, by kernel_rfl⟩
theorem fn30 : ∃ x, Tryd.prog.funcs[30]? = some x ∧ x.body.isSome = true ∧ (x.name == "runtime.NumGoroutine") = false := ⟨Tryd.f30, by kernel_rfl, by kernel_rfl, by kernel_rfl⟩
theorem fn31 : ∃ x, Tryd.prog.funcs[31]? = some x ∧ x.body.isSome = true ∧ (x.name == "runtime.NumGoroutine") = false := ⟨Tryd.f31, by kernel_rfl, by kernel_rfl, by kernel_rfl⟩
theorem fn32 : ∃ x, Tryd.prog.funcs[32]? = some x ∧ x.body.isSome = true ∧ (x.name == "runtime.NumGoroutine") = false := ⟨Tryd.f32, by kernel_rfl, by kernel_rfl, by kernel_rfl⟩
theorem fn33 : ∃ x, Tryd.prog.funcs[33]? = some x ∧ x.body.isSome = true ∧ (x.name == "runtime.NumGoroutine") = false := ⟨Tryd.f33, by kernel_rfl, by kernel_rfl, by kernel_rfl⟩
theorem fn34 : ∃ x, Tryd.prog.funcs[34]? = some x ∧ x.body.isSome = true ∧ (x.name == "runtime.NumGoroutine") = false := ⟨Tryd.f34, by kernel_rfl, by kernel_rfl, by kernel_rfl⟩
theorem fn35 : ∃ x, Tryd.prog.funcs[35]? = some x ∧ x.body.isSome = true ∧ (x.name == "runtime.NumGoroutine") = false := ⟨Tryd.f35, by kernel_rfl, by kernel_rfl, by kernel_rfl⟩
theorem fn36 : ∃ x, Tryd.prog.funcs[36]? = some x ∧ x.body.isSome = true ∧ (x.name == "runtime.NumGoroutine") = false := ⟨Tryd.f36, by kernel_rfl, by kernel_rfl, by kernel_rfl⟩
theorem fn37 : ∃ x, Tryd.prog.funcs[37]? = some x ∧ x.body.isSome = true ∧ (x.name == "runtime.NumGoroutine") = false := ⟨Tryd.f37, by kernel_rfl, by kernel_rfl, by kernel_rfl⟩

section
variable [Reps] (hR : ∀ k d B r, Reps.rep k d B r ↔ repB k d B r)
include hR

theorem bnew_call {g : Gh} {A : Hp} {w : World} (hA : RelX Tryd.prog g A w) (hCw : Reps.C.wf) {most : Int} (h1 : 1 ≤ most) (h2 : most ≤ 1024) {args' : Array Value} (ha : AR g.ρ [Value.int .i64 most].toArray args') :
    Calls Tryd.prog 26 args' w fun e w' => ∃ v', e = .returned v' ∧ After Tryd.prog g A w (.tuple #[ptr A.next, .nilIface]) (A.push (bo ⟨most, []⟩)) v' w' := by
  have hC := callD_ok goodB (noCalls_ok _) 1300
  obtain ⟨B', r1, r2, r4⟩ := x_new hCw h1 h2
  have hC2 : ∀ i o, Reps.C.get i = some o → B'.get i = some o := fun i o hi => by rw [r2.old i (Reps.Cro i o hi).1]; exact hi
  obtain ⟨B2, c1, c2, c3, ⟨S', c4⟩, c5, c6, c7, _⟩ := r4.close r2.wf hC2
  refine call_new hC hA (k := 4) (x := BX.dat ⟨most, []⟩) (im := []) (ims := []) rfl (by simp) ha (largs := [.int .i64 most]) (.cons (.plain rfl) .nil) (v := .tuple #[ptr (Reps.C.next + 1), .nilIface]) (B' := B') (B2 := B2) (r := Reps.C.next + 1) r1 c1 (by omega) c3
    ((hR _ _ _ _).2 ⟨rfl, c5, _, rfl, ⟨by simp, h1, h2⟩, S', c4⟩) c6 c7 (VM.tuples (.cons (.ptr 0 (.inr ⟨rfl, rfl⟩)) (.cons (.plain rfl) .nil)))

/-- a method that gives a plain value, or a sentinel -/
theorem bmeth_call {g : Gh} {A : Hp} {w : World} (hA : RelX Tryd.prog g A w) {i : Nat} {x x' : BX} (hi : A.get i = some (bo x)) {f : FuncId} {n : Nat} {u : Value} {us : List Value} (hus : ∀ (r : Nat), VMs (fun a b => (a = i ∧ b = r) ∨ (a < Reps.C.next ∧ b = a)) us us)
    {args' : Array Value} (ha : AR g.ρ (ptr i :: us).toArray args')
    (hu : ∀ r, VM (fun a b => (a = r ∧ b = i) ∨ (a < Reps.C.next ∧ b = a)) u u) (hok' : x'.ok)
    (hrun : ∀ B r S, B.wf → EB B → Bx B r S x → ∃ B' S', callD bkB noCalls n f (ptr r :: us) B = some (u, B') ∧ St B B' r S S' ∧ Bx B' r S' x') (hCC : EB Reps.C) :
    Calls Tryd.prog f args' w fun e w' => ∃ v', e = .returned v' ∧ After Tryd.prog g A w u (A.set i (some (bo x'))) v' w' := by
  have hC := callD_ok goodB (noCalls_ok _) n
  refine call_method hC hA hi (k' := 4) (im := []) (ims := []) rfl (by simp) [] (by simp) ha (fun r _ => ptr r :: us) (fun r m => .cons (.ptr 0 (.inl ⟨rfl, rfl⟩)) ((hus r).mono fun a b h => by rcases h with h | h; exact .inl h; exact .inr (.inl h))) u ?_
  intro B r hCB hw hCn hrep
  obtain ⟨_, _, y, e1, _, S, hLx⟩ := (hR _ _ _ _).1 hrep
  obtain rfl := BX.dat_inj e1
  obtain ⟨S0, hLx0, _, hS0⟩ := hLx.apart hCB
  obtain ⟨B', S', q1, q2, q3⟩ := hrun B r S0 hw (hCC.of hCB) hLx0
  have hCA : ∀ i o, Reps.C.get i = some o → B'.get i = some o := fun j o hj => by
    obtain ⟨a1, a2⟩ := hS0 j o hj
    have := (Reps.Cro j o hj).1
    rw [q2.old j (by omega) a1 a2]
    exact hCB j o hj
  obtain ⟨B2, c1, c2, c3, ⟨S2, c4⟩, c5, c6, c7, _⟩ := q3.close q2.wf hCA
  exact ⟨u, B', B2, [], q1, c1, by omega, c3, (hR _ _ _ _).2 ⟨rfl, c5, _, rfl, hok', S2, c4⟩, c6, c7, rfl, .nil, by simp, (hu r).mono fun a b h => by rcases h with h | h; exact .inl h; exact .inr (.inl h)⟩

theorem blist_call {g : Gh} {A : Hp} {w : World} (hA : RelX Tryd.prog g A w) {i : Nat} {x : BX} (hi : A.get i = some (bo x)) (hok : x.ok)
    {args' : Array Value} (ha : AR g.ρ [ptr i].toArray args') :
    Calls Tryd.prog 33 args' w fun e w' => ∃ v', e = .returned v' ∧ After Tryd.prog g A w (numsV A.next x.ids) (pushL .own (A.set i (some (bo x))) (numsE x.ids)) v' w' := by
  have hC := callD_ok goodB (noCalls_ok _) 1300
  refine call_method hC hA hi (k' := 4) (im := []) (ims := []) rfl (by simp) (numsE x.ids) ?_ ha (fun r _ => [ptr r]) (fun r _ => .cons (.ptr 0 (.inl ⟨rfl, rfl⟩)) .nil) (numsV A.next x.ids) ?_
  · intro e he u hu
    cases ho : x.ids with
    | nil => rw [ho] at he; simp [numsE] at he
    | cons a l =>
      rw [ho] at he
      simp only [numsE, List.mem_singleton] at he
      subst he
      obtain ⟨z, _, rfl⟩ := List.mem_map.1 hu
      rfl
  · intro B r hCB hw hCn hrep
    obtain ⟨_, _, y, e1, _, S, hLx⟩ := (hR _ _ _ _).1 hrep
    obtain rfl := BX.dat_inj e1
    obtain ⟨S0, hLx0, hS1, hS0⟩ := hLx.apart hCB
    obtain ⟨V, io, A', q1, q2, q3, q4⟩ := x_list hw hLx0 hok
    have hCA : ∀ i o, Reps.C.get i = some o → A'.get i = some o := fun j o hj => by
      have := (Reps.Cro j o hj).1
      rw [q2.old j (by omega)]
      exact hCB j o hj
    obtain ⟨f, io0, v0, p1, p2, p3⟩ := hLx0
    have hA' : Bx A' r S0 x := ⟨f, io0, v0, p1.kp hw q2, p2, p3⟩
    obtain ⟨B2, c1, c2, c3, ⟨S2, c4⟩, c5, c6, c7, c8⟩ := hA'.close q2.wf hCA
    have hrl := hw.lt p1.hr
    have hold : ∀ j, B.next ≤ j → B2.get j = none := fun j hj => c8 j (by omega) (by omega) (fun e => by
      obtain ⟨o, ho, _⟩ := hS1 j e
      have := hw.lt ho
      omega)
    have hrep2 : Reps.rep 4 x.dat B2 r := (hR _ _ _ _).2 ⟨rfl, c5, x, rfl, hok, S2, c4⟩
    cases ho : x.ids with
    | nil =>
      rw [ho] at q3
      obtain ⟨hv, _⟩ := can_zero q3 rfl
      subst hv
      exact ⟨_, A', B2, [], q1, c1, by omega, c3, hrep2, c6, c7, rfl, .nil, by simp [numsE], .plain rfl⟩
    | cons a l =>
      rw [ho] at q3
      obtain ⟨iv, rfl⟩ := can_some q3 (by simp)
      have hiv := q4 iv rfl
      obtain ⟨rfl, hg, _⟩ := q3.some_form
      refine ⟨_, A', B2, [iv], q1, c1, by omega, c3, hrep2, c6, c7, rfl, by simp, ?_, ?_⟩
      · intro t e j h1 h2
        match t, h1, h2 with
        | 0, h1, h2 =>
          simp only [numsE, List.getElem?_cons_zero, Option.some.injEq] at h1 h2
          subst h1 h2
          exact ⟨hg, hold iv hiv⟩
      · exact .slice 0 1 _ _ (.inr (.inr ⟨0, rfl, rfl⟩))

omit [Reps] hR in
theorem putB_g {most : Int} {ids : List Int} {y : Int} {g : Nat} (h : (putB most ids y).1 = some g) : g < 44 := by
  unfold putB at h
  split at h
  · cases h; decide
  · unfold putF at h
    split at h
    · cases h; decide
    · cases h

omit hR in
theorem errO'_vm {o : Option Nat} (h : ∀ g, o = some g → g + 44 < Reps.C.next) {m : Nat → Nat → Prop} (hm : ∀ a, a < Reps.C.next → m a a) : VM m (errO' o) (errO' o) := by
  cases o with
  | none => exact .plain rfl
  | some g => exact .iface _ (.ptr 0 (hm _ (h g rfl)))

noncomputable def TBk (base : CallT) : CallT := withCall (withCall (withCall (withCall (withCall (withCall (withCall (withCall (withCall base 26 (byRel BNewR)) 31 (byRel BPutR)) 30 (byRel BHasR)) 32 (byRel BRemR)) 33 (byRel BListR)) 34 (byRel BLenR)) 35 (byRel BHeadR)) 36 (byRel BTakeR)) 37 (byRel BClrR)

theorem TBk_ok (hCC : EB Reps.C) {base : CallT} (hB : CallOK Tryd.prog base) (hCw : Reps.C.wf) (hCn : Reps.C.next = 88) : CallOK Tryd.prog (TBk base) := by
  refine withCall_ok (withCall_ok (withCall_ok (withCall_ok (withCall_ok (withCall_ok (withCall_ok (withCall_ok (withCall_ok hB fn26 ?_) fn31 ?_) fn30 ?_) fn32 ?_) fn33 ?_) fn34 ?_) fn35 ?_) fn36 ?_) fn37 ?_
  · intro args A v A' h ρ w args' hr ha
    have h := byRel_some h
    cases h with
    | mk _ m h1 h2 => exact bnew_call hR hr hCw h1 h2 ha
  · intro args A v A' h ρ w args' hr ha
    have h := byRel_some h
    cases h with
    | mk _ i x hi hok y =>
      exact bmeth_call hR (n := 1301) hr hi (x' := ⟨x.most, (putB x.most x.ids y).2⟩) (us := [.int .u32 y]) (fun r => .cons (.plain rfl) .nil) ha (fun r => errO'_vm (fun g hg => by have := putB_g hg; omega) fun a ha => .inr ⟨ha, rfl⟩) (putB_ok hok y)
        (fun B r S hw hC hx => x_put hw hx hok hC y) hCC
  · intro args A v A' h ρ w args' hr ha
    have h := byRel_some h
    cases h with
    | mk _ i x hi hok y =>
      exact bmeth_call hR (n := 1300) hr hi (x' := x) (us := [.int .u32 y]) (fun r => .cons (.plain rfl) .nil) ha (fun r => .plain rfl) hok (fun B r S hw hC hx => by
        obtain ⟨A', q1, q2⟩ := x_has hw hx hok y
        obtain ⟨f, io, v, p1, p2, p3⟩ := hx
        exact ⟨A', S, q1, q2.st, f, io, v, p1.kp hw q2, p2, p3⟩) hCC
  · intro args A v A' h ρ w args' hr ha
    have h := byRel_some h
    cases h with
    | mk _ i x hi hok y =>
      exact bmeth_call hR (n := 1300) hr hi (x' := ⟨x.most, stayL (· == y) x.ids⟩) (us := [.int .u32 y]) (fun r => .cons (.plain rfl) .nil) ha (fun r => .plain rfl) ⟨Nat.le_trans (stay_le _ _) hok.1, hok.2⟩ (fun B r S hw hC hx => x_remove hw hx hok y) hCC
  · intro args A v A' h ρ w args' hr ha
    have h := byRel_some h
    cases h with
    | mk _ i x hi hok => exact blist_call hR hr hi hok ha
  · intro args A v A' h ρ w args' hr ha
    have h := byRel_some h
    cases h with
    | mk _ i x hi hok => exact bmeth_call hR (n := 1300) hr hi (x' := x) (us := []) (fun r => .nil) ha (fun r => .plain rfl) hok (fun B r S hw hC hx => ⟨B, S, x_len hx, St.refl hw, hx⟩) hCC
  · intro args A v A' h ρ w args' hr ha
    have h := byRel_some h
    cases h with
    | mk _ i x hi hok =>
      refine bmeth_call hR (n := 1300) hr hi (x' := x) (us := []) (fun r => .nil) ha (fun r => ?_) hok (fun B r S hw hC hx => ⟨B, S, x_head hx, St.refl hw, hx⟩) hCC
      unfold topV
      split <;> exact VM.tuples (.cons (.plain rfl) (.cons (.plain rfl) .nil))
  · intro args A v A' h ρ w args' hr ha
    have h := byRel_some h
    cases h with
    | mk _ i x hi hok =>
      refine bmeth_call hR (n := 1300) hr hi (x' := ⟨x.most, x.ids.tail⟩) (us := []) (fun r => .nil) ha (fun r => ?_) ⟨by have := hok.1; simp; omega, hok.2⟩ (fun B r S hw hC hx => x_take hw hx) hCC
      unfold topV
      split <;> exact VM.tuples (.cons (.plain rfl) (.cons (.plain rfl) .nil))
  · intro args A v A' h ρ w args' hr ha
    have h := byRel_some h
    cases h with
    | mk _ i x hi hok =>
      exact bmeth_call hR (n := 1300) hr hi (x' := ⟨x.most, []⟩) (us := []) (fun r => .nil) ha (fun r => .plain rfl) ⟨by simp, hok.2⟩ (fun B r S hw hC hx => x_clear hw hx hok) hCC
end

/-- the backlog's functions, called -/
structure BFns (call : CallT) : Prop where
  awake : ∀ A, call 25 [] A = some (.bool true, A)
  new : ∀ {args A r}, BNewR args A r → call 26 args A = some r
  put : ∀ {args A r}, BPutR args A r → call 31 args A = some r
  has : ∀ {args A r}, BHasR args A r → call 30 args A = some r
  rem : ∀ {args A r}, BRemR args A r → call 32 args A = some r
  list : ∀ {args A r}, BListR args A r → call 33 args A = some r
  len : ∀ {args A r}, BLenR args A r → call 34 args A = some r
  head : ∀ {args A r}, BHeadR args A r → call 35 args A = some r
  take : ∀ {args A r}, BTakeR args A r → call 36 args A = some r
  clr : ∀ {args A r}, BClrR args A r → call 37 args A = some r
theorem TBk_fns {base : CallT} (hw : ∀ A, base 25 [] A = some (.bool true, A)) (n : Nat) : BFns (callD Tryd.bk (TBk base) n) := by
  refine ⟨fun A => callD_base (show TBk base 25 _ A = _ from hw A) _, fun h => callD_base ?_ _, fun h => callD_base ?_ _, fun h => callD_base ?_ _, fun h => callD_base ?_ _, fun h => callD_base ?_ _, fun h => callD_base ?_ _, fun h => callD_base ?_ _, fun h => callD_base ?_ _, fun h => callD_base ?_ _⟩
  all_goals exact byRel_of h fun r' h' => h.one h'
end Go.Dn.Bl
end

section
/-
  the base of the lane's laws: 'fixed', a closed run
-/
set_option maxRecDepth 100000
namespace Go.Dn.Ln
open Go.Proofs

theorem fnFixed : ∃ x, Tryd.prog.funcs[15]? = some x ∧ x.body.isSome = true ∧ (x.name == "runtime.NumGoroutine") = false := ⟨Tryd.f15, by kernel_rfl, by kernel_rfl, by kernel_rfl⟩
theorem fixed_run : (callD Tryd.bk T0 200 15 [] CE).map (·.1) = some (.bool true) := by kernel_rfl
def TF : CallT := withCall noCalls 15 wakesF
theorem TF_ok [Reps] (hK : Reps.C = CE) : CallOK Tryd.prog TF := true_known hK fnFixed fixed_run (noCalls_ok _)
theorem CE_LC : LC CE := ⟨rfl, rfl, rfl, rfl, rfl, rfl⟩
end Go.Dn.Ln
end

section
/-
  the base of the backlog's laws: 'awake', a closed run; the codes
-/
namespace Go.Dn.Bl
open Go.Proofs Go.Dn.Ln
set_option maxRecDepth 100000

theorem fn25 : ∃ x, Tryd.prog.funcs[25]? = some x ∧ x.body.isSome = true ∧ (x.name == "runtime.NumGoroutine") = false := ⟨Tryd.f25, by kernel_rfl, by kernel_rfl, by kernel_rfl⟩
/-- the constants of the backlog's laws: sentinels alone -/
def CB : Hp := CE.set 1 none
theorem CB_get {i : Nat} {o : Ob} (h : CB.get i = some o) : i ∈ errs ∧ o = er i := by
  unfold CB at h
  rw [Hp.get_set] at h
  split at h
  · cases h
  · rename_i hi
    rcases CE_get h with h | h
    · exact h
    · exact absurd h.1 hi
theorem CB_next : CB.next = 88 := rfl
theorem CB_wf : CB.wf := by
  intro i hi
  rw [CB_next] at hi
  cases h : CB.get i with
  | none => rfl
  | some o =>
    have h1 := (CB_get h).1
    have h2 : ∀ g ∈ errs, g < 88 := by decide
    have := h2 i h1
    omega
theorem CB_EB : EB CB := ⟨(Hp.get_set_ne _ _ (by decide)).trans CE_EB.e0, (Hp.get_set_ne _ _ (by decide)).trans CE_EB.e2, (Hp.get_set_ne _ _ (by decide)).trans CE_EB.e4, (Hp.get_set_ne _ _ (by decide)).trans CE_EB.e13⟩

theorem T0_okB [Reps] (hK : Reps.C = CB) : CallOK Tryd.prog T0 := withCall_ok (noCalls_ok _) fn66 (isF_ok (by rw [hK]; rfl))
theorem awake_run : (callD bkB T0 200 25 [] CB).map (·.1) = some (.bool true) := by kernel_rfl
theorem awake_known [Reps] (hK : Reps.C = CB) {base : CallT} (hB : CallOK Tryd.prog base) : CallOK Tryd.prog (withCall base 25 wakesF) := by
  refine withCall_ok hB fn25 fun args A v A' h ρ w args' hr ha => ?_
  unfold wakesF at h
  split at h
  · cases h
    have hrun := awake_run
    cases hc : callD bkB T0 200 25 [] CB with
    | none => rw [hc] at hrun; cases hrun
    | some r =>
      obtain ⟨v, B'⟩ := r
      rw [hc] at hrun
      cases hrun
      rw [← hK] at hc
      exact closed_ok (callD_ok goodB (T0_okB hK) 200) hc .nil rfl ρ A w args' hr ha
  · cases h

noncomputable def codeRunB (u : Value) : Option Value := (callD Tryd.bk T0 60 28 [u] CB).map (·.1)
theorem code_nilB : codeRunB .nilIface = some (.int .i64 0) := by kernel_rfl
theorem code_knownB [Reps] (hK : Reps.C = CB) {cs : List (Nat × Int)} (hcs : cs.all (fun x => Nat.blt x.1 88) = true)
    (hrun : (cs.map fun x => codeRunB (.iface 206 (.pointer (some ⟨x.1, 0, none⟩)))) = cs.map fun x => some (.int .i64 x.2)) {base : CallT} (hB : CallOK Tryd.prog base) : CallOK Tryd.prog (withCall base 28 (codeL cs)) := by
  refine withCall_ok hB fn28 fun args A v A' h ρ w args' hr ha => ?_
  have hC := callD_ok Tryd.good (T0_okB hK) 60
  have hn : Reps.C.next = 88 := by rw [hK]; rfl
  unfold codeL at h
  split at h
  · cases h
    have h2 := code_nilB
    unfold codeRunB at h2
    cases hc : callD Tryd.bk T0 60 28 [.nilIface] CB with
    | none => rw [hc] at h2; cases h2
    | some r =>
      obtain ⟨v, B'⟩ := r
      rw [hc] at h2
      cases h2
      rw [← hK] at hc
      exact closed_ok hC hc (.cons (.plain rfl) .nil) rfl ρ A w args' hr ha
  · rename_i k
    cases hl : cs.lookup k with
    | none => rw [hl] at h; cases h
    | some n =>
      rw [hl] at h
      cases h
      have hm := lookup_mem _ _ _ hl
      obtain ⟨i, hi⟩ := List.getElem?_of_mem hm
      have h2 := congrArg (fun l => l[i]?) hrun
      simp only [List.getElem?_map, hi, Option.map_some, Option.some.injEq] at h2
      unfold codeRunB at h2
      have hk : k < 88 := by
        have := List.all_eq_true.1 hcs _ hm
        simpa [Nat.blt_eq] using this
      cases hc : callD Tryd.bk T0 60 28 [.iface 206 (.pointer (some ⟨k, 0, none⟩))] CB with
      | none => rw [hc] at h2; cases h2
      | some r =>
        obtain ⟨v, B'⟩ := r
        rw [hc] at h2
        simp only [Option.map_some, Option.some.injEq] at h2
        subst h2
        rw [← hK] at hc
        exact closed_ok hC hc (.cons (.iface _ (.ptr 0 ⟨by omega, rfl⟩)) .nil) rfl ρ A w args' hr ha
  · cases h

def codsB : List (Nat × Int) := [(44 + 0, 1), (44 + 2, 8), (44 + 4, 2), (44 + 13, 6)]
theorem codb_0 : codeRunB (.iface 206 (.pointer (some ⟨44 + 0, 0, none⟩))) = some (.int .i64 1) := by kernel_rfl
theorem codb_2 : codeRunB (.iface 206 (.pointer (some ⟨44 + 2, 0, none⟩))) = some (.int .i64 8) := by kernel_rfl
theorem codb_4 : codeRunB (.iface 206 (.pointer (some ⟨44 + 4, 0, none⟩))) = some (.int .i64 2) := by kernel_rfl
theorem codb_13 : codeRunB (.iface 206 (.pointer (some ⟨44 + 13, 0, none⟩))) = some (.int .i64 6) := by kernel_rfl
theorem codsB_run : (codsB.map fun x => codeRunB (.iface 206 (.pointer (some ⟨x.1, 0, none⟩)))) = codsB.map fun x => some (.int .i64 x.2) := by
  simp only [codsB, List.map_cons, List.map_nil]
  rw [codb_0, codb_2, codb_4, codb_13]

def TA : CallT := withCall (withCall noCalls 25 wakesF) 28 (codeL codsB)
theorem TA_ok [Reps] (hK : Reps.C = CB) : CallOK Tryd.prog TA := code_knownB hK (by decide) codsB_run (awake_known hK (noCalls_ok _))

/-- a sentinel's number -/
def codB (o : Option Nat) : Int := match o with
  | none => 0
  | some 0 => 1
  | some 2 => 8
  | some 4 => 2
  | some 13 => 6
  | some _ => -1
def CodeB (call : CallT) : Prop := ∀ (A : Hp) (o : Option Nat), (o = none ∨ o = some 0 ∨ o = some 2 ∨ o = some 4 ∨ o = some 13) → call 28 [errO' o] A = some (.int .i64 (codB o), A)
theorem codeB_ok (n : Nat) : CodeB (callD Tryd.bk (TBk TA) n) := fun A o ho => by
  refine callD_base ?_ n
  rcases ho with rfl | rfl | rfl | rfl | rfl <;> rfl
theorem putB_err (most : Int) (ids : List Int) (y : Int) : (putB most ids y).1 = none ∨ (putB most ids y).1 = some 0 ∨ (putB most ids y).1 = some 2 ∨ (putB most ids y).1 = some 4 ∨ (putB most ids y).1 = some 13 := by
  unfold putB
  split
  · simp
  · unfold putF
    split <;> simp
end Go.Dn.Bl
end

section
/-
  BacklogOrder: do the numbers rise?
-/
namespace Go.Dn.Bl
open Go.Proofs Go.Dn.Ln
set_option maxHeartbeats 4000000
set_option maxRecDepth 100000
attribute [local irreducible] Hp.get Hp.set Hp.push dappend dcopy dstore cellsAt callD loopD

theorem bs_cell {A : Hp} {a : Option Addr} {m c : Nat} {us : List Value} (h : BsAt A (.slice a m c) us) {i : Nat} {x : Value} (hx : us[i]? = some x) : ∃ b o T cs md, a = some ⟨b, o, some 1⟩ ∧ A.get b = some (.arr T cs md) ∧ cellsIn cs (o + i * 1) 1 = some [x] ∧ i < m := by
  cases h with
  | nil c hc => simp at hx
  | «at» b o _ _ T cs _ md hg hl hu hc =>
    have hlen : us.length = m := by rw [← hu]; simp; omega
    have hi : i < us.length := (List.getElem?_eq_some_iff.1 hx).1
    refine ⟨b, o, T, cs, md, rfl, hg, cellsIn_of (by omega) ?_, by omega⟩
    rw [← hu, List.getElem?_take, if_pos (by omega), List.getElem?_drop] at hx
    apply List.ext_getElem?
    intro j
    rw [List.getElem?_take]
    match j with
    | 0 => rw [if_pos (by omega), List.getElem?_drop, show o + i * 1 + 0 = o + i by omega, hx]; rfl
    | j + 1 => rw [if_neg (by omega)]; rfl

theorem bs_len {A : Hp} {a : Option Addr} {m c : Nat} {us : List Value} (h : BsAt A (.slice a m c) us) : us.length = m := by
  obtain ⟨a', c', e⟩ := h.form
  cases e; rfl

theorem argsl_bs {A : Hp} {v : Value} {us : List Value} {n : Nat} {e : TypeId} (h : ArgSl e 1 A v us n) : BsAt A v us := by
  cases h with
  | nil c hc => exact .nil c hc
  | «at» id _ us hg hl => exact .at id 0 n (2 * n) e us us .sh hg (by omega) (by rw [List.drop_zero, List.take_of_length_le (by omega)]) (by omega)
theorem can_bs {A : Hp} {v : Value} {us : List Value} {n : Nat} {io : Option Nat} {e : TypeId} (h : CanAt e 1 A v io us n) : BsAt A v us := h.slAt.bs
theorem nums_at {ids : List Int} {i : Nat} {x : Int} (h : ids[i]? = some x) : (nums ids)[i]? = some (.int .u32 x) := by
  unfold nums; rw [List.getElem?_map, h]; rfl
theorem nums_len (ids : List Int) : (nums ids).length = ids.length := by simp [nums]

/-- what is left of a list when numbers went by -/
def rsF : List Int → List Int → List Int
  | [], l => l
  | _ :: _, [] => []
  | a :: r, b :: q => if a = b then rsF r q else rsF r (b :: q)
theorem rsF_sub : ∀ {ids l : List Int}, l.Sublist ids → rsF ids l = []
  | [], l, h => by
    have := List.sublist_nil.1 h
    subst this; rfl
  | _ :: _, [], _ => rfl
  | a :: r, b :: q, h => by
    unfold rsF
    split
    · rename_i e
      subst e
      exact rsF_sub (List.cons_sublist_cons.1 h)
    · rename_i e
      cases h with
      | cons _ h => exact rsF_sub h
      | cons_cons _ h => exact absurd rfl e

theorem rises_walk {call : CallT} (lf : Nat) {A : Hp} {a a2 : Option Addr} {c c2 : Nat} {ids l : List Int} (h1 : BsAt A (.slice a ids.length c) (nums ids)) (h2 : BsAt A (.slice a2 l.length c2) (nums l)) (hs : rsF ids l = []) (hn : ids.length ≤ 100000000) (hlf : ids.length + 1 < lf) :
    kfn Tryd.bk.E call (Tryd.bk.inf 38) lf Tryd.f38 [.slice a ids.length c, .slice a2 l.length c2] A = some (.bool true, A) := by
  have key := loop_rule (ks := some [0, 1, 4, 5, 6]) (f := exec Tryd.bk.E call Tryd.f38.ntmps (Tryd.bk.inf 38) lf (loopOf Tryd.f38 0)) (S := Nat × Nat)
    (fun s => [(0, .slice a ids.length c), (1, .slice a2 l.length c2), (4, .bool false), (5, .int .i64 (s.2 : Nat)), (6, .int .i64 (s.1 : Nat))])
    (fun s B => B = A ∧ s.1 ≤ ids.length ∧ s.2 ≤ l.length ∧ s.2 ≤ s.1 ∧ rsF (ids.drop s.1) (l.drop s.2) = []) (fun s => ids.length - s.1)
    (fun e σ B => e = .exit 0 ∧ B = A ∧ ∃ I, σ = [(0, .slice a ids.length c), (1, .slice a2 l.length c2), (4, .bool false), (5, .int .i64 (l.length : Nat)), (6, I)]) (fun s B hs => ?step)
    lf (0, 0) A ⟨rfl, Nat.zero_le _, Nat.zero_le _, Nat.le_refl _, by simpa using hs⟩ (by simp only; omega)
  case step =>
    obtain ⟨i, k⟩ := s
    obtain ⟨rfl, z1, z2, z3, z4⟩ := hs
    simp only at z1 z2 z3 z4 ⊢
    by_cases hi : i < ids.length
    · have e1 : ((i : Nat) : Int) < ((ids.length : Nat) : Int) := by omega
      by_cases hk : k < l.length
      · have e2 : ((k : Nat) : Int) < ((l.length : Nat) : Int) := by omega
        have hx : ids[i]? = some ids[i] := List.getElem?_eq_getElem hi
        have hy : l[k]? = some l[k] := List.getElem?_eq_getElem hk
        have d1 : ids.drop i = ids[i] :: ids.drop (i + 1) := List.drop_eq_getElem_cons hi
        have d2 : l.drop k = l[k] :: l.drop (k + 1) := List.drop_eq_getElem_cons hk
        rw [d1, d2] at z4
        generalize ids[i] = x at hx z4 d1
        generalize l[k] = y at hy z4 d2
        obtain ⟨b1, o1, T1, cs1, md1, rfl, g1, q1, _⟩ := bs_cell h1 (nums_at hx)
        obtain ⟨b2, o2, T2, cs2, md2, rfl, g2, q2, _⟩ := bs_cell h2 (nums_at hy)
        have hw1 : IntKind.i64.wrap ((i : Int) + 1) = ((i + 1 : Nat) : Int) := by rw [w64 (by omega) (by omega)]; omega
        have hw2 : IntKind.i64.wrap ((k : Int) + 1) = ((k + 1 : Nat) : Int) := by rw [w64 (by omega) (by omega)]; omega
        unfold rsF at z4
        by_cases hxy : x = y
        · rw [if_pos hxy] at z4
          have e3 : (x == y) = true := by simp [hxy]
          refine ⟨.normal, ?s1, B, kexec_run ?run1, .inl ⟨rfl, (i + 1, k + 1), ?kp1, ⟨rfl, by omega, by omega, by omega, z4⟩, by simp only; omega⟩⟩
          case run1 =>
            conv => lhs; whnf
            rw [kdec e1]
            conv => lhs; whnf
            rw [kdec e2]
            conv => lhs; whnf
            rw [kdec e1]
            conv => lhs; whnf
            refine bind_of ((cellsAt_of g1 _ _).trans q1) ?_
            conv => lhs; whnf
            rw [kdec e2]
            conv => lhs; whnf
            refine bind_of ((cellsAt_of g2 _ _).trans q2) ?_
            conv => lhs; whnf
            rw [e3]
            conv => lhs; whnf
          case kp1 =>
            show [_, _, _, (5, Value.int .i64 (IntKind.i64.wrap ((k : Int) + 1))), (6, Value.int .i64 (IntKind.i64.wrap ((i : Int) + 1)))] = _
            rw [hw1, hw2]
        · rw [if_neg hxy] at z4
          have e3 : (x == y) = false := by simp [hxy]
          refine ⟨.normal, ?s2, B, kexec_run ?run2, .inl ⟨rfl, (i + 1, k), ?kp2, ⟨rfl, by omega, by omega, by omega, by rw [d2]; exact z4⟩, by simp only; omega⟩⟩
          case run2 =>
            conv => lhs; whnf
            rw [kdec e1]
            conv => lhs; whnf
            rw [kdec e2]
            conv => lhs; whnf
            rw [kdec e1]
            conv => lhs; whnf
            refine bind_of ((cellsAt_of g1 _ _).trans q1) ?_
            conv => lhs; whnf
            rw [kdec e2]
            conv => lhs; whnf
            refine bind_of ((cellsAt_of g2 _ _).trans q2) ?_
            conv => lhs; whnf
            rw [e3]
            conv => lhs; whnf
          case kp2 =>
            show [_, _, _, _, (6, Value.int .i64 (IntKind.i64.wrap ((i : Int) + 1)))] = _
            rw [hw1]
      · have e2 : ¬ ((k : Nat) : Int) < ((l.length : Nat) : Int) := by omega
        obtain rfl : k = l.length := by omega
        refine ⟨.exit 0, ?s3, B, kexec_run ?run3, .inr ⟨by simp, rfl, rfl, ?L3, ?kp3⟩⟩
        case run3 =>
          conv => lhs; whnf
          rw [kdec e1]
          conv => lhs; whnf
          rw [kdecn e2]
        case kp3 => rfl
    · have e1 : ¬ ((i : Nat) : Int) < ((ids.length : Nat) : Int) := by omega
      have hk : k = l.length := by
        rw [List.drop_of_length_le (by omega)] at z4
        have := congrArg List.length (show l.drop k = [] from z4)
        simp at this
        omega
      subst hk
      refine ⟨.exit 0, ?s4, B, kexec_run ?run4, .inr ⟨by simp, rfl, rfl, ?L4, ?kp4⟩⟩
      case run4 =>
        conv => lhs; whnf
        rw [kdecn e1]
        conv => lhs; whnf
      case kp4 => rfl
  obtain ⟨e, σ1, A1, r1, rfl, rfl, I, rfl⟩ := key
  conv => lhs; whnf
  refine bind_of r1 ?_
  conv => lhs; whnf
  show some (Value.bool (((l.length : Nat) : Int) == ((l.length : Nat) : Int)), _) = _
  rw [beq_self_eq_true]
end Go.Dn.Bl
end

section
/-
  BacklogOrder: the first loop
-/
namespace Go.Dn.Bl
open Go.Proofs Go.Dn.Ln
set_option maxHeartbeats 4000000
set_option maxRecDepth 100000
attribute [local irreducible] Hp.get Hp.set Hp.push dappend dcopy dstore cellsAt callD loopD

/-- a backlog, all else as before -/
structure QB (A0 : Hp) (P : Nat) (x : BX) (B : Hp) : Prop where
  wf : B.wf
  nx : A0.next ≤ B.next
  obj : B.get P = some (bo x)
  old : ∀ j, j < A0.next → j ≠ P → B.get j = A0.get j
theorem QB.set {A0 : Hp} {P : Nat} {x : BX} {B : Hp} (h : QB A0 P x B) (x' : BX) : QB A0 P x' (B.set P (some (bo x'))) :=
  ⟨h.wf.put h.obj _, by rw [Hp.next_set]; exact h.nx, Hp.get_set_same _ _ _, fun j hj hP => by rw [Hp.get_set_ne _ _ hP, h.old j hj hP]⟩
theorem QB.arg {A0 : Hp} {P : Nat} {x : BX} {B : Hp} (h : QB A0 P x B) (hw : A0.wf) (hP : A0.get P = some (bo x) ∨ ∃ y, A0.get P = some (bo y)) {b : Nat} {T : TypeId} {cs : List Value} {md : Md} (hg : A0.get b = some (.arr T cs md)) : B.get b = some (.arr T cs md) := by
  have : b ≠ P := by
    rintro rfl
    rcases hP with hP | ⟨y, hP⟩ <;> (rw [hP] at hg; cases hg)
  rw [h.old b (hw.lt hg) this]; exact hg

def ordP (l : List Int) (x : Int) : List Int := (putB 1024 l x).2

theorem ord_op1 {call : CallT} (h : BFns call) (hc : CodeB call) (lf : Nat) {A0 : Hp} (hw : A0.wf) {P : Nat} (hP : ∃ y, A0.get P = some (bo y)) {a : Option Addr} {c : Nat} {ids : List Int} (hv : BsAt A0 (.slice a ids.length c) (nums ids)) (G : Value)
    (hn : ids.length ≤ 100000000) {l : List Int} {B : Hp} (hB : QB A0 P ⟨1024, l⟩ B) (hok : BX.ok ⟨1024, l⟩) {i : Nat} {x : Int} (hx : ids[i]? = some x) :
    ∃ σ1 B1, exec Tryd.bk.E call Tryd.f6.ntmps (Tryd.bk.inf 6) lf (loopOf Tryd.f6 0) [(0, .slice a ids.length c), (1, G), (4, .bool false), (5, ptr P), (7, .int .i64 (l.length : Nat)), (8, .int .i64 (i : Nat))] B = some (.normal, σ1, B1) ∧
      keepSl (some [0, 1, 4, 5, 7, 8]) σ1 = [(0, .slice a ids.length c), (1, G), (4, .bool false), (5, ptr P), (7, .int .i64 ((ordP l x).length : Nat)), (8, .int .i64 ((i + 1 : Nat) : Int))] ∧ QB A0 P ⟨1024, ordP l x⟩ B1 := by
  obtain ⟨b, o, T, cs, md, rfl, g, q, him⟩ := bs_cell hv (nums_at hx)
  have e1 : ((i : Nat) : Int) < ((ids.length : Nat) : Int) := by omega
  have hw1 : IntKind.i64.wrap ((i : Int) + 1) = ((i + 1 : Nat) : Int) := by rw [w64 (by omega) (by omega)]; omega
  have gB := hB.arg hw (.inr hP) g
  have r1 := h.has (BHasR.mk B P ⟨1024, l⟩ hB.obj hok x)
  have hB1 := hB.set ⟨1024, l⟩
  have gB1 := hB1.arg hw (.inr hP) g
  have r2 := h.put (BPutR.mk _ P ⟨1024, l⟩ hB1.obj hok x)
  have hB2 := hB1.set ⟨1024, (putB 1024 l x).2⟩
  have r3 := hc ((B.set P (some (bo ⟨1024, l⟩))).set P (some (bo ⟨1024, (putB 1024 l x).2⟩))) _ (putB_err 1024 l x)
  simp only at r1 r2
  unfold ordP
  have hlen := hok.1
  simp only at hlen
  by_cases hh : l.any (· == x) = true
  · have hp : putB 1024 l x = (some 2, l) := by unfold putB; rw [if_pos hh]
    rw [hp] at r2 r3 hB2 ⊢
    rw [hh] at r1
    refine ⟨?s1, _, kexec_run ?run1, ?kp1, hB2⟩
    case run1 =>
      conv => lhs; whnf
      rw [kdec e1]
      conv => lhs; whnf
      rw [kdec e1]
      conv => lhs; whnf
      refine bind_of ((cellsAt_of gB _ _).trans q) ?_
      conv => lhs; whnf
      refine bind_of r1 ?_
      conv => lhs; whnf
      rw [kdec e1]
      conv => lhs; whnf
      refine bind_of ((cellsAt_of gB1 _ _).trans q) ?_
      conv => lhs; whnf
      refine bind_of r2 ?_
      conv => lhs; whnf
      refine bind_of r3 ?_
      conv => lhs; whnf
    case kp1 =>
      show [_, _, _, _, _, (8, Value.int .i64 (IntKind.i64.wrap ((i : Int) + 1)))] = _
      rw [hw1]
  · have hf : l.any (· == x) = false := Bool.eq_false_iff.2 hh
    rw [hf] at r1
    by_cases hfull : l.length = 1024
    · have hp : putB 1024 l x = (some 13, l) := by unfold putB putF; rw [if_neg hh, if_pos (by omega)]
      rw [hp] at r2 r3 hB2 ⊢
      refine ⟨?s2, _, kexec_run ?run2, ?kp2, hB2⟩
      case run2 =>
        rw [hfull]
        conv => lhs; whnf
        rw [kdec e1]
        conv => lhs; whnf
        rw [kdec e1]
        conv => lhs; whnf
        refine bind_of ((cellsAt_of gB _ _).trans q) ?_
        conv => lhs; whnf
        refine bind_of r1 ?_
        conv => lhs; whnf
        rw [kdec e1]
        conv => lhs; whnf
        refine bind_of ((cellsAt_of gB1 _ _).trans q) ?_
        conv => lhs; whnf
        refine bind_of r2 ?_
        conv => lhs; whnf
        refine bind_of r3 ?_
        conv => lhs; whnf
      case kp2 =>
        rw [hfull]
        show [_, _, _, _, _, (8, Value.int .i64 (IntKind.i64.wrap ((i : Int) + 1)))] = _
        rw [hw1]
    · have hp : putB 1024 l x = (none, l ++ [x]) := by unfold putB putF; rw [if_neg hh, if_neg (by omega)]
      rw [hp] at r2 r3 hB2 ⊢
      have e2 : (((l.length : Nat) : Int) == 1024) = false := by simp only [beq_eq_false_iff_ne]; omega
      have e3 : ((l.length : Nat) : Int) < 1024 := by omega
      have hw2 : IntKind.i64.wrap ((l.length : Int) + 1) = (((l ++ [x]).length : Nat) : Int) := by rw [w64 (by omega) (by omega), List.length_append, List.length_singleton]; omega
      refine ⟨?s3, _, kexec_run ?run3, ?kp3, hB2⟩
      case run3 =>
        conv => lhs; whnf
        rw [kdec e1]
        conv => lhs; whnf
        rw [kdec e1]
        conv => lhs; whnf
        refine bind_of ((cellsAt_of gB _ _).trans q) ?_
        conv => lhs; whnf
        refine bind_of r1 ?_
        conv => lhs; whnf
        rw [kdec e1]
        conv => lhs; whnf
        refine bind_of ((cellsAt_of gB1 _ _).trans q) ?_
        conv => lhs; whnf
        refine bind_of r2 ?_
        conv => lhs; whnf
        refine bind_of r3 ?_
        conv => lhs; whnf
        rw [e2]
        conv => lhs; whnf
        rw [kdec e3]
        conv => lhs; whnf
      case kp3 =>
        show [_, _, _, _, (7, Value.int .i64 (IntKind.i64.wrap ((l.length : Int) + 1))), (8, Value.int .i64 (IntKind.i64.wrap ((i : Int) + 1)))] = _
        rw [hw1, hw2]
end Go.Dn.Bl
end

section
/-
  BacklogOrder: the second and the third loop
-/
namespace Go.Dn.Bl
open Go.Proofs Go.Dn.Ln
set_option maxHeartbeats 4000000
set_option maxRecDepth 100000
attribute [local irreducible] Hp.get Hp.set Hp.push dappend dcopy dstore cellsAt callD loopD

theorem stay_none {x : Int} {l : List Int} (h : l.any (· == x) = false) : stayL (· == x) l = l :=
  List.filter_eq_self.2 fun y hy => by
    have := List.any_eq_false.1 h y hy
    show (!(y == x)) = true
    cases hb : (y == x) with
    | true => exact absurd hb this
    | false => rfl
theorem stay_one {x : Int} : ∀ {l : List Int}, l.Nodup → l.any (· == x) = true → (stayL (· == x) l).length + 1 = l.length
  | [], _, h => by simp at h
  | y :: l, hn, h => by
    obtain ⟨n1, n2⟩ := List.nodup_cons.1 hn
    by_cases hy : y = x
    · subst hy
      have h1 : l.any (· == y) = false := by
        apply List.any_eq_false.2
        intro z hz hzy
        have : z = y := by simpa using hzy
        exact n1 (this ▸ hz)
      have h3 := stay_none h1
      have e : stayL (· == y) (y :: l) = stayL (· == y) l := by unfold stayL; rw [List.filter_cons]; simp
      rw [e, h3, List.length_cons]
    · have h1 : l.any (· == x) = true := by
        simp only [List.any_cons, Bool.or_eq_true, beq_iff_eq] at h
        rcases h with h | h
        · exact absurd h hy
        · exact h
      have := stay_one n2 h1
      have e : stayL (· == x) (y :: l) = y :: stayL (· == x) l := by unfold stayL; rw [List.filter_cons]; simp [hy]
      rw [e, List.length_cons, List.length_cons, this]
theorem stay_not (x : Int) (l : List Int) : (stayL (· == x) l).any (· == x) = false := by
  apply List.any_eq_false.2
  intro z hz hzx
  have h2 : (!(z == x)) = true := (List.mem_filter.1 hz).2
  have h3 : (z == x) = true := hzx
  rw [h3] at h2
  cases h2

theorem ord_op2 {call : CallT} (h : BFns call) (lf : Nat) {A0 : Hp} (hw : A0.wf) {P : Nat} (hP : ∃ y, A0.get P = some (bo y)) {a : Option Addr} {c : Nat} {ids : List Int} (hv : BsAt A0 (.slice a ids.length c) (nums ids)) (G : Value)
    (hn : ids.length ≤ 100000000) {l : List Int} {B : Hp} (hB : QB A0 P ⟨1024, l⟩ B) (hok : BX.ok ⟨1024, l⟩) (hnd : l.Nodup) {i : Nat} {x : Int} (hx : ids[i]? = some x) :
    ∃ σ1 B1, exec Tryd.bk.E call Tryd.f6.ntmps (Tryd.bk.inf 6) lf (loopOf Tryd.f6 1) [(0, G), (1, .slice a ids.length c), (4, .bool false), (5, ptr P), (7, .int .i64 (l.length : Nat)), (11, .int .i64 (i : Nat))] B = some (.normal, σ1, B1) ∧
      keepSl (some [0, 1, 4, 5, 7, 11]) σ1 = [(0, G), (1, .slice a ids.length c), (4, .bool false), (5, ptr P), (7, .int .i64 ((stayL (· == x) l).length : Nat)), (11, .int .i64 ((i + 1 : Nat) : Int))] ∧ QB A0 P ⟨1024, stayL (· == x) l⟩ B1 := by
  obtain ⟨b, o, T, cs, md, rfl, g, q, him⟩ := bs_cell hv (nums_at hx)
  have e1 : ((i : Nat) : Int) < ((ids.length : Nat) : Int) := by omega
  have hw1 : IntKind.i64.wrap ((i : Int) + 1) = ((i + 1 : Nat) : Int) := by rw [w64 (by omega) (by omega)]; omega
  have gB := hB.arg hw (.inr hP) g
  have r1 := h.has (BHasR.mk B P ⟨1024, l⟩ hB.obj hok x)
  have hB1 := hB.set ⟨1024, l⟩
  have gB1 := hB1.arg hw (.inr hP) g
  have r2 := h.rem (BRemR.mk _ P ⟨1024, l⟩ hB1.obj hok x)
  have hB2 := hB1.set ⟨1024, stayL (· == x) l⟩
  have gB2 := hB2.arg hw (.inr hP) g
  have hok2 : BX.ok ⟨1024, stayL (· == x) l⟩ := ⟨Nat.le_trans (stay_le _ _) hok.1, hok.2⟩
  have r3 := h.has (BHasR.mk _ P ⟨1024, stayL (· == x) l⟩ hB2.obj hok2 x)
  have hB3 := hB2.set ⟨1024, stayL (· == x) l⟩
  simp only at r1 r2 r3
  rw [stay_not] at r3
  have hlen := hok.1
  simp only at hlen
  by_cases hh : l.any (· == x) = true
  · rw [hh] at r1 r2
    have hst := stay_one hnd hh
    have hw2 : IntKind.i64.wrap ((l.length : Int) - 1) = (((stayL (· == x) l).length : Nat) : Int) := by rw [w64 (by omega) (by omega)]; omega
    refine ⟨?s1, _, kexec_run ?run1, ?kp1, hB3⟩
    case run1 =>
      conv => lhs; whnf
      rw [kdec e1]
      conv => lhs; whnf
      rw [kdec e1]
      conv => lhs; whnf
      refine bind_of ((cellsAt_of gB _ _).trans q) ?_
      conv => lhs; whnf
      refine bind_of r1 ?_
      conv => lhs; whnf
      rw [kdec e1]
      conv => lhs; whnf
      refine bind_of ((cellsAt_of gB1 _ _).trans q) ?_
      conv => lhs; whnf
      refine bind_of r2 ?_
      conv => lhs; whnf
      rw [kdec e1]
      conv => lhs; whnf
      refine bind_of ((cellsAt_of gB2 _ _).trans q) ?_
      conv => lhs; whnf
      refine bind_of r3 ?_
      conv => lhs; whnf
    case kp1 =>
      show [_, _, _, _, (7, Value.int .i64 (IntKind.i64.wrap ((l.length : Int) - 1))), (11, Value.int .i64 (IntKind.i64.wrap ((i : Int) + 1)))] = _
      rw [hw1, hw2]
  · have hf : l.any (· == x) = false := Bool.eq_false_iff.2 hh
    rw [hf] at r1 r2
    have hst := stay_none hf
    refine ⟨?s2, _, kexec_run ?run2, ?kp2, hB3⟩
    case run2 =>
      conv => lhs; whnf
      rw [kdec e1]
      conv => lhs; whnf
      rw [kdec e1]
      conv => lhs; whnf
      refine bind_of ((cellsAt_of gB _ _).trans q) ?_
      conv => lhs; whnf
      refine bind_of r1 ?_
      conv => lhs; whnf
      rw [kdec e1]
      conv => lhs; whnf
      refine bind_of ((cellsAt_of gB1 _ _).trans q) ?_
      conv => lhs; whnf
      refine bind_of r2 ?_
      conv => lhs; whnf
      rw [kdec e1]
      conv => lhs; whnf
      refine bind_of ((cellsAt_of gB2 _ _).trans q) ?_
      conv => lhs; whnf
      refine bind_of r3 ?_
      conv => lhs; whnf
    case kp2 =>
      rw [hst]
      show [_, _, _, _, _, (11, Value.int .i64 (IntKind.i64.wrap ((i : Int) + 1)))] = _
      rw [hw1]

theorem ord_op3 {call : CallT} (h : BFns call) (lf : Nat) {A0 : Hp} (hw : A0.wf) {P : Nat} (hP : ∃ y, A0.get P = some (bo y)) {a : Option Addr} {c : Nat} {L : List Int} (hv : BsAt A0 (.slice a L.length c) (nums L)) (G : Value)
    (hn : L.length ≤ 1024) (hnd : L.Nodup) {B : Hp} {i : Nat} {x : Int} (hB : QB A0 P ⟨1024, x :: L.drop (i + 1)⟩ B) (hx : L[i]? = some x) :
    ∃ σ1 B1, exec Tryd.bk.E call Tryd.f6.ntmps (Tryd.bk.inf 6) lf (loopOf Tryd.f6 2) [(0, G), (4, .bool false), (5, ptr P), (7, .int .i64 (L.length : Nat)), (13, .slice a L.length c), (14, .int .i64 (i : Nat))] B = some (.normal, σ1, B1) ∧
      keepSl (some [0, 4, 5, 7, 13, 14]) σ1 = [(0, G), (4, .bool false), (5, ptr P), (7, .int .i64 (L.length : Nat)), (13, .slice a L.length c), (14, .int .i64 ((i + 1 : Nat) : Int))] ∧ QB A0 P ⟨1024, L.drop (i + 1)⟩ B1 := by
  obtain ⟨b, o, T, cs, md, rfl, g, q, him⟩ := bs_cell hv (nums_at hx)
  have hil : i < L.length := (List.getElem?_eq_some_iff.1 hx).1
  have e1 : ((i : Nat) : Int) < ((L.length : Nat) : Int) := by omega
  have hw1 : IntKind.i64.wrap ((i : Int) + 1) = ((i + 1 : Nat) : Int) := by rw [w64 (by omega) (by omega)]; omega
  have hok : BX.ok ⟨1024, x :: L.drop (i + 1)⟩ := ⟨by simp only [List.length_cons, List.length_drop]; omega, by show (1 : Int) ≤ 1024; decide, by show (1024 : Int) ≤ 1024; decide⟩
  have hok2 : BX.ok ⟨1024, L.drop (i + 1)⟩ := ⟨by simp only [List.length_drop]; omega, by show (1 : Int) ≤ 1024; decide, by show (1024 : Int) ≤ 1024; decide⟩
  have r1 := h.head (BHeadR.mk B P ⟨1024, x :: L.drop (i + 1)⟩ hB.obj hok)
  have hB1 := hB.set ⟨1024, x :: L.drop (i + 1)⟩
  have r2 := h.take (BTakeR.mk _ P ⟨1024, x :: L.drop (i + 1)⟩ hB1.obj hok)
  have hB2 := hB1.set ⟨1024, L.drop (i + 1)⟩
  have gB2 := hB2.arg hw (.inr hP) g
  have r3 := h.has (BHasR.mk _ P ⟨1024, L.drop (i + 1)⟩ hB2.obj hok2 x)
  have hB3 := hB2.set ⟨1024, L.drop (i + 1)⟩
  have hno : (L.drop (i + 1)).any (· == x) = false := by
    apply List.any_eq_false.2
    intro z hz hzx
    have : z = x := by simpa using hzx
    subst this
    have hd : L.drop i = z :: L.drop (i + 1) := by
      rw [List.drop_eq_getElem_cons hil]
      congr 1
      rw [List.getElem?_eq_getElem hil] at hx
      exact Option.some.inj hx
    have hn2 : (L.drop i).Nodup := hnd.sublist (List.drop_sublist _ _)
    rw [hd] at hn2
    exact (List.nodup_cons.1 hn2).1 hz
  simp only at r1 r2 r3
  rw [hno] at r3
  have e2 : (x != x) = false := by simp
  refine ⟨?s1, _, kexec_run ?run1, ?kp1, hB3⟩
  case run1 =>
    conv => lhs; whnf
    rw [kdec e1]
    conv => lhs; whnf
    refine bind_of r1 ?_
    conv => lhs; whnf
    refine bind_of r2 ?_
    conv => lhs; whnf
    rw [kdec e1]
    conv => lhs; whnf
    refine bind_of ((cellsAt_of gB2 _ _).trans q) ?_
    conv => lhs; whnf
    rw [e2]
    conv => lhs; whnf
    rw [kdec e1]
    conv => lhs; whnf
    refine bind_of ((cellsAt_of gB2 _ _).trans q) ?_
    conv => lhs; whnf
    rw [e2]
    conv => lhs; whnf
    refine bind_of r3 ?_
    conv => lhs; whnf
  case kp1 =>
    show [_, _, _, _, _, (14, Value.int .i64 (IntKind.i64.wrap ((i : Int) + 1)))] = _
    rw [hw1]
end Go.Dn.Bl
end
