/-
  Part of the abstract machine for this program.
-/
import Derived.Test.YtombnpednnngoaaDoorDnJ
import Derived.Test.YtombnpednnngoaaDoorPA
import Derived.Test.YtombnpednnngoaaDoorPB
import Derived.KernelRfl
import Derived.Test.YtombnpednnngoaaDoorDnI
import Derived.Test.YtombnpednnngoaaDoorDnH

section
set_option maxRecDepth 100000
namespace Go.Dn.Ln
open Go.Proofs

/-! ## the constants of these laws: sentinels, and the table of forms -/
def er (g : Nat) : Ob := .arr 31 [.iface 206 (.pointer (some ⟨g + 44, 0, none⟩))] .ro
def formRow : Nat → List Value
  | 1 => [.int .i64 1, .int .i64 0, .bool true, .int .u8 1, .int .u16 1]
  | 2 => [.int .i64 1, .int .i64 0, .bool true, .int .u8 1, .int .u16 2]
  | 3 => [.int .i64 1, .int .i64 1, .bool false, .int .u8 1, .int .u16 0]
  | 4 => [.int .i64 1, .int .i64 0, .bool true, .int .u8 1, .int .u16 8]
  | 5 => [.int .i64 0, .int .i64 2, .bool false, .int .u8 2, .int .u16 1]
  | 6 => [.int .i64 0, .int .i64 2, .bool false, .int .u8 2, .int .u16 2]
  | 7 => [.int .i64 0, .int .i64 3, .bool true, .int .u8 3, .int .u16 0]
  | _ => [.int .i64 0, .int .i64 0, .bool false, .int .u8 0, .int .u16 0]
def formsC : List Value := formRow 0 ++ formRow 1 ++ formRow 2 ++ formRow 3 ++ formRow 4 ++ formRow 5 ++ formRow 6 ++ formRow 7
def formsO : Ob := .arr 115 formsC .ro
def CE : Hp := ⟨88, (.node (.node (.node (.node (.node (.node .nil (some (er 31)) .nil) (some (er 15)) .nil) (some (er 7)) (.node (.node .nil (some (er 39)) .nil) (some (er 23)) .nil)) (some (er 3)) (.node (.node (.node .nil (some (er 35)) .nil) (some (er 19)) .nil) (some (er 11)) (.node (.node .nil (some (er 43)) .nil) (some (er 27)) .nil))) (some formsO) (.node (.node (.node (.node .nil (some (er 33)) .nil) (some (er 17)) .nil) (some (er 9)) (.node (.node .nil (some (er 41)) .nil) (some (er 25)) .nil)) (some (er 5)) (.node (.node (.node .nil (some (er 37)) .nil) (some (er 21)) .nil) (some (er 13)) (.node .nil (some (er 29)) .nil)))) (some (er 0)) (.node (.node (.node (.node (.node .nil (some (er 32)) .nil) (some (er 16)) .nil) none (.node (.node .nil (some (er 40)) .nil) (some (er 24)) .nil)) (some (er 4)) (.node (.node (.node .nil (some (er 36)) .nil) (some (er 20)) .nil) (some (er 12)) (.node .nil (some (er 28)) .nil))) (some (er 2)) (.node (.node (.node (.node .nil (some (er 34)) .nil) (some (er 18)) .nil) (some (er 10)) (.node (.node .nil (some (er 42)) .nil) (some (er 26)) .nil)) (some (er 6)) (.node (.node (.node .nil (some (er 38)) .nil) (some (er 22)) .nil) (some (er 14)) (.node .nil (some (er 30)) .nil)))))⟩
/-- which globals are sentinels -/
def errs : List Nat := [0, 2, 3, 4, 5, 6, 7, 9, 10, 11, 12, 13, 14, 15, 16, 17, 18, 19, 20, 21, 22, 23, 24, 25, 26, 27, 28, 29, 30, 31, 32, 33, 34, 35, 36, 37, 38, 39, 40, 41, 42, 43]

theorem CE_items : (CE.tr.items 1 0).all (fun x => (errs.elem x.1 && match x.2 with
    | .arr 31 [.iface 206 (.pointer (some ⟨k, 0, none⟩))] .ro => Nat.beq k (x.1 + 44)
    | _ => false) || (Nat.beq x.1 1)) = true := by decide +kernel

theorem CE_get {i : Nat} {o : Ob} (h : CE.get i = some o) : (i ∈ errs ∧ o = er i) ∨ (i = 1 ∧ o = formsO) := by
  have hm := Tr.get_mem h
  have := List.all_eq_true.1 CE_items _ hm
  simp only [Bool.or_eq_true, Bool.and_eq_true] at this
  rcases this with ⟨h1, h2⟩ | h3
  · left
    refine ⟨by simpa using h1, ?_⟩
    split at h2
    · rename_i k
      have hk : k = i + 44 := by simpa using h2
      subst hk
      rfl
    · cases h2
  · right
    have : i = 1 := by simpa using h3
    subst this
    refine ⟨rfl, ?_⟩
    have h4 : CE.get 1 = some formsO := rfl
    rw [h4] at h
    exact (Option.some.inj h).symm

/-! ## errors.Is -/
def isF : List Value → Hp → Option (Value × Hp)
  | [.nilIface, .iface 206 (.pointer (some _))], A => some (.bool false, A)
  | [.iface 206 (.pointer (some ⟨i, 0, none⟩)), .iface 206 (.pointer (some ⟨j, 0, none⟩))], A =>
    bif Nat.ble 44 i && (Nat.blt i 88 && (Nat.ble 44 j && Nat.blt j 88)) then some (.bool (Nat.beq i j), A) else none
  | _, _ => none

theorem isF_ok [Reps] (hK : Reps.C.next = 88) : ∀ args A v A', isF args A = some (v, A') → ∀ (ρ : Gh) w (args' : Array Value), RelX Tryd.prog ρ A w → AR ρ.ρ args.toArray args' →
    Calls Tryd.prog 66 args' w fun e w' => ∃ v', e = .returned v' ∧ After Tryd.prog ρ A w v A' v' w' := by
  intro args A v A' h ρ w args' hr ha
  have hGs : Tryd.prog.globals.size = 44 := Tryd.good.glob.symm
  have two : ∀ x y : Value, args = [x, y] → ∃ x' y', args' = #[x', y'] ∧ VR ρ.ρ x x' ∧ VR ρ.ρ y y' := by
    intro x y e
    subst e
    have hs := ha.1
    obtain ⟨q⟩ := args'
    match q, hs with
    | [a, b], _ => exact ⟨a, b, rfl, ha.2 0 _ _ rfl rfl, ha.2 1 _ _ rfl rfl⟩
  unfold isF at h
  split at h
  · cases h
    obtain ⟨x', y', rfl, h1, h2⟩ := two _ _ rfl
    cases h1
    cases h2 with
    | iface _ _ _ h2 =>
    cases h2 with
    | ptr o hp =>
    refine (YtombnpednnngoaaDoor.is_nil _ w).mono fun e w' he => ?_
    obtain ⟨rfl, rfl⟩ := he
    exact ⟨_, rfl, ρ, .bool _, hr, ExtX.refl _ _ _⟩
  · rename_i i j
    cases hc : (Nat.ble 44 i && (Nat.blt i 88 && (Nat.ble 44 j && Nat.blt j 88))) with
    | false => rw [hc] at h; cases h
    | true =>
      rw [hc] at h
      cases h
      simp only [Bool.and_eq_true, Nat.ble_eq, Nat.blt_eq] at hc
      obtain ⟨c1, c2, c3, c4⟩ := hc
      obtain ⟨x', y', rfl, h1, h2⟩ := two _ _ rfl
      cases h1 with
      | iface _ _ _ h1 =>
      cases h1 with
      | ptr _ hp =>
      rename_i p
      cases h2 with
      | iface _ _ _ h2 =>
      cases h2 with
      | ptr _ hq =>
      rename_i q
      by_cases e : i = j
      · subst e
        rw [hp] at hq; cases hq
        refine (YtombnpednnngoaaDoor.is_same _ w).mono fun e w' he => ?_
        obtain ⟨rfl, rfl⟩ := he
        rw [Tr.beq_tt]
        exact ⟨_, rfl, ρ, .bool _, hr, ExtX.refl _ _ _⟩
      · have hp' := hp
        have hq' := hq
        rw [hr.con.loc i (by omega)] at hp'
        rw [hr.con.loc j (by omega)] at hq'
        obtain ⟨ca, ta, ha'⟩ := hr.con.cw.fz i p (by omega) (by omega) hp'
        obtain ⟨cb, tb, hb'⟩ := hr.con.cw.fz j q (by omega) (by omega) hq'
        have hne := hr.con.cw.inj i j p q (by omega) (by omega) e hp' hq'
        refine (YtombnpednnngoaaDoor.is_other ⟨p.blk, p.off + 0, none⟩ ⟨q.blk, q.off + 0, none⟩ ca cb ta tb w (fun h => ?_) ha' hb').mono fun e' w' he => ?_
        · simp only [Addr.mk.injEq] at h
          rcases hne with h' | h'
          · exact h' h.1
          · exact h' (by omega)
        · obtain ⟨rfl, rfl⟩ := he
          rw [Tr.beq_ff e]
          exact ⟨_, rfl, ρ, .bool _, hr, ExtX.refl _ _ _⟩
  · cases h

theorem fn66 : ∃ x, Tryd.prog.funcs[66]? = some x ∧ x.body.isSome = true ∧ (x.name == "runtime.NumGoroutine") = false :=
  ⟨Tryd.f66, Tryd.func66, rfl, by decide +kernel⟩

end Go.Dn.Ln
end

section
set_option maxRecDepth 100000
namespace Go.Dn
section
variable [Reps] {P : Program}
/-- what a run on the constants alone gives, is given everywhere -/
theorem closed_ok {call : CallT} (hC : CallOK P call) {f : FuncId} {us : List Value} {v : Value} {B' : Hp} (hcall : call f us Reps.C = some (v, B')) (hus : VMs (fun a b => a < Reps.C.next ∧ b = a) us us) (hv : plain0 v = true)
    (g : Gh) (A : Hp) (w : World) (args' : Array Value) (hA : RelX P g A w) (ha : AR g.ρ us.toArray args') : Calls P f args' w fun e w' => ∃ v', e = .returned v' ∧ After P g A w v A v' w' :=
  call_fun hC hA (im := []) (ims := []) rfl (by simp) [] (by simp) ha (hus.mono fun a b h => .inl h) hcall (es := []) rfl List.nodup_nil (by simp) (.plain hv)
end
end Go.Dn
namespace Go.Dn.Ln
open Go.Proofs

def T0 : CallT := withCall noCalls 66 isF
/-- the sentinels' numbers -/
noncomputable def codeRun (u : Value) : Option Value := (callD Tryd.bk T0 60 28 [u] CE).map (·.1)
theorem code_nil : codeRun .nilIface = some (.int .i64 0) := by kernel_rfl
def wakesF : List Value → Hp → Option (Value × Hp)
  | [], A => some (.bool true, A)
  | _, _ => none
theorem lookup_mem : ∀ (l : List (Nat × Int)) (k : Nat) (n : Int), l.lookup k = some n → (k, n) ∈ l := by
  intro l
  induction l with
  | nil => intro k n h; cases h
  | cons x l ih =>
    intro k n h
    obtain ⟨a, b⟩ := x
    simp only [List.lookup] at h
    split at h
    · rename_i hb
      cases h
      have : k = a := by simpa using hb
      subst this
      exact List.mem_cons_self
    · exact List.mem_cons_of_mem _ (ih k n h)

section
variable [Reps] (hK : Reps.C = CE)
include hK

theorem T0_ok : CallOK Tryd.prog T0 := withCall_ok (noCalls_ok _) fn66 (isF_ok (by rw [hK]; rfl))

end
theorem fn28 : ∃ x, Tryd.prog.funcs[28]? = some x ∧ x.body.isSome = true ∧ (x.name == "runtime.NumGoroutine") = false :=
  ⟨Tryd.f28, Tryd.func28, rfl, by decide +kernel⟩
def codeL (cs : List (Nat × Int)) : List Value → Hp → Option (Value × Hp)
  | [.nilIface], A => some (.int .i64 0, A)
  | [.iface 206 (.pointer (some ⟨k, 0, none⟩))], A => (cs.lookup k).map fun n => (.int .i64 n, A)
  | _, _ => none

theorem code_known [Reps] (hK : Reps.C = CE) {cs : List (Nat × Int)} (hcs : cs.all (fun x => Nat.blt x.1 88) = true)
    (hrun : (cs.map fun x => codeRun (.iface 206 (.pointer (some ⟨x.1, 0, none⟩)))) = cs.map fun x => some (.int .i64 x.2)) {base : CallT} (hB : CallOK Tryd.prog base) : CallOK Tryd.prog (withCall base 28 (codeL cs)) := by
  refine withCall_ok hB fn28 fun args A v A' h ρ w args' hr ha => ?_
  have hC := callD_ok Tryd.good (T0_ok hK) 60
  have hn : Reps.C.next = 88 := by rw [hK]; rfl
  unfold codeL at h
  split at h
  · cases h
    have h2 := code_nil
    unfold codeRun at h2
    cases hc : callD Tryd.bk T0 60 28 [.nilIface] CE with
    | none => rw [hc] at h2; cases h2
    | some r =>
      obtain ⟨v, B'⟩ := r
      rw [hc] at h2
      cases h2
      rw [← hK] at hc
      exact closed_ok hC hc (.cons (.plain rfl) .nil) rfl ρ A w args' hr ha
  · rename_i k
    cases hl : cs.lookup k with
    | none => rw [hl] at h; cases h
    | some n =>
      rw [hl] at h
      cases h
      have hm := lookup_mem _ _ _ hl
      obtain ⟨i, hi⟩ := List.getElem?_of_mem hm
      have h2 := congrArg (fun l => l[i]?) hrun
      simp only [List.getElem?_map, hi, Option.map_some, Option.some.injEq] at h2
      unfold codeRun at h2
      have hk : k < 88 := by
        have := List.all_eq_true.1 hcs _ hm
        simpa [Nat.blt_eq] using this
      cases hc : callD Tryd.bk T0 60 28 [.iface 206 (.pointer (some ⟨k, 0, none⟩))] CE with
      | none => rw [hc] at h2; cases h2
      | some r =>
        obtain ⟨v, B'⟩ := r
        rw [hc] at h2
        simp only [Option.map_some, Option.some.injEq] at h2
        subst h2
        rw [← hK] at hc
        exact closed_ok hC hc (.cons (.iface _ (.ptr 0 ⟨by omega, rfl⟩)) .nil) rfl ρ A w args' hr ha
  · cases h

/-- a closed true -/
theorem true_known [Reps] (hK : Reps.C = CE) {f n : Nat} (hf : ∃ x, Tryd.prog.funcs[f]? = some x ∧ x.body.isSome = true ∧ (x.name == "runtime.NumGoroutine") = false) (hrun : (callD Tryd.bk T0 n f [] CE).map (·.1) = some (.bool true)) {base : CallT} (hB : CallOK Tryd.prog base) : CallOK Tryd.prog (withCall base f wakesF) := by
  refine withCall_ok hB hf fun args A v A' h ρ w args' hr ha => ?_
  unfold wakesF at h
  split at h
  · cases h
    cases hc : callD Tryd.bk T0 n f [] CE with
    | none => rw [hc] at hrun; cases hrun
    | some r =>
      obtain ⟨v, B'⟩ := r
      rw [hc] at hrun
      cases hrun
      rw [← hK] at hc
      exact closed_ok (callD_ok Tryd.good (T0_ok hK) n) hc .nil rfl ρ A w args' hr ha
  · cases h

end Go.Dn.Ln
end

section
namespace Go.Dn
theorem kdec {p : Prop} [Decidable p] (h : p) : decide p = true := decide_eq_true h
theorem kdecn {p : Prop} [Decidable p] (h : ¬ p) : decide p = false := decide_eq_false h
theorem callD_base {B : Bk} {base : CallT} {f : FuncId} {args : List Value} {A : Hp} {r : Value × Hp} (hb : base f args A = some r) : ∀ n, callD B base n f args A = some r
  | 0 => hb
  | n + 1 => by simp only [callD, hb]
theorem cellsAt_push_same {A : Hp} {T : TypeId} {cs : List Value} {md : Md} (o n : Nat) : cellsAt (A.push (.arr T cs md)) A.next o n = cellsIn cs o n := cellsAt_of (Hp.get_push_same _ _) o n
theorem cellsAt_push_ne {A : Hp} {ob : Ob} {i o n : Nat} (h : i ≠ A.next) : cellsAt (A.push ob) i o n = cellsAt A i o n := by
  unfold cellsAt; rw [Hp.get_push_ne _ _ h]
theorem cellsAt_set_same {A : Hp} {T : TypeId} {cs : List Value} {md : Md} {i : Nat} (o n : Nat) : cellsAt (A.set i (some (.arr T cs md))) i o n = cellsIn cs o n := cellsAt_of (Hp.get_set_same _ _ _) o n
theorem cellsAt_set_ne {A : Hp} {ob : Option Ob} {i j o n : Nat} (h : i ≠ j) : cellsAt (A.set j ob) i o n = cellsAt A i o n := by
  unfold cellsAt; rw [Hp.get_set_ne _ _ h]
theorem loopD_end {ks : Option (List Nat)} {f : Sl → Hp → Option (Ex × Sl × Hp)} {n : Nat} {σ σ1 : Sl} {A A1 : Hp} {e : Ex} (h : f σ A = some (e, σ1, A1)) (he : e ≠ .normal) : loopD ks f (n + 1) σ A = some (e, keepSl ks σ1, A1) := by
  simp only [loopD, h, Option.bind_some]
theorem Hp.get_push_at {A : Hp} {i : Nat} (o : Ob) (h : i = A.next) : (A.push o).get i = some o := by subst h; exact Hp.get_push_same _ _
end Go.Dn
end

section
namespace Go.Dn

/-- a slice of bytes (or of any elements of one cell) that can be read -/
inductive BsAt (A : Hp) : Value → List Value → Prop where
  | nil (c : Nat) (hc : c ≤ 1) : BsAt A (.slice none 0 c) []
  | at (i o n c : Nat) (T : TypeId) (cs us : List Value) (md : Md) (hg : A.get i = some (.arr T cs md)) (hl : o + n ≤ cs.length) (hu : (cs.drop o).take n = us) (hc : n ≤ c / 2) : BsAt A (.slice (some ⟨i, o, some 1⟩) n c) us

theorem BsAt.form {A : Hp} {v : Value} {us : List Value} (h : BsAt A v us) : ∃ a c, v = .slice a us.length c := by
  cases h with
  | nil c => exact ⟨none, c, rfl⟩
  | «at» i o n c T cs _ md hg hl hu hc =>
    refine ⟨some ⟨i, o, some 1⟩, c, ?_⟩
    have : us.length = n := by rw [← hu]; simp; omega
    rw [this]

theorem BsAt.keep {A A' : Hp} {v : Value} {us : List Value} (h : BsAt A v us) (hk : ∀ i o, A.get i = some o → (∃ b q s m c, v = .slice (some ⟨b, q, s⟩) m c ∧ b = i) → A'.get i = A.get i) : BsAt A' v us := by
  cases h with
  | nil c hc => exact .nil c hc
  | «at» i o n c T cs _ md hg hl hu hc => exact .at i o n c T cs us md (by rw [hk i _ hg ⟨_, _, _, _, _, rfl, rfl⟩]; exact hg) hl hu hc

/-- all older objects are as they were -/
theorem BsAt.old {A A' : Hp} {v : Value} {us : List Value} (h : BsAt A v us) (hw : A.wf) (hk : ∀ i, i < A.next → A'.get i = A.get i) : BsAt A' v us :=
  h.keep fun i _ hi _ => hk i (hw.lt hi)

theorem BsAt.elems {A : Hp} {v : Value} {us : List Value} (h : BsAt A v us) : elemsOf A 1 v = some (us.length, us) := by
  cases h with
  | nil c hc =>
    match c, hc with
    | 0, _ => rfl
    | 1, _ => rfl
  | «at» i o n c T cs _ md hg hl hu hc =>
    have hlen : us.length = n := by rw [← hu]; simp; omega
    simp only [elemsOf, if_true]
    cases hn : Nat.beq n 0 with
    | true =>
      have : n = 0 := by simpa using hn
      subst this
      have : us = [] := List.eq_nil_of_length_eq_zero hlen
      subst this
      rfl
    | false =>
      simp only [cond_false]
      rw [Nat.mul_one, cellsAt_of hg, cellsIn_of hl hu, hlen]
      rfl

theorem SlAt.bs {e : TypeId} {A : Hp} {v : Value} {io : Option Nat} {us : List Value} {n : Nat} (h : SlAt e 1 A v io us n) : BsAt A v us := by
  cases h with
  | nil => exact .nil 0 (by omega)
  | «at» i o _ c cs _ hc hg hl hu => exact .at i o n c e cs us .own hg (by omega) (by rw [Nat.mul_one] at hu; exact hu) (by omega)

end Go.Dn
end

section
/-
  readable bytes as a string
-/
namespace Go.Dn

structure StrT (E : Env) (s d : TypeId) : Prop where
  ex : ∃ i j e k, E.T s = some i ∧ i.d = .slice e ∧ E.T d = some j ∧ j.d = .string ∧ E.T e = some k ∧ k.d = .int .u8

theorem bytesOf_some : ∀ {us : List Value}, (∀ (j : Nat) x, us[j]? = some x → ∃ n, x = .int .u8 n) → ∃ ns, bytesOf us = some ns
  | [], _ => ⟨[], rfl⟩
  | u :: us, h => by
    obtain ⟨n, rfl⟩ := h 0 u rfl
    obtain ⟨ns, h2⟩ := bytesOf_some (us := us) fun j x hx => h (j + 1) x (by simpa using hx)
    exact ⟨n :: ns, by simp [bytesOf, h2]⟩

/-- the block that is looked at -/
def blkOf : Value → List Nat
  | .slice (some ⟨b, _, some _⟩) _ _ => [b]
  | _ => []

theorem dstring_bs {E : Env} {s d : TypeId} (hE : StrT E s d) {A : Hp} {v : Value} {us : List Value} {ns : List Int} (h : BsAt A v us) (hb : bytesOf us = some ns) : dstring E s d A v = some (.string (pushBytes ns), blkOf v) := by
  obtain ⟨i, j, e, k, h1, h2, h3, h4, h5, h6⟩ := hE.ex
  unfold dstring
  rw [h1, h3]
  simp only [Option.bind_some]
  cases h with
  | nil c hc =>
    simp only [bytesOf, Option.some.injEq] at hb
    subst hb
    match c, hc with
    | 0, _ => rw [h2, h4]; simp only [h5, Option.bind_some, h6]; rfl
    | 1, _ => rw [h2, h4]; simp only [h5, Option.bind_some, h6]; rfl
  | «at» b o n c T cs _ md hg hl hu hc =>
    rw [h2, h4]
    simp only [h5, Option.bind_some, h6]
    have hlen : us.length = n := by rw [← hu]; simp; omega
    cases hn : Nat.beq n 0 with
    | true =>
      have : n = 0 := by simpa using hn
      subst this
      have : us = [] := List.eq_nil_of_length_eq_zero hlen
      subst this
      simp only [bytesOf, Option.some.injEq] at hb
      subst hb
      rfl
    | false =>
      simp only [cond_false]
      rw [cellsAt_of hg, cellsIn_of hl hu]
      simp only [Option.bind_some, hb]
      rfl
end Go.Dn
namespace Go.Dn
theorem all_blk {A : Hp} {v : Value} {us : List Value} (h : BsAt A v us) {q : Nat → Bool} (hq : ∀ i, q i = true) : (blkOf v).all (fun y => (A.get y).isSome && q y) = true := by
  cases h with
  | nil c hc => rfl
  | «at» i o n c T cs _ md hg hl hu hc => simp [blkOf, hg, hq]
theorem bif_of {α : Type} {c : Bool} {a b r : α} (h : c = true) (h2 : a = r) : (bif c then a else b) = r := by
  rw [h]; exact h2
end Go.Dn
namespace Go.Dn
theorem drd_convert {E : Env} {σ : Sl} {o : Oper} {A : Hp} {s d : TypeId} {x : Operand} {v : Value} {r : Value × List Nat} (ho : o.op = .convert s d x) (hv : evO E σ x = some v) (h : dstring E s d A v = some r) : drd E σ o A = some r := by
  unfold drd
  rw [ho]
  simp only [hv, Option.bind_some, h]
end Go.Dn
end

section
/-
  small laws on slices, and on heaps under guard: generic
-/
namespace Go.Dn
/-- an append of something makes a slice in the plainest form -/
theorem append_sl {E : Env} {t t2 e sz bz : Nat} (hE : ElT E t e sz bz) (hE2 : ∃ i e2, E.T t2 = some i ∧ i.d = .slice e2) {A : Hp} {v x : Value} {io : Option Nat} {us ys : List Value} {n m : Nat}
    (hv : SlAt e sz A v io us n) (hx : elemsOf A sz x = some (m, ys)) (hm : ys.length = m * sz) (hmp : m ≠ 0) (hb : (n + m) * bz ≤ 140737488355328) (hM : n + m ≤ maxLen) :
    ∃ v' A' i', dappend E t t2 A v x = some (v', A') ∧ CanAt e sz A' v' (some i') (us ++ ys) (n + m) ∧ A.next ≤ i' ∧ A.next ≤ A'.next ∧ (A.wf → A'.wf) ∧ (∀ j, j < A.next → io ≠ some j → A'.get j = A.get j) := by
  obtain ⟨⟨i, h1, h2⟩, ⟨j, z, h3, h4, h5, h6, h7⟩, h8⟩ := hE
  obtain ⟨i2, e2, g1, g2⟩ := hE2
  unfold dappend
  rw [h1, g1]
  simp only [Option.bind_some, h2, g2, h3, h6, h4, hx, h7, h5]
  rw [Tr.beq_ff hmp]
  simp only [cond_false]
  rw [if_pos ⟨trivial, h8⟩]
  cases hv with
  | nil =>
    simp only [Nat.zero_add] at hb hM ⊢
    rw [if_pos ⟨hM, hb⟩]
    exact ⟨_, _, A.next, rfl, .at A.next m ys (Hp.get_push_same _ _) (by omega) hmp, Nat.le_refl _, by simp, fun hw => hw.push _, fun j hj _ => Hp.get_push_ne _ _ (by omega)⟩
  | «at» k o _ c cs _ hc hg hl hu =>
    simp only
    rw [if_pos ⟨trivial, hM, hb⟩]
    have hlen : us.length = n * sz := by rw [← hu]; simp; omega
    rw [if_neg (by rcases hc with rfl | rfl <;> omega)]
    have hel := (SlAt.at (e := e) (sz := sz) k o n c cs us hc hg hl hu).elems
    rw [hel]
    simp only [Option.bind_some]
    by_cases hodd : c % 2 = 1
    · rw [if_pos hodd]
      exact ⟨_, _, A.next, rfl, .at A.next (n + m) (us ++ ys) (Hp.get_push_same _ _) (by simp [hlen, hm, Nat.add_mul]) (by omega), Nat.le_refl _, by simp, fun hw => hw.push _, fun j hj _ => Hp.get_push_ne _ _ (by omega)⟩
    · rw [if_neg hodd, hg]
      simp only [if_true]
      refine ⟨_, _, A.next, rfl, .at A.next (n + m) (us ++ ys) (Hp.get_push_same _ _) (by simp [hlen, hm, Nat.add_mul]) (by omega), Nat.le_refl _, by simp, fun hw => (hw.drop k).push _, fun j hj hne => ?_⟩
      rw [Hp.get_push_ne _ _ (by simp; omega), Hp.get_set_ne _ _ (fun e => hne (by rw [e]))]

theorem CanAt.keep {e sz : Nat} {A A' : Hp} {v : Value} {io : Option Nat} {us : List Value} {n : Nat} (h : CanAt e sz A v io us n) (hk : ∀ i, io = some i → A'.get i = A.get i) : CanAt e sz A' v io us n := by
  cases h with
  | nil => exact .nil
  | «at» i _ _ hg hl hp => exact .at i n us (by rw [hk i rfl]; exact hg) hl hp
theorem CanAt.lt {e sz : Nat} {A : Hp} {v : Value} {i : Nat} {us : List Value} {n : Nat} (h : CanAt e sz A v (some i) us n) (hw : A.wf) : i < A.next := by
  cases h with
  | «at» _ _ _ hg hl hp => exact hw.lt hg

theorem CanAt.some_form {e sz : Nat} {A : Hp} {v : Value} {i : Nat} {us : List Value} {n : Nat} (h : CanAt e sz A v (some i) us n) : v = .slice (some ⟨i, 0, some sz⟩) n (2 * n) ∧ A.get i = some (.arr e us .own) ∧ us.length = n * sz := by
  cases h with
  | «at» i _ _ hg hl _ => exact ⟨rfl, hg, hl⟩
theorem CanAt.sl3 {e sz : Nat} {A : Hp} {v : Value} {io : Option Nat} {us : List Value} {n : Nat} (h : CanAt e sz A v io us n) : ∃ a c, v = .slice a n c := by
  cases h with
  | nil => exact ⟨_, _, rfl⟩
  | «at» => exact ⟨_, _, rfl⟩
theorem SlAt.sl3 {e sz : Nat} {A : Hp} {v : Value} {io : Option Nat} {us : List Value} {n : Nat} (h : SlAt e sz A v io us n) : ∃ a c, v = .slice a n c := by
  cases h with
  | nil => exact ⟨_, _, rfl⟩
  | «at» => exact ⟨_, _, rfl⟩
attribute [local irreducible] Hp.get Hp.set Hp.push dappend dcopy dstore cellsAt callD loopD dstring guardL hideL backL
theorem guard_get {A : Hp} {l : List Nat} {j : Nat} (hj : j ∉ l) : (guardL (hideL A []) l).get j = A.get j := by
  rw [guardL_get, if_neg hj, hideL_get, if_neg List.not_mem_nil]
theorem guard_next (A : Hp) (l : List Nat) : (guardL (hideL A []) l).next = A.next := by
  rw [guardL_next, hideL_next]
theorem guard_wf {A : Hp} (hw : A.wf) (l : List Nat) : (guardL (hideL A []) l).wf := by
  intro i hi
  rw [guard_next] at hi
  rw [guardL_get, hideL_get, if_neg List.not_mem_nil, hw i hi]
  split <;> rfl
theorem back_facts {A C : Hp} {l : List Nat} (hl : ∀ j ∈ l, j < A.next) (hC : C.wf) (hn : A.next ≤ C.next) :
    (backL A (backL A C l) []).wf ∧ (backL A (backL A C l) []).next = C.next ∧ (∀ j, j ∉ l → (backL A (backL A C l) []).get j = C.get j) ∧ (∀ j ∈ l, (backL A (backL A C l) []).get j = A.get j) := by
  have h1 : ∀ j, (backL A (backL A C l) []).get j = if j ∈ l then A.get j else C.get j := by
    intro j
    rw [backL_get, if_neg List.not_mem_nil, backL_get]
  refine ⟨fun j hj => ?_, by rw [backL_next, backL_next], fun j hj => by rw [h1, if_neg hj], fun j hj => by rw [h1, if_pos hj]⟩
  rw [backL_next, backL_next] at hj
  rw [h1, if_neg (fun hm => by have := hl j hm; omega)]
  exact hC j hj

/-- a store under guard -/
theorem guarded_store {D : Hp} (hw : D.wf) {q : Nat} {o o' : Ob} (hq : D.get q = some o) (l : List Nat) (hl : ∀ j ∈ l, j < D.next ∧ j ≠ q) :
    (guardL (hideL D []) l).get q = some o ∧ (backL D (backL D ((guardL (hideL D []) l).set q (some o')) l) []).wf ∧ (backL D (backL D ((guardL (hideL D []) l).set q (some o')) l) []).next = D.next ∧
      (backL D (backL D ((guardL (hideL D []) l).set q (some o')) l) []).get q = some o' ∧ ∀ j, j ≠ q → (backL D (backL D ((guardL (hideL D []) l).set q (some o')) l) []).get j = D.get j := by
  have hql : q ∉ l := fun hm => (hl q hm).2 rfl
  have h1 := (guard_get (A := D) hql).trans hq
  obtain ⟨d1, d2, d3, d4⟩ := back_facts (C := (guardL (hideL D []) l).set q (some o')) (fun j hj => (hl j hj).1) ((guard_wf hw l).put h1 _) (by rw [Hp.next_set, guard_next]; exact Nat.le_refl _)
  refine ⟨h1, d1, by rw [d2, Hp.next_set, guard_next], by rw [d3 q hql, Hp.get_set_same], fun j hj => ?_⟩
  by_cases hm : j ∈ l
  · exact d4 j hm
  · rw [d3 j hm, Hp.get_set_ne _ _ hj, guard_get hm]

theorem guarded_same {D : Hp} (hw : D.wf) {q : Nat} {o : Ob} (hq : D.get q = some o) (l : List Nat) (hl : ∀ j ∈ l, j < D.next ∧ j ≠ q) :
    (guardL (hideL D []) l).get q = some o ∧ (backL D (backL D ((guardL (hideL D []) l).set q (some o)) l) []).wf ∧ (backL D (backL D ((guardL (hideL D []) l).set q (some o)) l) []).next = D.next ∧
      ∀ j, (backL D (backL D ((guardL (hideL D []) l).set q (some o)) l) []).get j = D.get j := by
  obtain ⟨f1, f2, f3, f4, f5⟩ := guarded_store (o' := o) hw hq l hl
  refine ⟨f1, f2, f3, fun j => ?_⟩
  by_cases e : j = q
  · subst e; rw [f4, hq]
  · exact f5 j e
theorem guarded_push {D : Hp} (hw : D.wf) (o : Ob) (l : List Nat) (hl : ∀ j ∈ l, j < D.next) :
    (backL D (backL D ((guardL (hideL D []) l).push o) l) []).wf ∧ D.next ≤ (backL D (backL D ((guardL (hideL D []) l).push o) l) []).next ∧
      ∀ j, j < D.next → (backL D (backL D ((guardL (hideL D []) l).push o) l) []).get j = D.get j := by
  obtain ⟨d1, d2, d3, d4⟩ := back_facts (C := (guardL (hideL D []) l).push o) hl ((guard_wf hw l).push o) (by rw [Hp.next_push, guard_next]; omega)
  refine ⟨d1, by rw [d2, Hp.next_push, guard_next]; omega, fun j hj => ?_⟩
  by_cases hm : j ∈ l
  · exact d4 j hm
  · rw [d3 j hm, Hp.get_push_ne _ _ (by rw [guard_next]; omega), guard_get hm]


theorem dstep_mu {E : Env} {call : CallT} {σ : Sl} {o : Oper} {A A' : Hp} {t : TypeId} {m k v : Operand} {u r s : Value} (ho : o.op = .mapUpdate t m k v) (hm : evO E σ m = some u) (hk : evO E σ k = some r) (hv : evO E σ v = some s)
    (h : dmapUpdate E t A u r s = some A') : dstep E call σ o A = some (undef, A') := by
  have hc : cls E o = 3 := by unfold cls; rw [ho]
  unfold dstep
  rw [hc]
  show deff E σ o A = _
  unfold deff
  rw [ho]
  simp only [hm, hk, hv, Option.bind_some, h, Option.map_some]
theorem dstep_del {E : Env} {call : CallT} {σ : Sl} {o : Oper} {A A' : Hp} {t : TypeId} {args : Array Operand} {ts : Array TypeId} {m k : Value} (ho : o.op = .call { callee := .builtin .delete, args := args, argTypes := ts }) (hts : ∃ l, ts.toList = t :: l) (hv : evs E σ args.toList = some [m, k])
    (h : ddelete E t A m k = some A') : dstep E call σ o A = some (undef, A') := by
  obtain ⟨l, hts⟩ := hts
  have hc : cls E o = 3 := by unfold cls; rw [ho]
  unfold dstep
  rw [hc]
  show deff E σ o A = _
  unfold deff
  rw [ho]
  simp only [hv, Option.bind_some, hts, h, Option.map_some]
theorem drd_same {E : Env} {σ : Sl} {o : Oper} {A : Hp} {t e : TypeId} {x y : Operand} {k : TypeId} {i j : TI} {a q : Nat} (ho : o.op = .binOp .eql t x y k) (hx : evO E σ x = some (.pointer (some ⟨a, q, none⟩))) (hy : evO E σ y = some (.pointer (some ⟨a, q, none⟩)))
    (h1 : E.T t = some i) (h2 : i.d = .pointer e) (h3 : E.T e = some j) (h4 : j.size ≠ 0) : drd E σ o A = some (.bool true, [a, a]) := by
  unfold drd
  rw [ho]
  simp only [hx, hy, Option.bind_some]
  unfold dptrEq
  rw [h1]
  simp only [Option.bind_some, h2, h3, if_neg h4, Tr.beq_tt, cond_true]
end Go.Dn
end

section
namespace Go.Dn
open Classical in
/-- a function told by a relation -/
noncomputable def byRel (R : List Value → Hp → Value × Hp → Prop) (args : List Value) (A : Hp) : Option (Value × Hp) := if h : ∃ r, R args A r then some h.choose else none

theorem byRel_some {R : List Value → Hp → Value × Hp → Prop} {args : List Value} {A : Hp} {r : Value × Hp} (h : byRel R args A = some r) : R args A r := by
  unfold byRel at h
  split at h
  · rename_i hr
    cases h
    exact hr.choose_spec
  · cases h

theorem byRel_of {R : List Value → Hp → Value × Hp → Prop} {args : List Value} {A : Hp} {r : Value × Hp} (hr : R args A r) (hu : ∀ r', R args A r' → r' = r) : byRel R args A = some r := by
  unfold byRel
  have h : ∃ r, R args A r := ⟨r, hr⟩
  rw [dif_pos h]
  exact congrArg some (hu _ h.choose_spec)

theorem withCall_same {base : CallT} {f : FuncId} {F : List Value → Hp → Option (Value × Hp)} {args : List Value} {A : Hp} : withCall base f F f args A = F args A := by
  unfold withCall
  rw [Nat.beq_refl, cond_true]
theorem withCall_ne {base : CallT} {f g : FuncId} {F : List Value → Hp → Option (Value × Hp)} {args : List Value} {A : Hp} (h : Nat.beq g f = false) : withCall base f F g args A = base g args A := by
  unfold withCall
  rw [h, cond_false]
end Go.Dn
end

section
/-
  layer 11 (lane): what a ticket may be
-/
namespace Go.Dn.Ln
open Go.Proofs
set_option maxHeartbeats 4000000
set_option maxRecDepth 100000
attribute [local irreducible] Hp.get Hp.set Hp.push dappend dcopy dstore cellsAt callD loopD

/-- older objects stay -/
structure Kp (A A' : Hp) : Prop where
  wf : A'.wf
  nx : A.next ≤ A'.next
  old : ∀ j, j < A.next → A'.get j = A.get j
theorem Kp.refl {A : Hp} (hw : A.wf) : Kp A A := ⟨hw, Nat.le_refl _, fun _ _ => rfl⟩
theorem Kp.trans {A B C : Hp} (h : Kp A B) (k : Kp B C) : Kp A C := ⟨k.wf, Nat.le_trans h.nx k.nx, fun j hj => by have := h.nx; rw [k.old j (by omega), h.old j hj]⟩
theorem Kp.push {A : Hp} (hw : A.wf) (o : Ob) : Kp A (A.push o) := ⟨hw.push _, by simp, fun j hj => Hp.get_push_ne _ _ (by omega)⟩
theorem Kp.set {A B : Hp} (h : Kp A B) {i : Nat} {o : Ob} (hg : B.get i = some o) (hi : A.next ≤ i) (o' : Ob) : Kp A (B.set i (some o')) :=
  ⟨h.wf.put hg _, by rw [Hp.next_set]; exact h.nx, fun j hj => by rw [Hp.get_set_ne _ _ (by omega), h.old j hj]⟩

def ptr (i : Nat) : Value := .pointer (some ⟨i, 0, none⟩)
/-- a sentinel -/
def errV (g : Nat) : Value := .iface 206 (.pointer (some ⟨g + 44, 0, none⟩))

theorem form_at {k : Nat} (hk : k < 8) : cellsIn formsC (0 + k * 5) 5 = some (formRow k) := by
  match k, hk with
  | 0, _ => rfl
  | 1, _ => rfl
  | 2, _ => rfl
  | 3, _ => rfl
  | 4, _ => rfl
  | 5, _ => rfl
  | 6, _ => rfl
  | 7, _ => rfl

/-- may the number be? -/
def fitB (f : Nat) (n : Int) : Bool := match f with
  | 0 => n == 0
  | 1 => n != 0
  | 3 => decide (n ≤ 2)
  | _ => true
def onceB (k : Nat) : Bool := k == 1 || k == 2 || k == 4 || k == 7
def sF (k : Nat) : Nat := if k ≤ 4 then (if k = 0 then 0 else 1) else 0
def vF (k : Nat) : Nat := if k = 3 then 1 else if k = 5 ∨ k = 6 then 2 else if k = 7 then 3 else 0

theorem row_at {k : Nat} (h1 : 1 ≤ k) (h7 : k ≤ 7) : ∃ t f, formRow k = [.int .i64 (sF k : Nat), .int .i64 (vF k : Nat), .bool (onceB k), .int .u8 t, .int .u16 f] ∧ sF k < 4 ∧ vF k < 4 := by
  match k, h1, h7 with
  | 1, _, _ => exact ⟨1, 1, rfl, by decide, by decide⟩
  | 2, _, _ => exact ⟨1, 2, rfl, by decide, by decide⟩
  | 3, _, _ => exact ⟨1, 0, rfl, by decide, by decide⟩
  | 4, _, _ => exact ⟨1, 8, rfl, by decide, by decide⟩
  | 5, _, _ => exact ⟨2, 1, rfl, by decide, by decide⟩
  | 6, _, _ => exact ⟨2, 2, rfl, by decide, by decide⟩
  | 7, _, _ => exact ⟨3, 0, rfl, by decide, by decide⟩

theorem fits_walk {call : CallT} (lf : Nat) (A : Hp) {f : Nat} (hf : f < 4) (n : Int) :
    kfn Tryd.bk.E call (Tryd.bk.inf 106) lf Tryd.f106 [.int .i64 (f : Nat), .int .u32 n] A = some (.bool (fitB f n), A) := by
  match f, hf with
  | 0, _ => conv => lhs; whnf
            rfl
  | 1, _ => conv => lhs; whnf
            rfl
  | 2, _ => conv => lhs; whnf
            rfl
  | 3, _ => conv => lhs; whnf
            rfl

def FitsOK (call : CallT) : Prop := ∀ (A : Hp) {f : Nat}, f < 4 → ∀ n : Int, call 106 [.int .i64 (f : Nat), .int .u32 n] A = some (.bool (fitB f n), A)

/-- why a ticket may not be: the sentinel's number -/
def badT (k : Nat) (s v : Int) : Option Nat := if fitB (sF k) s then (if fitB (vF k) v then none else some 5) else some 10

/-- the constants that a lane looks at -/
structure LC (A : Hp) : Prop where
  forms : A.get 1 = some (.arr 115 formsC .ro)
  eType : A.get 7 = some (er 7)
  eID : A.get 10 = some (er 10)
  eLength : A.get 5 = some (er 5)
  eTwice : A.get 2 = some (er 2)
  eOver : A.get 3 = some (er 3)
theorem LC.keep {A A' : Hp} (h : LC A) (hk : ∀ j, j < 44 → A'.get j = A.get j) : LC A' :=
  ⟨by rw [hk _ (by decide)]; exact h.forms, by rw [hk _ (by decide)]; exact h.eType, by rw [hk _ (by decide)]; exact h.eID, by rw [hk _ (by decide)]; exact h.eLength, by rw [hk _ (by decide)]; exact h.eTwice, by rw [hk _ (by decide)]; exact h.eOver⟩

theorem check_kind {call : CallT} (lf : Nat) {A : Hp} (hw : A.wf) (hC : LC A) {k : Int} (hk : k < 1 ∨ 7 < k) (s v : Int) :
    ∃ A', kfn Tryd.bk.E call (Tryd.bk.inf 63) lf Tryd.f63 [.agg #[.int .i64 k, .int .u32 s, .int .u32 v]] A = some (errV 7, A') ∧ Kp A A' := by
  let A1 : Hp := A.push (.arr 29 [.int .i64 k, .int .u32 s, .int .u32 v] .own)
  have k1 : Kp A A1 := Kp.push hw _
  have q1 : A1.get A.next = some (.arr 29 [.int .i64 k, .int .u32 s, .int .u32 v] .own) := Hp.get_push_same _ _
  have hg : A1.get 7 = some (er 7) := by rw [k1.old _ (hw.lt hC.eType)]; exact hC.eType
  by_cases h1 : k < 1
  · refine ⟨A1, ?run, k1⟩
    case run =>
      conv => lhs; whnf
      refine bind_of (cellsAt_of q1 _ _) ?_
      conv => lhs; whnf
      rw [kdec h1]
      conv => lhs; whnf
      refine bind_of (cellsAt_of hg _ _) ?_
      conv => lhs; whnf
      rfl
  · have h7 : k > 7 := by omega
    refine ⟨A1, ?run2, k1⟩
    case run2 =>
      conv => lhs; whnf
      refine bind_of (cellsAt_of q1 _ _) ?_
      conv => lhs; whnf
      rw [kdecn h1]
      conv => lhs; whnf
      refine bind_of (cellsAt_of q1 _ _) ?_
      conv => lhs; whnf
      rw [kdec h7]
      conv => lhs; whnf
      refine bind_of (cellsAt_of hg _ _) ?_
      conv => lhs; whnf
      rfl

theorem check_walk {call : CallT} (hf : FitsOK call) (lf : Nat) {A : Hp} (hw : A.wf) (hC : LC A) {k : Nat} (h1 : 1 ≤ k) (h7 : k ≤ 7) (s v : Int) :
    ∃ A', kfn Tryd.bk.E call (Tryd.bk.inf 63) lf Tryd.f63 [.agg #[.int .i64 (k : Nat), .int .u32 s, .int .u32 v]] A = some (((badT k s v).map errV).getD .nilIface, A') ∧ Kp A A' := by
  let A1 : Hp := A.push (.arr 29 [.int .i64 (k : Nat), .int .u32 s, .int .u32 v] .own)
  have k1 : Kp A A1 := Kp.push hw _
  have n1 : A1.next = A.next + 1 := by simp [A1]
  have q1 : A1.get A.next = some (.arr 29 [.int .i64 (k : Nat), .int .u32 s, .int .u32 v] .own) := Hp.get_push_same _ _
  have hfo : A1.get 1 = some (.arr 115 formsC .ro) := by rw [k1.old _ (hw.lt hC.forms)]; exact hC.forms
  obtain ⟨t, f, hrow, hs4, hv4⟩ := row_at h1 h7
  let Z : List Value := [.int .i64 0, .int .i64 0, .bool false, .int .u8 0, .int .u16 0]
  let F : List Value := [.int .i64 (sF k : Nat), .int .i64 (vF k : Nat), .bool (onceB k), .int .u8 t, .int .u16 f]
  let A2 : Hp := (A1.push (.arr 114 Z .own)).set A1.next (some (.arr 114 F .own))
  have k12 : Kp A1 A2 := (Kp.push k1.wf (.arr 114 Z .own)).set (Hp.get_push_same _ _) (Nat.le_refl _) _
  have q2 : A2.get A.next = some (.arr 29 [.int .i64 (k : Nat), .int .u32 s, .int .u32 v] .own) := by rw [k12.old _ (by omega)]; exact q1
  have g2 : A2.get A1.next = some (.arr 114 F .own) := Hp.get_set_same _ _ _
  have k2 : Kp A A2 := k1.trans k12
  have e1 : ¬ ((k : Nat) : Int) < 1 := by omega
  have e2 : ¬ ((k : Nat) : Int) > 7 := by omega
  have e3 : ((k : Nat) : Int) < ((8 : Nat) : Int) := by omega
  have cF : cellsIn formsC (0 + k * 5) 5 = some F := by rw [form_at (by omega), hrow]
  have hID : A2.get 10 = some (er 10) := by rw [k2.old _ (hw.lt hC.eID)]; exact hC.eID
  have hLen : A2.get 5 = some (er 5) := by rw [k2.old _ (hw.lt hC.eLength)]; exact hC.eLength
  refine ⟨A2, ?run, k2⟩
  case run =>
    unfold badT
    conv => lhs; whnf
    refine bind_of (cellsAt_of q1 _ _) ?_
    conv => lhs; whnf
    rw [kdecn e1]
    conv => lhs; whnf
    refine bind_of (cellsAt_of q1 _ _) ?_
    conv => lhs; whnf
    rw [kdecn e2]
    conv => lhs; whnf
    refine bind_of (cellsAt_of q1 _ _) ?_
    conv => lhs; whnf
    rw [kdec e3]
    conv => lhs; whnf
    refine bind_of ((cellsAt_of hfo _ _).trans cF) ?_
    conv => lhs; whnf
    refine bind_of (dstore_of (Hp.get_push_same _ _) (t := 114) (o := 0) (cs' := F) rfl) ?_
    conv => lhs; whnf
    refine bind_of (cellsAt_of g2 _ _) ?_
    conv => lhs; whnf
    refine bind_of (cellsAt_of q2 _ _) ?_
    conv => lhs; whnf
    refine bind_of (hf A2 hs4 s) ?_
    conv => lhs; whnf
    cases hfs : fitB (sF k) s with
    | false =>
      conv => lhs; whnf
      refine bind_of (cellsAt_of hID _ _) ?_
      conv => lhs; whnf
      rfl
    | true =>
      conv => lhs; whnf
      refine bind_of (cellsAt_of g2 _ _) ?_
      conv => lhs; whnf
      refine bind_of (cellsAt_of q2 _ _) ?_
      conv => lhs; whnf
      refine bind_of (hf A2 hv4 v) ?_
      conv => lhs; whnf
      cases hfv : fitB (vF k) v with
      | false =>
        conv => lhs; whnf
        refine bind_of (cellsAt_of hLen _ _) ?_
        conv => lhs; whnf
        rfl
      | true =>
        conv => lhs; whnf
        rfl
end Go.Dn.Ln
end

section
/-
  layer 11 (lane): a lane in memory; Put
-/
namespace Go.Dn.Ln
open Go.Proofs
set_option maxHeartbeats 4000000
set_option maxRecDepth 100000
attribute [local irreducible] Hp.get Hp.set Hp.push dappend dcopy dstore cellsAt callD loopD

/-- a ticket that waits, or waits no more: where it lies, its kind, stream, value -/
structure En where
  id : Nat
  k : Nat
  s : Int
  v : Int
  gone : Bool
def En.cells (e : En) : List Value := [.int .i64 (e.k : Nat), .int .u32 e.s, .int .u32 e.v, .bool e.gone]
def kyd (k : Nat) : Bool := onceB k || k == 3
def live (es : List En) : List En := es.filter fun e => !e.gone
def cnt (es : List En) (j : Nat) : Nat := (live es).countP fun e => e.k == j
def laneC (lv : Value) (mi : Nat) (f : Nat → Int) (n : Int) : List Value :=
  [lv, .map (some mi), .int .i64 (f 0), .int .i64 (f 1), .int .i64 (f 2), .int .i64 (f 3), .int .i64 (f 4), .int .i64 (f 5), .int .i64 (f 6), .int .i64 (f 7), .int .i64 n]
def rowM (x : Nat × Int × Nat) : Value × Value := (.agg #[.int .i64 (x.1 : Nat), .int .u32 x.2.1], ptr x.2.2)

theorem cnt_at {lv : Value} {mi : Nat} {f : Nat → Int} {n : Int} {k : Nat} (hk : k < 8) : cellsIn (laneC lv mi f n) (0 + 2 + k * 1) 1 = some [.int .i64 (f k)] := by
  match k, hk with
  | 0, _ => rfl
  | 1, _ => rfl
  | 2, _ => rfl
  | 3, _ => rfl
  | 4, _ => rfl
  | 5, _ => rfl
  | 6, _ => rfl
  | 7, _ => rfl
theorem cnt_put {lv : Value} {mi : Nat} {f : Nat → Int} {n x : Int} {k : Nat} (hk : k < 8) : storeIn Tryd.bk.E 3 (laneC lv mi f n) (0 + 2 + k * 1) (.int .i64 x) = some (laneC lv mi (fun j => if j = k then x else f j) n) := by
  match k, hk with
  | 0, _ => rfl
  | 1, _ => rfl
  | 2, _ => rfl
  | 3, _ => rfl
  | 4, _ => rfl
  | 5, _ => rfl
  | 6, _ => rfl
  | 7, _ => rfl
theorem once_at {k : Nat} (hk : k < 8) : cellsIn formsC (0 + k * 5 + 2) 1 = some [.bool (onceB k)] := by
  match k, hk with
  | 0, _ => rfl
  | 1, _ => rfl
  | 2, _ => rfl
  | 3, _ => rfl
  | 4, _ => rfl
  | 5, _ => rfl
  | 6, _ => rfl
  | 7, _ => rfl

theorem one_all {A : Hp} {i : Nat} {o : Ob} (h : A.get i = some o) {q : Nat → Bool} (hq : q i = true) : ([i].all fun y => (A.get y).isSome && q y) = true := by simp [h, hq]

theorem two_all {A : Hp} {i : Nat} {o : Ob} (h : A.get i = some o) {q : Nat → Bool} (hq : q i = true) : ([i, i].all fun y => (A.get y).isSome && q y) = true := by simp [h, hq]

/-! ## the map -/
def findI (k : Nat) (s : Int) : List (Nat × Int × Nat) → Nat → Option (Nat × Nat)
  | [], _ => none
  | x :: M, i => if x.1 = k ∧ x.2.1 = s then some (i, x.2.2) else findI k s M (i + 1)

theorem deq_key (k k' : Nat) (s s' : Int) : deqF Tryd.bk.E 20 111 (.agg #[.int .i64 (k : Nat), .int .u32 s]) (.agg #[.int .i64 (k' : Nat), .int .u32 s']) = some (decide (k' = k ∧ s' = s)) := by
  by_cases h1 : k' = k
  · by_cases h2 : s' = s
    · subst h1 h2
      rw [kdec (by exact ⟨rfl, rfl⟩)]
      conv => lhs; whnf
      rw [beq_self_eq_true]
      conv => lhs; whnf
      rw [beq_self_eq_true]
      try rfl
    · subst h1
      rw [kdecn (fun h => h2 h.2)]
      conv => lhs; whnf
      rw [beq_self_eq_true]
      conv => lhs; whnf
      rw [show (s == s') = false from beq_eq_false_iff_ne.2 fun e => h2 e.symm]
      try rfl
  · rw [kdecn (fun h => h1 h.1)]
    conv => lhs; whnf
    rw [show (((k : Nat) : Int) == ((k' : Nat) : Int)) = false from beq_eq_false_iff_ne.2 fun e => h1 (by omega)]
    try rfl

theorem dfind_at (k : Nat) (s : Int) : ∀ (M : List (Nat × Int × Nat)) (i : Nat), dfind Tryd.bk.E 111 (.agg #[.int .i64 (k : Nat), .int .u32 s]) (M.map rowM) i = some ((findI k s M i).map fun r => (r.1, ptr r.2))
  | [], _ => rfl
  | x :: M, i => by
    simp only [List.map_cons, rowM, dfind, deq_key, Option.bind_some, findI]
    by_cases h : x.1 = k ∧ x.2.1 = s
    · rw [kdec h, if_pos h]; rfl
    · rw [kdecn h, if_neg h, cond_false]
      exact dfind_at k s M (i + 1)

def lookV (M : List (Nat × Int × Nat)) (k : Nat) (s : Int) : Value := ((findI k s M 0).map fun r => ptr r.2).getD (.pointer none)

theorem look_at {A : Hp} {mi : Nat} {M : List (Nat × Int × Nat)} {m : Md} (hm : A.get mi = some (.map (M.map rowM) m)) (k : Nat) (s : Int) :
    dlookup Tryd.bk.E 105 A (.map (some mi)) (.agg #[.int .i64 (k : Nat), .int .u32 s]) false = some (lookV M k s, [mi]) := by
  have hmo : mapOf A (.map (some mi)) = some (M.map rowM, [mi]) := by
    simp only [mapOf, hm]
  unfold dlookup
  refine bind_of (a := Go.Dn.Tryd.ti105) rfl ?_
  show (Tryd.bk.E.T 111).bind _ = _
  refine bind_of (a := Go.Dn.Tryd.ti111) rfl ?_
  refine bind_of hmo ?_
  refine (congrArg (fun c => cond c _ _) (show keyOk Tryd.bk.E 20 111 (.agg #[.int .i64 (k : Nat), .int .u32 s]) = true from rfl)).trans ?_
  refine bind_of (dfind_at k s M 0) ?_
  unfold lookV
  cases hf : findI k s M 0 with
  | none => rfl
  | some r => rfl

theorem mput_at {A : Hp} {mi : Nat} {M : List (Nat × Int × Nat)} (hm : A.get mi = some (.map (M.map rowM) .own)) {k : Nat} {s : Int} (hn : findI k s M 0 = none) (i : Nat) :
    dmapUpdate Tryd.bk.E 105 A (.map (some mi)) (.agg #[.int .i64 (k : Nat), .int .u32 s]) (ptr i) = some (A.set mi (some (.map ((M ++ [(k, s, i)]).map rowM) .own))) := by
  unfold dmapUpdate
  refine bind_of (a := Go.Dn.Tryd.ti105) rfl ?_
  show (Tryd.bk.E.T 111).bind _ = _
  refine bind_of (a := Go.Dn.Tryd.ti111) rfl ?_
  rw [hm]
  refine (congrArg (fun c => cond c _ _) (show keyOk Tryd.bk.E 20 111 (.agg #[.int .i64 (k : Nat), .int .u32 s]) = true from rfl)).trans ?_
  refine bind_of (dfind_at k s M 0) ?_
  rw [hn, List.map_append]
  rfl

theorem mdel_at {A : Hp} {mi : Nat} {M : List (Nat × Int × Nat)} (hm : A.get mi = some (.map (M.map rowM) .own)) {k : Nat} {s : Int} {j i : Nat} (hn : findI k s M 0 = some (j, i)) :
    ddelete Tryd.bk.E 105 A (.map (some mi)) (.agg #[.int .i64 (k : Nat), .int .u32 s]) = some (A.set mi (some (.map ((M.eraseIdx j).map rowM) .own))) := by
  unfold ddelete
  refine bind_of (a := Go.Dn.Tryd.ti105) rfl ?_
  show (Tryd.bk.E.T 111).bind _ = _
  refine bind_of (a := Go.Dn.Tryd.ti111) rfl ?_
  refine (congrArg (fun c => cond c _ _) (show keyOk Tryd.bk.E 20 111 (.agg #[.int .i64 (k : Nat), .int .u32 s]) = true from rfl)).trans ?_
  simp only
  rw [hm]
  refine bind_of (dfind_at k s M 0) ?_
  rw [hn]
  simp only [Option.map_some]
  have : ∀ (l : List (Nat × Int × Nat)) (j : Nat), (l.map rowM).eraseIdx j = (l.eraseIdx j).map rowM := by
    intro l
    induction l with
    | nil => intro j; simp
    | cons x l ih => intro j; cases j with
      | zero => rfl
      | succ j => simp [ih]
  rw [this]

theorem findI_shift (k : Nat) (s : Int) : ∀ (M : List (Nat × Int × Nat)) (i : Nat), findI k s M (i + 1) = (findI k s M i).map fun r => (r.1 + 1, r.2)
  | [], _ => rfl
  | x :: M, i => by
    simp only [findI]
    split
    · rfl
    · exact findI_shift k s M (i + 1)
theorem findI_some {k : Nat} {s : Int} : ∀ {M : List (Nat × Int × Nat)} {j i : Nat}, findI k s M 0 = some (j, i) → M[j]? = some (k, s, i)
  | [], _, _, h => by cases h
  | x :: M, j, i, h => by
    simp only [findI] at h
    split at h
    · rename_i hx
      obtain ⟨a, b, c⟩ := x
      simp only at hx
      obtain ⟨rfl, rfl⟩ := hx
      simp only [Option.some.injEq, Prod.mk.injEq] at h
      obtain ⟨rfl, rfl⟩ := h
      rfl
    · rw [findI_shift] at h
      cases hf : findI k s M 0 with
      | none => rw [hf] at h; cases h
      | some r =>
        rw [hf] at h
        simp only [Option.map_some, Option.some.injEq, Prod.mk.injEq] at h
        obtain ⟨rfl, rfl⟩ := h
        exact findI_some (M := M) (j := r.1) (i := r.2) hf
theorem findI_none {k : Nat} {s : Int} : ∀ {M : List (Nat × Int × Nat)} {i : Nat}, findI k s M i = none ↔ ∀ x ∈ M, ¬ (x.1 = k ∧ x.2.1 = s)
  | [], _ => by simp [findI]
  | x :: M, i => by
    simp only [findI, List.mem_cons, forall_eq_or_imp]
    by_cases h : x.1 = k ∧ x.2.1 = s
    · rw [if_pos h]; simp [h]
    · rw [if_neg h, findI_none]; simp [h]

/-! ## a lane -/
structure MapOK (M : List (Nat × Int × Nat)) (es : List En) : Prop where
  isin : ∀ x ∈ M, ∃ e ∈ es, e.id = x.2.2 ∧ e.k = x.1 ∧ e.s = x.2.1 ∧ e.gone = false ∧ kyd e.k = true
  of : ∀ e ∈ es, e.gone = false → kyd e.k = true → (e.k, e.s, e.id) ∈ M
  nd : (M.map fun x => (x.1, x.2.1)).Nodup

structure IsLane (A : Hp) (p mi : Nat) (io : Option Nat) (lv : Value) (es : List En) (M : List (Nat × Int × Nat)) : Prop where
  hp : A.get p = some (.arr 109 (laneC lv mi (fun j => (cnt es j : Nat)) ((live es).length : Nat)) .own)
  hl : SlAt 112 1 A lv io (es.map fun e => ptr e.id) es.length
  hm : A.get mi = some (.map (M.map rowM) .own)
  he : ∀ e ∈ es, A.get e.id = some (.arr 117 e.cells .own)
  nd : (es.map (·.id)).Nodup
  mp : MapOK M es
  ok : ∀ e ∈ es, 1 ≤ e.k ∧ e.k ≤ 7 ∧ 0 ≤ e.v ∧ e.v ≤ 4294967295

/-- what a step on a lane leaves -/
structure LF (A A' : Hp) (p mi : Nat) (io : Option Nat) (es : List En) : Prop where
  wf : A'.wf
  nx : A.next ≤ A'.next
  old : ∀ j, j < A.next → j ≠ p → j ≠ mi → io ≠ some j → (∀ e ∈ es, e.id ≠ j) → A'.get j = A.get j
theorem LF.refl {A : Hp} (hw : A.wf) {p mi : Nat} {io : Option Nat} {es : List En} : LF A A p mi io es := ⟨hw, Nat.le_refl _, fun _ _ _ _ _ _ => rfl⟩
theorem LF.trans {A B C : Hp} {p mi : Nat} {io io' : Option Nat} {es es' : List En} (h : LF A B p mi io es) (k : LF B C p mi io' es') (hio : ∀ j, io' = some j → io = some j ∨ A.next ≤ j) (hes : ∀ e ∈ es', (∃ e' ∈ es, e'.id = e.id) ∨ A.next ≤ e.id) : LF A C p mi io es :=
  ⟨k.wf, Nat.le_trans h.nx k.nx, fun j hj h1 h2 h3 h4 => by
    rw [k.old j (Nat.lt_of_lt_of_le hj h.nx) h1 h2 (fun e => by rcases hio j e with e' | e'; exact h3 e'; omega) (fun e he heq => by
      rcases hes e he with ⟨e', he', q⟩ | q
      · exact h4 e' he' (q.trans heq)
      · omega), h.old j hj h1 h2 h3 h4]⟩
theorem Kp.lf {A B : Hp} (h : Kp A B) {p mi : Nat} {io : Option Nat} {es : List En} : LF A B p mi io es := ⟨h.wf, h.nx, fun j hj _ _ _ _ => h.old j hj⟩

theorem IsLane.pl {A : Hp} {p mi : Nat} {io : Option Nat} {lv : Value} {es : List En} {M : List (Nat × Int × Nat)} (h : IsLane A p mi io lv es M) (hw : A.wf) :
    p < A.next ∧ mi < A.next ∧ p ≠ mi ∧ (∀ i, io = some i → i < A.next ∧ i ≠ p ∧ i ≠ mi ∧ ∀ e ∈ es, e.id ≠ i) ∧ ∀ e ∈ es, e.id < A.next ∧ e.id ≠ p ∧ e.id ≠ mi := by
  refine ⟨hw.lt h.hp, hw.lt h.hm, ?_, fun i hi => ?_, fun e he => ⟨hw.lt (h.he e he), ?_, ?_⟩⟩
  · rintro rfl
    have := h.hp
    rw [h.hm] at this; cases this
  · subst hi
    obtain ⟨cs, hcs⟩ := h.hl.lt
    refine ⟨hw.lt hcs, ?_, ?_, fun e he => ?_⟩
    · rintro rfl
      have := h.hp
      rw [hcs] at this; cases this
    · rintro rfl
      have := h.hm
      rw [hcs] at this; cases this
    · rintro rfl
      have := h.he e he
      rw [hcs] at this; cases this
  · intro e1
    have h1 := h.he e he
    rw [e1, h.hp] at h1; cases h1
  · intro e1
    have h1 := h.he e he
    rw [e1, h.hm] at h1; cases h1

theorem IsLane.keep {A A' : Hp} {p mi : Nat} {io : Option Nat} {lv : Value} {es : List En} {M : List (Nat × Int × Nat)} (h : IsLane A p mi io lv es M)
    (hk : ∀ j o, A.get j = some o → (j = p ∨ j = mi ∨ io = some j ∨ ∃ e ∈ es, e.id = j) → A'.get j = A.get j) : IsLane A' p mi io lv es M :=
  ⟨by rw [hk p _ h.hp (.inl rfl)]; exact h.hp, h.hl.keep fun i hi => by subst hi; obtain ⟨cs, hcs⟩ := h.hl.lt; exact hk _ _ hcs (.inr (.inr (.inl rfl))), by rw [hk mi _ h.hm (.inr (.inl rfl))]; exact h.hm,
    fun e he => by rw [hk e.id _ (h.he e he) (.inr (.inr (.inr ⟨e, he, rfl⟩)))]; exact h.he e he, h.nd, h.mp, h.ok⟩
theorem IsLane.kp {A A' : Hp} {p mi : Nat} {io : Option Nat} {lv : Value} {es : List En} {M : List (Nat × Int × Nat)} (h : IsLane A p mi io lv es M) (hw : A.wf) (hk : Kp A A') : IsLane A' p mi io lv es M :=
  h.keep fun j _ hj _ => hk.old j (hw.lt hj)

theorem elE : ElT Tryd.bk.E 106 112 1 8 := ⟨⟨_, rfl, rfl⟩, ⟨_, _, rfl, rfl, rfl, rfl, rfl⟩, by decide⟩
theorem elE2 : ∃ i e2, Tryd.bk.E.T 106 = some i ∧ i.d = .slice e2 := ⟨_, _, rfl, rfl⟩

/-- one element more -/
theorem app_ptr {A : Hp} (hw : A.wf) {V : Value} {io : Option Nat} {us : List Value} {n : Nat} (hc : SlAt 112 1 A V io us n) (x : Value) (hn : n ≤ 1000000000) :
    ∃ i c A', dappend Tryd.bk.E 106 106 (A.push (.arr 112 [x] .own)) V (.slice (some ⟨A.next, 0, some 1⟩) 1 3) = some (.slice (some ⟨i, 0, some 1⟩) (n + 1) c, A') ∧ CanAt 112 1 A' (.slice (some ⟨i, 0, some 1⟩) (n + 1) c) (some i) (us ++ [x]) (n + 1) ∧ A.next ≤ i ∧ A'.wf ∧ A.next ≤ A'.next ∧
      (∀ j, j < A.next → io ≠ some j → A'.get j = A.get j) := by
  let B : Hp := A.push (.arr 112 [x] .own)
  have hcB : SlAt 112 1 B V io us n := hc.keep fun j hj => Hp.get_push_ne _ _ (by subst hj; obtain ⟨cs, hcs⟩ := hc.lt; have := hw.lt hcs; omega)
  have hx : elemsOf B 1 (.slice (some ⟨A.next, 0, some 1⟩) 1 3) = some (1, [x]) := (BsAt.at A.next 0 1 3 112 [x] [x] .own (Hp.get_push_same _ _) (by simp) rfl (by omega)).elems
  obtain ⟨v', A', i', a1, a2, a3, a4, a5, a6⟩ := append_sl elE elE2 hcB hx rfl (by omega) (by omega) (by unfold maxLen; omega)
  have n1 : B.next = A.next + 1 := by simp [B]
  cases a2 with
  | «at» i _ _ hg hl hp =>
    exact ⟨i', _, A', a1, .at i' _ _ hg hl hp, by omega, a5 (hw.push _), by omega, fun j hj hji => by rw [a6 j (by omega) hji]; exact Hp.get_push_ne _ _ (by omega)⟩
end Go.Dn.Ln
end

section
/-
  layer 11 (lane): Put
-/
namespace Go.Dn.Ln
open Go.Proofs
set_option maxHeartbeats 4000000
set_option maxRecDepth 100000
attribute [local irreducible] Hp.get Hp.set Hp.push dappend dcopy dstore cellsAt callD loopD dlookup dmapUpdate ddelete

def CheckOK (call : CallT) : Prop := (∀ {A : Hp}, A.wf → LC A → ∀ {k : Nat}, 1 ≤ k → k ≤ 7 → ∀ s v : Int, ∃ A', call 63 [.agg #[.int .i64 (k : Nat), .int .u32 s, .int .u32 v]] A = some (((badT k s v).map errV).getD .nilIface, A') ∧ Kp A A') ∧
  ∀ {A : Hp}, A.wf → LC A → ∀ {k : Int}, (k < 1 ∨ 7 < k) → ∀ s v : Int, ∃ A', call 63 [.agg #[.int .i64 k, .int .u32 s, .int .u32 v]] A = some (errV 7, A') ∧ Kp A A'

theorem live_snoc (es : List En) (e : En) (he : e.gone = false) : live (es ++ [e]) = live es ++ [e] := by
  unfold live
  rw [List.filter_append]
  simp [he]
theorem cnt_snoc (es : List En) (e : En) (he : e.gone = false) (j : Nat) : cnt (es ++ [e]) j = cnt es j + if e.k = j then 1 else 0 := by
  unfold cnt
  rw [live_snoc es e he, List.countP_append]
  by_cases h : e.k = j <;> simp [h]
theorem cnt_le (es : List En) (j : Nat) : cnt es j ≤ es.length := Nat.le_trans List.countP_le_length (List.length_filter_le _ _)
theorem live_le (es : List En) : (live es).length ≤ es.length := List.length_filter_le _ _
theorem w64 {x : Int} (h1 : -9223372036854775808 ≤ x) (h2 : x ≤ 9223372036854775807) : IntKind.i64.wrap x = x := by
  rw [IntKind.wrap_i64]; omega
theorem w32 {x : Int} (h1 : 0 ≤ x) (h2 : x ≤ 4294967295) : IntKind.u32.wrap x = x := by
  rw [IntKind.wrap_u32]
  omega

theorem LCkp {A A' : Hp} (hw : A.wf) (hC : LC A) (hk : Kp A A') : LC A' :=
  ⟨by rw [hk.old _ (hw.lt hC.forms)]; exact hC.forms, by rw [hk.old _ (hw.lt hC.eType)]; exact hC.eType, by rw [hk.old _ (hw.lt hC.eID)]; exact hC.eID, by rw [hk.old _ (hw.lt hC.eLength)]; exact hC.eLength,
    by rw [hk.old _ (hw.lt hC.eTwice)]; exact hC.eTwice, by rw [hk.old _ (hw.lt hC.eOver)]; exact hC.eOver⟩

section
variable {call : CallT} (hck : CheckOK call) {A : Hp} (hw : A.wf) (hC : LC A) {p mi : Nat} {io : Option Nat} {lv : Value} {es : List En} {M : List (Nat × Int × Nat)} (h : IsLane A p mi io lv es M)
include hck hw hC

theorem lput_kind (lf : Nat) (p : Nat) {k : Int} (hk : k < 1 ∨ 7 < k) (s v : Int) :
    ∃ A', kfn Tryd.bk.E call (Tryd.bk.inf 17) lf Tryd.f17 [ptr p, .agg #[.int .i64 k, .int .u32 s, .int .u32 v]] A = some (errV 7, A') ∧ Kp A A' := by
  let A1 : Hp := A.push (.arr 29 [.int .i64 k, .int .u32 s, .int .u32 v] .own)
  have k1 : Kp A A1 := Kp.push hw _
  have q1 : A1.get A.next = some (.arr 29 [.int .i64 k, .int .u32 s, .int .u32 v] .own) := Hp.get_push_same _ _
  have hl := hw.lt hC.forms
  obtain ⟨A2, c1, c2⟩ := hck.2 k1.wf ⟨by rw [k1.old _ (hw.lt hC.forms)]; exact hC.forms, by rw [k1.old _ (hw.lt hC.eType)]; exact hC.eType, by rw [k1.old _ (hw.lt hC.eID)]; exact hC.eID, by rw [k1.old _ (hw.lt hC.eLength)]; exact hC.eLength,
    by rw [k1.old _ (hw.lt hC.eTwice)]; exact hC.eTwice, by rw [k1.old _ (hw.lt hC.eOver)]; exact hC.eOver⟩ hk s v
  refine ⟨A2, ?run, k1.trans c2⟩
  case run =>
    conv => lhs; whnf
    refine bind_of (cellsAt_of q1 _ _) ?_
    conv => lhs; whnf
    refine bind_of c1 ?_
    conv => lhs; whnf
    rfl

theorem lput_bad (lf : Nat) (p : Nat) {k : Nat} (h1 : 1 ≤ k) (h7 : k ≤ 7) {s v : Int} {g : Nat} (hb : badT k s v = some g) :
    ∃ A', kfn Tryd.bk.E call (Tryd.bk.inf 17) lf Tryd.f17 [ptr p, .agg #[.int .i64 (k : Nat), .int .u32 s, .int .u32 v]] A = some (errV g, A') ∧ Kp A A' := by
  let A1 : Hp := A.push (.arr 29 [.int .i64 (k : Nat), .int .u32 s, .int .u32 v] .own)
  have k1 : Kp A A1 := Kp.push hw _
  have q1 : A1.get A.next = some (.arr 29 [.int .i64 (k : Nat), .int .u32 s, .int .u32 v] .own) := Hp.get_push_same _ _
  obtain ⟨A2, c1, c2⟩ := hck.1 k1.wf (LCkp hw hC k1) h1 h7 s v
  rw [hb] at c1
  refine ⟨A2, ?run, k1.trans c2⟩
  case run =>
    conv => lhs; whnf
    refine bind_of (cellsAt_of q1 _ _) ?_
    conv => lhs; whnf
    refine bind_of c1 ?_
    conv => lhs; whnf
    rfl

/-- up to the look into the map -/
theorem lput_pre {k : Nat} (h1 : 1 ≤ k) (h7 : k ≤ 7) {s v : Int} (hb : badT k s v = none) :
    ∃ A2, call 63 [.agg #[.int .i64 (k : Nat), .int .u32 s, .int .u32 v]] (A.push (.arr 29 [.int .i64 (k : Nat), .int .u32 s, .int .u32 v] .own)) = some (.nilIface, A2) ∧
      (A2.push (.arr 111 [.int .i64 0, .int .u32 0] .own)).get A2.next = some (.arr 111 [.int .i64 0, .int .u32 0] .own) ∧
      Kp A ((A2.push (.arr 111 [.int .i64 0, .int .u32 0] .own)).set A2.next (some (.arr 111 [.int .i64 (k : Nat), .int .u32 s] .own))) ∧
      ((A2.push (.arr 111 [.int .i64 0, .int .u32 0] .own)).set A2.next (some (.arr 111 [.int .i64 (k : Nat), .int .u32 s] .own))).get A.next = some (.arr 29 [.int .i64 (k : Nat), .int .u32 s, .int .u32 v] .own) ∧
      ((A2.push (.arr 111 [.int .i64 0, .int .u32 0] .own)).set A2.next (some (.arr 111 [.int .i64 (k : Nat), .int .u32 s] .own))).get A2.next = some (.arr 111 [.int .i64 (k : Nat), .int .u32 s] .own) ∧ A2.get A.next = some (.arr 29 [.int .i64 (k : Nat), .int .u32 s, .int .u32 v] .own) ∧
      ((A2.push (.arr 111 [.int .i64 0, .int .u32 0] .own)).set A2.next (some (.arr 111 [.int .i64 (k : Nat), .int .u32 s] .own))).next = A2.next + 1 ∧ A.next < A2.next := by
  let A1 : Hp := A.push (.arr 29 [.int .i64 (k : Nat), .int .u32 s, .int .u32 v] .own)
  have k1 : Kp A A1 := Kp.push hw _
  have n1 : A1.next = A.next + 1 := by simp [A1]
  have q1 : A1.get A.next = some (.arr 29 [.int .i64 (k : Nat), .int .u32 s, .int .u32 v] .own) := Hp.get_push_same _ _
  obtain ⟨A2, c1, c2⟩ := hck.1 k1.wf (LCkp hw hC k1) h1 h7 s v
  rw [hb] at c1
  have n2 := c2.nx
  have q2 : A2.get A.next = some (.arr 29 [.int .i64 (k : Nat), .int .u32 s, .int .u32 v] .own) := by rw [c2.old _ (by omega)]; exact q1
  have k23 : Kp A2 ((A2.push (.arr 111 [.int .i64 0, .int .u32 0] .own)).set A2.next (some (.arr 111 [.int .i64 (k : Nat), .int .u32 s] .own))) := (Kp.push c2.wf _).set (Hp.get_push_same _ _) (Nat.le_refl _) _
  exact ⟨A2, c1, Hp.get_push_same _ _, (k1.trans c2).trans k23, by rw [k23.old _ (by omega)]; exact q2, Hp.get_set_same _ _ _, q2, by simp, by omega⟩

include h in
theorem lput_twice (lf : Nat) {k : Nat} (h1 : 1 ≤ k) (h7 : k ≤ 7) {s v : Int} (hb : badT k s v = none) {j i : Nat} (hf : findI k s M 0 = some (j, i)) (ho : onceB k = true) :
    ∃ A', kfn Tryd.bk.E call (Tryd.bk.inf 17) lf Tryd.f17 [ptr p, .agg #[.int .i64 (k : Nat), .int .u32 s, .int .u32 v]] A = some (errV 2, A') ∧ Kp A A' := by
  have q1 : (A.push (.arr 29 [.int .i64 (k : Nat), .int .u32 s, .int .u32 v] .own)).get A.next = some (.arr 29 [.int .i64 (k : Nat), .int .u32 s, .int .u32 v] .own) := Hp.get_push_same _ _
  obtain ⟨A2, c1, z2, k3, q3, g3, q2, n3, n2⟩ := lput_pre hck hw hC h1 h7 hb
  let A3 : Hp := (A2.push (.arr 111 [.int .i64 0, .int .u32 0] .own)).set A2.next (some (.arr 111 [.int .i64 (k : Nat), .int .u32 s] .own))
  have L3 : IsLane A3 p mi io lv es M := h.kp hw k3
  have C3 : LC A3 := LCkp hw hC k3
  have hlk := look_at L3.hm k s
  rw [show lookV M k s = ptr i by unfold lookV; rw [hf]; rfl] at hlk
  have e3 : ((k : Nat) : Int) < ((8 : Nat) : Int) := by omega
  have hon := once_at (k := k) (by omega)
  rw [ho] at hon
  refine ⟨A3, ?run, k3⟩
  case run =>
    conv => lhs; whnf
    refine bind_of (cellsAt_of q1 _ _) ?_
    conv => lhs; whnf
    refine bind_of c1 ?_
    conv => lhs; whnf
    refine bind_of (cellsAt_of q2 _ _) ?_
    conv => lhs; whnf
    refine bind_of (cellsAt_of q2 _ _) ?_
    conv => lhs; whnf
    refine bind_of (dstore_of z2 (t := 111) (o := 0) (cs' := [.int .i64 (k : Nat), .int .u32 s]) rfl) ?_
    conv => lhs; whnf
    refine bind_of (cellsAt_of L3.hp _ _) ?_
    conv => lhs; whnf
    refine bind_of (cellsAt_of g3 _ _) ?_
    conv => lhs; whnf
    refine bind_of hlk ?_
    refine bif_of (one_all L3.hm rfl) ?_
    conv => lhs; whnf
    refine bind_of (cellsAt_of q3 _ _) ?_
    conv => lhs; whnf
    rw [kdec e3]
    conv => lhs; whnf
    refine bind_of ((cellsAt_of C3.forms _ _).trans hon) ?_
    conv => lhs; whnf
    refine bind_of (cellsAt_of C3.eTwice _ _) ?_
    conv => lhs; whnf
    rfl
end
end Go.Dn.Ln
end
