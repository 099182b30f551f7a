/-
  Part of the abstract machine for this program.
-/
import Derived.Test.YtombnpednnngoaaDoorDnF
import Derived.LoopNIn
import Derived.OrdersIn
import Derived.RangeFuncIn
import Derived.RangeFuncSeq
import Derived.RangeFuncLeaves
import Derived.RangeFuncRecord
import Derived.RangeFuncCalls
import Derived.TacticsIn
import Derived.Below
import Derived.LoopN
import Derived.Scope

section
/-
  regions within a round of a range over a function
-/
namespace Go.Dn

/-- the wide fence, at a frame of a round or of none -/
def FW (r : Option Nat) : Fence := { Fence.wide with round := r }

theorem callsIn_FW {r : Option Nat} {n : Nat} {P : Program} {f : FuncId} {args : Array Value} {w : World} {R : Ending → World → Prop} : CallsIn (FW r) n P f args w R ↔ Calls P f args w R :=
  (show CallsIn (FW r) n P f args w R ↔ CallsIn Fence.wide n P f args w R from Iff.rfl).trans callsIn_wide

def noDefer (o : Oper) : Bool := match o.op with
  | .defer _ => false
  | _ => true

theorem semAt_of {r : Option Nat} {ρ : Operand → Value} {o : Oper} (h : noDefer o = true) : o.semAt r ρ = execOp ρ o := by
  cases r with
  | none => rfl
  | some l => exact Oper.semAt_some l ρ o fun c e => by unfold noDefer at h; rw [e] at h; cases h

theorem rowsIn_FW {r : Option Nat} {n : Nat} {P : Program} {row : String} {args : Array Value} {w : World} {R : Value → World → Prop} (h : Rows P row args w R) : RowsIn (FW r) n P row args w R :=
  fun c cs _ => let ⟨v, w', q, s⟩ := h c cs; ⟨v, w', q, stepsIn_wide.2 s⟩

theorem oper_in {r : Option Nat} {n : Nat} {P : Program} {o : Oper} {a : Act} {w : World} {K K' : Act → World → Prop} {Q Q' : Exit → Act → World → Prop} (hd : noDefer o = true) (h : o.wp P a w K Q)
    (hK : ∀ a w, K a w → K' a w) (hQ : ∀ e a w, Q e a w → Q' e a w) : o.wpIn (FW r) n P a w K' Q' := by
  refine ⟨fun _ _ => trivial, ?_⟩
  rw [semAt_of hd]
  unfold Oper.wp at h
  generalize (execOp a.eval o).run P w = x at h
  have hfw : (FW r).depth.isSome = true → 1 ≤ n := fun h => by cases h
  unfold Oper.upon at h
  unfold Oper.uponIn
  split at h
  · exact hK _ _ h
  · exact hK _ _ h
  · exact hK _ _ h
  · refine ⟨hfw, callsIn_FW.2 (h.mono fun e w'' he => ?_)⟩
    cases e with
    | returned v => exact hK _ _ he
    | panicked c => exact hQ _ _ _ he
    | outgrown => obtain ⟨x, y, z⟩ := he; exact ⟨x, y, hQ _ _ _ z⟩
  · obtain h := h
    refine ⟨hfw, rowsIn_FW ?_⟩
    exact fun c cs => let ⟨v, w', q, s⟩ := h c cs; ⟨v, w', hK _ _ q, s⟩
  · exact hQ _ _ _ h
  · exact h.elim

theorem wpOps_in {r : Option Nat} {n : Nat} {P : Program} {ops : Array Oper} {Q Q' : Exit → Act → World → Prop} (hd : ∀ o ∈ ops.toList, noDefer o = true) (hQ : ∀ e a w, Q e a w → Q' e a w) (hno : ¬ LetsOut Q) :
    ∀ (l : List Nat) (a : Act) (w : World), wpOps P ops Q l a w → wpOpsIn (FW r) n P ops Q' l a w
  | [], _, _, h => hQ _ _ _ h
  | i :: l, a, w, h => by
    simp only [wpOps, wpOpsIn] at h ⊢
    cases ho : ops[i]? with
    | none => rw [ho] at h; exact wpOps_in hd hQ hno l a w h
    | some o =>
      rw [ho] at h
      simp only at h ⊢
      cases hw : Region.wanted o (yielded ops a.tmps) with
      | true =>
        rw [hw] at h
        simp only [if_true] at h ⊢
        rcases h with h | h
        · exact oper_in (hd o (Array.mem_toList_iff.2 (Array.mem_of_getElem? ho))) h (fun a w h => wpOps_in hd hQ hno l a w h) hQ
        · exact absurd h.2 hno
      | false =>
        rw [hw] at h
        simp only [Bool.false_eq_true, if_false] at h ⊢
        exact ⟨fun _ _ => trivial, wpOps_in hd hQ hno l _ w h⟩

theorem wpAny_in {r : Option Nat} {n : Nat} {P : Program} {ops : Array Oper} {Q Q' : Exit → Act → World → Prop} (hd : ∀ o ∈ ops.toList, noDefer o = true) (hQ : ∀ e a w, Q e a w → Q' e a w) (hno : ¬ LetsOut Q) :
    ∀ (fuel : Nat) (listed : Array Bool) (a : Act) (w : World), wpAny P .any ops Q fuel listed a w → wpAnyIn (FW r) n P .any ops Q' fuel listed a w
  | 0, _, _, _, h => ⟨h.1, hQ _ _ _ h.2⟩
  | fuel + 1, listed, a, w, h => by
    refine ⟨fun h0 => hQ _ _ _ (h.1 h0), fun i hi => ?_⟩
    have := h.2 i hi
    unfold wpOp at this
    unfold wpOpIn
    cases ho : ops[i]? with
    | none => rw [ho] at this; exact wpAny_in hd hQ hno fuel _ a w this
    | some o =>
      rw [ho] at this
      simp only at this ⊢
      cases hw : Region.wanted o (yielded ops a.tmps) with
      | true =>
        rw [hw] at this
        simp only [if_true] at this ⊢
        rcases this with h | h
        · exact oper_in (hd o (Array.mem_toList_iff.2 (Array.mem_of_getElem? ho))) h (fun a w h => wpAny_in hd hQ hno fuel _ a w h) hQ
        · exact absurd h.2 hno
      | false =>
        rw [hw] at this
        simp only [Bool.false_eq_true, if_false] at this ⊢
        exact ⟨fun _ _ => trivial, wpAny_in hd hQ hno fuel _ _ w this⟩
end Go.Dn
end

section
/-
  a range over a function: what lies outside the abstract heap; what an iterator says
-/
namespace Go.Dn
open Go.RowKit

/-- block b is nobody's -/
structure Out [Reps] (A : Hp) (g : Gh) (b : Nat) : Prop where
  own : ¬ OwnX A g b
  seen : ¬ SeenX A g b
  ro : ¬ RoX A g b
  con : ¬ ConB b

section
variable [Reps] {P : Program}

theorem Out.ext {A A' : Hp} {g g' : Gh} {w w' : World} {b : Nat} (h : Out A g b) (hA : RelX P g A w) (hx : ExtX A g w A' g' w') (hb : b < w.heap.size) : Out A' g' b := by
  refine ⟨fun ho => ?_, fun hs => ?_, fun ⟨i, hi⟩ => ?_, h.con⟩
  · rcases hx.own b ho with h1 | h1
    · exact h.own h1
    · omega
  · rcases hx.seen b hs with h1 | h1 | h1 | h1
    · exact h.seen h1
    · exact h.own h1
    · omega
    · exact h.con h1
  · cases hi with
    | vis o p k1 k2 k5 k3 k4 =>
      have h1 := hx.ro i o k1 k2
      have hlt : i < A.next := by
        rcases Nat.lt_or_ge i A.next with h | h
        · exact h
        · have := (hA.rel.fresh i h).1; rw [this] at h1; cases h1
      rw [hx.old i hlt] at k3
      exact h.ro ⟨i, .vis o p h1 k2 k5 k3 k4⟩

theorem Out.fresh {A : Hp} {g : Gh} {w : World} (hA : RelX P g A w) {b : Nat} (hb : w.heap.size ≤ b) : Out A g b := by
  refine ⟨fun ⟨i, hi⟩ => ?_, fun ⟨i, hi⟩ => ?_, fun ⟨i, hi⟩ => ?_, fun ⟨i, p, h1, h2, h3⟩ => ?_⟩
  · have := OwnAt.lt hA hi; omega
  · have := SeenAt.lt hA hi; omega
  · have := RoAt.lt hA hi; omega
  · have := (hA.con.own i p h1 h2).1; omega

/-- the world is as before where anything lies -/
theorem RelX.same {g : Gh} {A : Hp} {w w' : World} (h : RelX P g A w) (hs : w.heap.size ≤ w'.heap.size) (hk : ∀ b, b < w.heap.size → OwnX A g b ∨ SeenX A g b ∨ RoX A g b ∨ ConB b → w'.heap[b]? = w.heap[b]?) : RelX P g A w' := by
  have hlt : ∀ b, OwnX A g b ∨ SeenX A g b ∨ RoX A g b ∨ ConB b → b < w.heap.size := by
    rintro b (⟨i, hi⟩ | ⟨i, hi⟩ | ⟨i, hi⟩ | ⟨i, p, h1, h2, h3⟩)
    · exact OwnAt.lt h hi
    · exact SeenAt.lt h hi
    · exact RoAt.lt h hi
    · have := (h.con.own i p h1 h2).1; omega
  have hk' : ∀ b, OwnX A g b ∨ SeenX A g b ∨ RoX A g b ∨ ConB b → w'.heap[b]? = w.heap[b]? := fun b hb => hk b (hlt b hb) hb
  refine ⟨h.rel.keepX hs fun b hb => hk' b ?_, fun i k x hi => ?_, h.sep, h.con.size hs fun b hb => hk' b (.inr (.inr (.inr hb)))⟩
  · rcases hb with hb | hb | hb
    · exact .inl hb
    · exact .inr (.inl hb)
    · exact .inr (.inr (.inl hb))
  · obtain ⟨p, hp, ha⟩ := h.abs i k x hi
    refine ⟨p, hp, ha.keep hs fun b hb => hk' b ?_⟩
    rcases hb with hb | hb
    · exact .inl ⟨i, .abs k x hi hb⟩
    · exact .inr (.inl ⟨i, .abs k x hi hb⟩)

theorem RelX.putOut {g : Gh} {A : Hp} {w : World} (h : RelX P g A w) {b : Nat} (hb : Out A g b) (o : Obj) : RelX P g A (w.putObj b o) := by
  refine h.same (by simp) fun c _ hc => World.putObj_heap_other ?_
  rintro rfl
  rcases hc with hc | hc | hc | hc
  · exact hb.own hc
  · exact hb.seen hc
  · exact hb.ro hc
  · exact hb.con hc

theorem RelX.grow {g : Gh} {A : Hp} {w w' : World} (h : RelX P g A w) (hb : Below w.heap.size w w') : RelX P g A w' :=
  h.same hb.size fun b hlt _ => hb.block b hlt

theorem ExtX.grow {A A' : Hp} {g g' : Gh} {w w1 w2 : World} (h : ExtX A g w A' g' w1) (hb : Below w1.heap.size w1 w2) : ExtX A g w A' g' w2 :=
  ⟨h.le, Nat.le_trans h.size hb.size, fun b k1 k2 => (hb.block b (Nat.lt_of_lt_of_le k1 h.size)).trans (h.keep b k1 k2), h.own, h.next, h.old, h.seen, h.ro, hb.os.trans h.os, hb.output.trans h.output, hb.tape.trans h.tape⟩

theorem ExtX.putNew {A A' : Hp} {g g' : Gh} {w w1 : World} (h : ExtX A g w A' g' w1) {b : Nat} (hb : w.heap.size ≤ b) (o : Obj) : ExtX A g w A' g' (w1.putObj b o) :=
  ⟨h.le, by simpa using h.size, fun c k1 k2 => (World.putObj_heap_other (by omega)).trans (h.keep c k1 k2), h.own, h.next, h.old, h.seen, h.ro, h.os, h.output, h.tape⟩

/-- the marks of the deferred calls of loops that are over -/
def MK (base : Nat) (ds : List Deferred) (A : Hp) (g : Gh) (w : World) : Prop :=
  ds.Pairwise (fun a b => a ≠ b) ∧ ∀ d ∈ ds, ∃ D, d = { target := .collected D, args := #[] } ∧ base ≤ D ∧ w.heap[D]? = some (.deferred (some [])) ∧ Out A g D

theorem MK.nil {base : Nat} {A : Hp} {g : Gh} {w : World} : MK base [] A g w := ⟨.nil, by simp⟩
theorem MK.ext {base : Nat} {ds : List Deferred} {A A' : Hp} {g g' : Gh} {w w' : World} (h : MK base ds A g w) (hA : RelX P g A w) (hx : ExtX A g w A' g' w') : MK base ds A' g' w' := by
  refine ⟨h.1, fun d hd => ?_⟩
  obtain ⟨D, e, h0, h1, h2⟩ := h.2 d hd
  have hlt : D < w.heap.size := (Array.getElem?_eq_some_iff.1 h1).1
  exact ⟨D, e, h0, (hx.keep D hlt h2.own).trans h1, h2.ext hA hx hlt⟩
theorem MK.put {base : Nat} {ds : List Deferred} {A : Hp} {g : Gh} {w : World} (h : MK base ds A g w) {l : Nat} {r : Loop} (hl : w.heap[l]? = some (.loop r)) (o : Obj) : MK base ds A g (w.putObj l o) := by
  refine ⟨h.1, fun d hd => ?_⟩
  obtain ⟨D, e, h0, h1, h2⟩ := h.2 d hd
  refine ⟨D, e, h0, (World.putObj_heap_other ?_).trans h1, h2⟩
  rintro rfl
  rw [hl] at h1; cases h1
end

/-- what an iterator's call says: rounds at the values xs, if the rounds leave some blocks alone -/
def SeqD (P : Program) (g : FuncId) (lb : Array Value) (xs : List (Array Value)) (keep : Nat → Prop) (w : World) : Prop :=
  ∀ (l : Nat) (J Jx : Nat → World → Prop) (W : World), w.heap.size ≤ W.heap.size → (∀ b, keep b → W.heap[b]? = w.heap[b]?) →
    (∀ k W1 W2, J k W1 → Below W1.heap.size W1 W2 → J k W2) → (∀ k W1 W2, Jx k W1 → Below W1.heap.size W1 W2 → Jx k W2) →
    (∀ k x W1, J k W1 → xs[k]? = some x → YieldAt Fence.wide 2 P l x W1 fun e W' =>
      (e = .returned (.bool true) ∧ J (k + 1) W' ∧ W1.heap.size ≤ W'.heap.size ∧ ∀ b, b < W1.heap.size → keep b → W'.heap[b]? = W1.heap[b]?) ∨ (e = .returned (.bool false) ∧ Jx (k + 1) W')) →
    J 0 W → CallsIn Fence.wide 3 P g (#[.func (.yield l) #[] #[]] ++ lb) W fun e W' => (∃ v, e = .returned v) ∧ (J xs.length W' ∨ ∃ k, Jx k W')

/-- the iterators of the table are what it says -/
def ItOK (P : Program) (E : Env) : Prop := ∀ g cap A ids ys, E.it g cap A = some (ids, ys) →
  (∃ x, P.funcs[g]? = some x ∧ x.body.isSome = true ∧ (x.name == "runtime.NumGoroutine") = false) ∧ (∀ i ∈ ids, ∃ o, A.get i = some o ∧ o.md = .own) ∧
  ∀ (ρ : Rn) (w : World) (cap' : Array Value), Rel P ρ A w → AR ρ cap.toArray cap' → ∃ xs : List (Array Value), xs.length = ys.length ∧
    (∀ (k : Nat) y x, ys[k]? = some y → xs[k]? = some x → AR ρ y.toArray x) ∧ SeqD P g cap' xs (fun b => ∃ i p, i ∈ ids ∧ ρ i = some p ∧ p.blk = b) w

theorem itOK_none {P : Program} {E : Env} (h : E.it = fun _ _ _ => none) : ItOK P E := fun g cap A ids ys hg => by rw [h] at hg; cases hg
end Go.Dn
end

section
namespace Go.Dn
open Go.RowKit

/-! ## code -/
inductive Ex where
  | normal
  | exit (id : Nat)
  | ret

def Ex.to : Ex → Exit
  | .normal => .normal
  | .exit id => .exit id
  | .ret => .ret

abbrev Inf := Nat → Option (List Nat × List Nat)

/-- what is kept from round to round -/
def keepSl (ks : Option (List Nat)) (σ : Sl) : Sl := match ks with
  | none => σ
  | some l => σ.filter fun x => l.elem x.1

def firstReg : Code → Nat
  | .region id _ _ => id
  | .seq a _ => firstReg a
  | .cond _ a _ => firstReg a
  | .block _ c => firstReg c
  | .loop c => firstReg c
  | .scope c => firstReg c
  | _ => 0

def keepOf (inf : Inf) (c : Code) : Option (List Nat) := (inf (1000000 + firstReg c)).map (·.1)

def keepC (inf : Inf) (c : Code) : Option (List Nat) := (inf (3000000 + firstReg c)).map (·.1)

def loopD (ks : Option (List Nat)) (f : Sl → Hp → Option (Ex × Sl × Hp)) : Nat → Sl → Hp → Option (Ex × Sl × Hp)
  | 0, _, _ => none
  | n + 1, σ, A => (f σ A).bind fun r => match r.1 with
    | .normal => loopD ks f n (keepSl ks r.2.1) r.2.2
    | e => some (e, keepSl ks r.2.1, r.2.2)

/-- the rounds of a range over a function -/
def rangeD (f : List Value → Hp → Option (Ex × Hp)) : List (List Value) → Hp → Option (Ex × Hp)
  | [], A => some (.normal, A)
  | y :: ys, A => (f y A).bind fun r => match r.1 with
    | .normal => rangeD f ys r.2
    | e => some (e, r.2)

def putsD (N : Nat) : List Nat → List Value → Sl → Option Sl
  | [], [], σ => some σ
  | p :: ps, v :: vs, σ => bif Nat.blt p N then putsD N ps vs (σ.put p v) else none
  | _, _, _ => none

def exec (E : Env) (call : CallT) (N : Nat) (inf : Inf) (lf : Nat) : Code → Sl → Hp → Option (Ex × Sl × Hp)
  | .skip, σ, A => some (.normal, σ, A)
  | .region id ops draw, σ, A => bif draw then (inf id).bind fun x => drawRun E call N ops ops.toList x.1 x.2 σ [] (fun σ A => some (.normal, σ, A)) A
      else runIx E call N ops.toList (List.range ops.size) σ (fun σ A => some (.normal, σ, A)) A
  | .seq a b, σ, A => (exec E call N inf lf a σ A).bind fun r => match r.1 with
    | .normal => exec E call N inf lf b r.2.1 r.2.2
    | _ => some r
  | .cond c a b, σ, A => (evO E σ c).bind fun v => match v with
    | .bool t => (bif t then exec E call N inf lf a σ A else exec E call N inf lf b σ A).bind fun r => some (r.1, keepSl (keepC inf a) r.2.1, r.2.2)
    | _ => none
  | .block id c, σ, A => (exec E call N inf lf c σ A).bind fun r => match r.1 with
    | .exit j => bif Nat.beq j id then some (.normal, r.2) else some r
    | _ => some r
  | .loop c, σ, A => loopD (keepOf inf c) (exec E call N inf lf c) lf (keepSl (keepOf inf c) σ) A
  | .exit id, σ, A => some (.exit id, σ, A)
  | .scope c, σ, A => exec E call N inf lf c σ A
  | .label _, σ, A => some (.normal, σ, A)
  | .ret, σ, A => some (.ret, σ, A)
  | .rangeFunc f ps assign body, σ, A => (evO E σ f).bind fun v => match v with
    | .func (.func g) first captured => match first.toList with
      | [] => (E.it g captured.toList A).bind fun x => (rangeD (fun vs A => (putsD N ps.toList vs σ).bind fun σ1 => (exec E call N inf lf assign σ1 A).bind fun r1 => match r1.1 with
          | .normal => (exec E call N inf lf body r1.2.1 r1.2.2).bind fun r2 => some (r2.1, r2.2.2)
          | _ => none) x.2 (hideL A x.1)).bind fun r => some (r.1, σ, r.2)
      | _ => none
    | _ => none
  | _, _, _ => none

def noRange : Code → Bool
  | .rangeFunc _ _ _ _ => false
  | .seq a b => noRange a && noRange b
  | .cond _ a b => noRange a && noRange b
  | .block _ c => noRange c
  | .loop c => noRange c
  | .scope c => noRange c
  | _ => true

def okCode (E : Env) (inf : Inf) : Code → Bool
  | .region id ops draw => ops.toList.all noDefer && (!draw || match inf id with
    | some x => statOk ops x.1 x.2 && bar E ops x.2
    | none => true)
  | .rangeFunc _ _ a b => (noRange a && noRange b) && (okCode E inf a && okCode E inf b)
  | .seq a b => okCode E inf a && okCode E inf b
  | .cond _ a b => okCode E inf a && okCode E inf b
  | .block _ c => okCode E inf c
  | .loop c => okCode E inf c
  | .scope c => okCode E inf c
  | _ => true

section
variable [Reps] {P : Program} {E : Env} {call : CallT} {N : Nat} {inf : Inf} {lf : Nat}

/-- what a run of code makes sure of -/
def Goes [Reps] (P : Program) (E : Env) (N : Nat) (c : Code) (f : Sl → Hp → Option (Ex × Sl × Hp)) : Prop :=
  ∀ (base : Nat) (r : Option Nat) (n : Nat) (ds : List Deferred) (ρ : Gh) (σ : Sl) (A : Hp) (a : Act) (w : World) (e : Ex) (σ' : Sl) (A' : Hp) (Q : Exit → Act → World → Prop), (r = none ∨ noRange c = true) → base ≤ w.heap.size →
    SS P E N ds ρ σ A a w → MK base ds A ρ w → f σ A = some (e, σ', A') →
    (∀ ds' ρ' a' w', SS P E N ds' ρ' σ' A' a' w' → ExtX A ρ w A' ρ' w' → MK base ds' A' ρ' w' → Q e.to a' w') → c.wpIn (FW r) n P Q a w

theorem SS.keep {ds : List Deferred} {ρ : Gh} {σ : Sl} {A : Hp} {a : Act} {w : World} (h : SS P E N ds ρ σ A a w) (ks : Option (List Nat)) : SS P E N ds ρ (keepSl ks σ) A a w := by
  cases ks with
  | none => exact h
  | some l =>
    refine ⟨⟨h.sr.size, fun t v hv => h.sr.get t v ?_, h.sr.defers, h.sr.glob⟩, h.rel⟩
    have key : ∀ (σ : Sl), Sl.get (σ.filter fun x => l.elem x.1) t = some v → Sl.get σ t = some v := by
      intro σ
      induction σ with
      | nil => intro h; exact h
      | cons x σ ih =>
        obtain ⟨u, y⟩ := x
        intro hh
        simp only [List.filter_cons] at hh
        split at hh
        · simp only [Sl.get] at hh ⊢
          cases hb : Nat.beq u t with
          | true => rw [hb] at hh; exact hh
          | false => rw [hb] at hh; exact ih hh
        · rename_i hne
          simp only [Sl.get]
          cases hb : Nat.beq u t with
          | true =>
            exfalso
            have hut : u = t := by simpa using hb
            subst hut
            have hno : ∀ (τ : Sl), Sl.get (τ.filter fun x => l.elem x.1) u = none := by
              intro τ
              induction τ with
              | nil => rfl
              | cons z τ ih2 =>
                obtain ⟨z1, z2⟩ := z
                simp only [List.filter_cons]
                split
                · rename_i hz
                  simp only [Sl.get]
                  have : z1 ≠ u := fun e => by subst e; exact hne hz
                  rw [Tr.beq_ff this]
                  exact ih2
                · exact ih2
            rw [hno] at hh; cases hh
          | false => exact ih hh
    exact key σ hv

theorem goes_loop {c : Code} {f : Sl → Hp → Option (Ex × Sl × Hp)} (h : Goes P E N c f) (ks : Option (List Nat)) (n : Nat) : Goes P E N (.loop c) (loopD ks f n) := by
  intro base r m ds ρ σ A a w e σ' A' Q hr hbs hs hM hf hk
  refine wpIn_loop_rounds n ?_
  induction n generalizing ds ρ σ A a w with
  | zero => cases hf
  | succ n ih =>
    simp only [loopD] at hf
    replace hf := bind_some hf
    obtain ⟨⟨e1, σ1, A1⟩, h1, hf⟩ := hf
    rw [roundsIn_succ]
    refine h base r m ds ρ σ A a w e1 σ1 A1 _ hr hbs hs hM h1 fun ds1 ρ1 a1 w1 hs1 hx1 hM1 => ?_
    cases e1 with
    | normal =>
      simp only at hf
      exact ih ds1 ρ1 _ A1 a1 w1 (Nat.le_trans hbs hx1.size) (hs1.keep ks) hM1 hf fun ds' ρ' a' w' hs' hx' hM' => hk ds' ρ' a' w' hs' (hx1.trans hx') hM'
    | exit id =>
      cases hf
      exact hk ds1 ρ1 a1 w1 (hs1.keep ks) hx1 hM1
    | ret =>
      cases hf
      exact hk ds1 ρ1 a1 w1 (hs1.keep ks) hx1 hM1

omit [Reps] in
theorem wpIn_scope_straight {r : Option Nat} {n : Nat} {c : Code} {Q : Exit → Act → World → Prop} {a : Act} {w : World} (h : c.wpIn (FW r) n P (Exit.noGoto Q) a w) : (Code.scope c).wpIn (FW r) n P Q a w := by
  intro b k cs hro hb hr
  have h0 : StepsIn (Machine.fenced P (FW r)) P (lone (b.atR a (.code (.scope c) :: k)) cs w) (lone (b.atR a (.code c :: .inScope c :: k)) cs w) := .one (fenced_calm hb hr rfl) (step_lone_go (by simp [stepG, stepG.exec, Frame.atR]))
  have h1 : ∀ a w, StepsIn (Machine.fenced P (FW r)) P (lone (b.atR a (.inScope c :: k)) cs w) (lone (b.atR a k) cs w) := fun a w => .one (fenced_calm hb hr rfl) (step_lone_go (by simp [stepG, stepG.exec, Frame.atR]))
  obtain ⟨e, a₁, w₁, hq, harr⟩ := h b (.inScope c :: k) cs hro hb hr
  cases e with
  | normal => exact ⟨.normal, a₁, w₁, hq, StepsIn.trans h0 (StepsIn.trans harr (h1 _ _))⟩
  | exit id => exact ⟨.exit id, a₁, w₁, hq, fun k' hk => StepsIn.trans h0 (harr.1 k' (by simp [exitTo, hk])), fun hr' hk => let ⟨k₁, q1, q2⟩ := harr.2 hr' (by simp [exitTo, hk]); ⟨k₁, q1, StepsIn.trans h0 q2⟩⟩
  | goto l => exact hq.elim
  | ret => exact ⟨_, a₁, w₁, hq, .of_steps h0 harr⟩
  | panic ch => exact ⟨_, a₁, w₁, hq, .of_steps h0 harr⟩
  | outgrown => exact ⟨_, a₁, w₁, hq, .of_steps h0 harr⟩

omit [Reps] in
theorem putsD_sound {ds : List Deferred} {ρ : Rn} : ∀ {ps : List Nat} {vs xs : List Value} {σ σ1 : Sl} {a : Act}, SR P E ρ N ds σ a → putsD N ps vs σ = some σ1 → AR ρ vs.toArray xs.toArray →
    SR P E ρ N ds σ1 { a with tmps := (ps.zip xs).foldl (fun t (p, v) => t.setIfInBounds p v) a.tmps }
  | [], [], xs, σ, σ1, a, h, hp, hx => by cases hp; simpa using h
  | p :: ps, v :: vs, [], σ, σ1, a, h, hp, hx => by have := hx.1; simp at this
  | p :: ps, v :: vs, x :: xs, σ, σ1, a, h, hp, hx => by
    simp only [putsD] at hp
    cases hb : Nat.blt p N with
    | false => rw [hb] at hp; cases hp
    | true =>
      rw [hb] at hp
      simp only [cond_true] at hp
      have h1 := h.put (d := p) (by simpa [Nat.blt_eq] using hb) (hx.2 0 v x rfl rfl)
      have := putsD_sound (xs := xs) h1 hp ⟨by have := hx.1; simpa using this, fun j u y hu hy => hx.2 (j + 1) u y (by simpa using hu) (by simpa using hy)⟩
      exact this
  | [], _ :: _, _, _, _, _, _, hp, _ => by cases hp
  | _ :: _, [], _, _, _, _, _, hp, _ => by cases hp

omit [Reps] in
theorem zip_fold (ps : Array Nat) (xs : Array Value) (t : Array Value) : (ps.zip xs).foldl (fun t (p, v) => t.setIfInBounds p v) t = (ps.toList.zip xs.toList).foldl (fun t (p, v) => t.setIfInBounds p v) t := by
  rw [← Array.foldl_toList, Array.toList_zip]

omit [Reps] in
theorem putsD_len : ∀ {ps : List Nat} {vs : List Value} {σ σ1 : Sl}, putsD N ps vs σ = some σ1 → vs.length = ps.length
  | [], [], _, _, _ => rfl
  | p :: ps, v :: vs, σ, σ1, h => by
    simp only [putsD] at h
    cases hb : Nat.blt p N with
    | false => rw [hb] at h; cases h
    | true => rw [hb] at h; simp only [cond_true] at h; simp [putsD_len h]
  | [], _ :: _, _, _, h => by cases h
  | _ :: _, [], _, _, h => by cases h

def Ex.code : Ex → Code
  | .normal => .skip
  | .exit id => .exit id
  | .ret => .ret

theorem goes_range (hIt : ItOK P E) {fo : Operand} {ps : Array Tmp} {assign body : Code} (hna : noRange assign = true) (hnb : noRange body = true)
    (ha : Goes P E N assign (exec E call N inf lf assign)) (hb : Goes P E N body (exec E call N inf lf body)) :
    Goes P E N (.rangeFunc fo ps assign body) (exec E call N inf lf (.rangeFunc fo ps assign body)) := by
  intro base r n ds ρ σ A a w e σ' A' Q hr hbs hs hM hf hk
  obtain rfl : r = none := hr.resolve_right (by simp [noRange])
  simp only [exec] at hf
  replace hf := bind_some hf
  obtain ⟨v, h1, hf⟩ := hf
  split at hf
  case h_2 => cases hf
  rename_i g first captured
  split at hf
  case h_2 => cases hf
  rename_i hfirst
  replace hf := bind_some hf
  obtain ⟨⟨ids, ys⟩, h2, hf⟩ := hf
  replace hf := bind_some hf
  obtain ⟨⟨e0, A0⟩, h3, hf⟩ := hf
  obtain ⟨rfl, rfl, rfl⟩ : e = e0 ∧ σ = σ' ∧ A' = A0 := by cases hf; exact ⟨rfl, rfl, rfl⟩
  simp only at h3
  obtain ⟨⟨fx, fx1, fx2, fx3⟩, hown, hit⟩ := hIt g _ A ids ys h2
  have hv := evO_sound hs.sr h1
  generalize hg : a.eval fo = f' at hv
  cases hv with
  | func _ _ bs _ dcap k1 k2 k3 k4 =>
  have hbs0 : bs = #[] := by
    have : first.size = 0 := by have := congrArg List.length hfirst; simpa using this
    exact Array.eq_empty_of_size_eq_zero (by omega)
  subst hbs0
  obtain ⟨xs, hlen, hval, hseq⟩ := hit ρ.ρ w dcap hs.rel.rel (by rw [Array.toArray_toList]; exact ⟨k3, k4⟩)
  have hbody : fx.body.isNone = false := by
    cases hb : fx.body with
    | none => rw [hb] at fx2; cases fx2
    | some c => rfl
  have eg : ∀ args w, (callFunc g args).run P w = .ok (.enter g args) w := fun args w => by
    simp only [callFunc, run_program, Sem.run_bind, Sem.run_pure, Result.andThen_ok, fx1, fx3, Bool.false_eq_true, if_false, hbody]
  obtain ⟨fb, hfb⟩ : ∃ fb : List Value → Hp → Option (Ex × Hp), fb = (fun vs A => (putsD N ps.toList vs σ).bind fun σ1 => (exec E call N inf lf assign σ1 A).bind fun r1 => match r1.1 with
          | .normal => (exec E call N inf lf body r1.2.1 r1.2.2).bind fun r2 => some (r2.1, r2.2.2)
          | _ => none) := ⟨_, rfl⟩
  rw [← hfb] at h3
  refine wpIn_rangeFunc fun fn _ => ?_
  obtain ⟨rec, hrec⟩ : ∃ rec : LoopState → Option Code → Loop, rec = fun st pe => { state := st, pending := pe, fn, tmps := a.tmps, params := ps, assign, body, defers := w.heap.size } := ⟨_, rfl⟩
  obtain ⟨W1, hW1⟩ : ∃ W1, (w.alloc (.deferred (some []))).alloc (.loop (rec .ready none)) = W1 := ⟨_, rfl⟩
  have hL1 : W1.heap[w.heap.size + 1]? = some (.loop (rec .ready none)) := by
    rw [← hW1]; have := World.alloc_heap_new (w.alloc (.deferred (some []))) (.loop (rec .ready none)); rwa [World.size_alloc] at this
  have hK1 : W1.heap[w.heap.size]? = some (.deferred (some [])) := by
    rw [← hW1]; exact (Below.heap_alloc _ _ _ (by simp)).trans (World.alloc_heap_new w _)
  have hB1 : Below w.heap.size w W1 := by
    rw [← hW1]; exact ((Below.refl _ w).alloc (Nat.le_refl _) _).alloc (by simp) _
  have hR0 : RelX P ρ (hideL A ids) w := hs.rel.sub (by rw [hideL_next]; exact Nat.le_refl _) fun i o hi => by
    rw [hideL_get] at hi
    split at hi
    · cases hi
    · exact hi
  have hX0 : ExtX A ρ w (hideL A ids) ρ w := (ExtX.refl A ρ w).sub (by rw [hideL_next]; exact Nat.le_refl _) fun i o hi => by
    rw [hideL_get] at hi
    split at hi
    · cases hi
    · exact hi
  let keep : Nat → Prop := fun b => ∃ i p, i ∈ ids ∧ ρ.ρ i = some p ∧ p.blk = b
  have hkeep : ∀ b, keep b → b < w.heap.size ∧ ¬ OwnX (hideL A ids) ρ b := by
    rintro b ⟨i, p, hi, hp, rfl⟩
    obtain ⟨o, ho, hm⟩ := hown i hi
    have hat : OwnAt A ρ i p.blk := .vis o p ho hm hp rfl
    refine ⟨OwnAt.lt hs.rel hat, fun ⟨j, hj⟩ => ?_⟩
    have hj' : OwnAt A ρ j p.blk ∧ j ∉ ids := by
      cases hj with
      | vis o' p' q1 q2 q3 q4 =>
        rw [hideL_get] at q1
        split at q1
        · cases q1
        · rename_i hn; exact ⟨.vis o' p' q1 q2 q3 q4, hn⟩
      | abs k x q1 q2 =>
        rw [hideL_get] at q1
        split at q1
        · cases q1
        · rename_i hn; exact ⟨.abs k x q1 q2, hn⟩
    have := hs.rel.sep.oo i j _ hat hj'.1
    subst this
    exact hj'.2 hi
  let Base : Hp → Gh → World → Prop := fun Ak gk W => RelX P gk Ak W ∧ ExtX A ρ w Ak gk W ∧ W.heap[w.heap.size]? = some (.deferred (some [])) ∧ Out Ak gk (w.heap.size + 1) ∧ Out Ak gk w.heap.size ∧ ∀ b, keep b → ¬ OwnX Ak gk b
  have base_grow : ∀ Ak gk W W2, Base Ak gk W → Below W.heap.size W W2 → Base Ak gk W2 := fun Ak gk W W2 ⟨q1, q2, q3, q4, q5, q6⟩ hb =>
    ⟨q1.grow hb, q2.grow hb, (hb.block _ (Array.getElem?_eq_some_iff.1 q3).1).trans q3, q4, q5, q6⟩
  have base_put : ∀ Ak gk W (o : Obj), Base Ak gk W → Base Ak gk (W.putObj (w.heap.size + 1) o) := fun Ak gk W o ⟨q1, q2, q3, q4, q5, q6⟩ =>
    ⟨q1.putOut q4 o, q2.putNew (by omega) o, (World.putObj_heap_other (by omega)).trans q3, q4, q5, q6⟩
  have base_ext : ∀ Ak gk W A2 g2 W2, Base Ak gk W → w.heap.size + 1 < W.heap.size → RelX P g2 A2 W2 → ExtX Ak gk W A2 g2 W2 → Base A2 g2 W2 := fun Ak gk W A2 g2 W2 ⟨q1, q2, q3, q4, q5, q6⟩ hlt k1 k2 =>
    ⟨k1, q2.trans k2, (k2.keep _ (by omega) q5.own).trans q3, q4.ext q1 k2 hlt, q5.ext q1 k2 (by omega), fun b hb ho => by
      rcases k2.own b ho with h | h
      · exact q6 b hb h
      · have := (hkeep b hb).1; have := q2.size; omega⟩
  let J : Nat → World → Prop := fun k W => ∃ Ak gk, rangeD fb (ys.drop k) Ak = some (e, A') ∧ Base Ak gk W ∧ W.heap[w.heap.size + 1]? = some (.loop (rec .ready none))
  let Jx : Nat → World → Prop := fun _ W => ∃ gk, e ≠ .normal ∧ Base A' gk W ∧ W.heap[w.heap.size + 1]? = some (.loop (rec .done (some e.code)))
  refine ⟨w.heap.size + 1, [{ target := .collected w.heap.size, args := #[] }], W1, { target := .fn (.func g) dcap, args := #[.func (.yield (w.heap.size + 1)) #[] #[]] }, W1, g,
    #[.func (.yield (w.heap.size + 1)) #[] #[]] ++ dcap, W1, ?_, ?_, fun _ _ => trivial, ?_, fun h => (by cases h), ?_⟩
  · rw [← hW1, hrec]; exact run_enterLoop_outer _ _ _ _ _
  · simp only [resolve, hg]
    simp [go_sem]
  · simp [invoke, go_sem, eg]
  · refine callsIn_FW.2 ?_
    refine (callsIn_wide.1 (hseq (w.heap.size + 1) J Jx W1 hB1.size (fun b hb => hB1.block b (hkeep b hb).1) ?_ ?_ ?_ ?_)).mono ?_
    · rintro k W W2 ⟨Ak, gk, q1, q2, q3⟩ hb
      exact ⟨Ak, gk, q1, base_grow _ _ _ _ q2 hb, (hb.block _ (Array.getElem?_eq_some_iff.1 q3).1).trans q3⟩
    · rintro k W W2 ⟨gk, q1, q2, q3⟩ hb
      exact ⟨gk, q1, base_grow _ _ _ _ q2 hb, (hb.block _ (Array.getElem?_eq_some_iff.1 q3).1).trans q3⟩
    · -- a round
      rintro k x W ⟨Ak, gk, q1, q2, hl⟩ hx
      have hkl : k < ys.length := by rw [← hlen]; exact (List.getElem?_eq_some_iff.1 hx).1
      have hdrop : ys.drop k = ys[k] :: ys.drop (k + 1) := List.drop_eq_getElem_cons hkl
      rw [hdrop] at q1
      simp only [rangeD] at q1
      replace q1 := bind_some q1
      obtain ⟨⟨e1, A3⟩, q4, q5⟩ := q1
      rw [hfb] at q4
      replace q4 := bind_some q4
      obtain ⟨σ1, p1, q4⟩ := q4
      replace q4 := bind_some q4
      obtain ⟨⟨ea, σ2, A2⟩, p2, q4⟩ := q4
      cases ea with
      | exit id => cases q4
      | ret => cases q4
      | normal =>
      simp only at q4
      replace q4 := bind_some q4
      obtain ⟨⟨eb, σ3, A4⟩, p3, q4⟩ := q4
      obtain ⟨rfl, rfl⟩ : e1 = eb ∧ A3 = A4 := by cases q4; exact ⟨rfl, rfl⟩
      simp only at q5
      have hAR := hval k ys[k] x (by simp [hkl]) hx
      have hAR' : AR gk.ρ ys[k].toArray x.toList.toArray := by
        rw [Array.toArray_toList]
        exact ⟨hAR.1, fun j u y hu hy => (hAR.2 j u y hu hy).le q2.2.1.le⟩
      have hps : x.size = ps.size := by
        have h1 := hAR.1
        have h2 := putsD_len p1
        simp at h1 h2
        omega
      have hy := run_yield (P := P) (args := x) hl (by rw [hrec]; exact hps)
      rw [hrec] at hy
      have hlt : w.heap.size + 1 < W.heap.size := (Array.getElem?_eq_some_iff.1 hl).1
      have hsr0 : SR P E gk.ρ N [] σ { tmps := a.tmps, defers := [] } := ⟨hs.sr.size, fun t v hv => let ⟨v', a1, a2⟩ := hs.sr.get t v hv; ⟨v', a1, a2.le q2.2.1.le⟩, rfl, fun g hg => let ⟨p, a1, a2⟩ := hs.sr.glob g hg; ⟨p, q2.2.1.le _ _ a1, a2⟩⟩
      have hsr1 := putsD_sound hsr0 p1 hAR'
      rw [← zip_fold] at hsr1
      refine ⟨fn, _, assign, body, hy, roundIn_of_wpIn trivial ?_⟩
      refine ha base (some (w.heap.size + 1)) 2 [] gk σ1 Ak _ W .normal σ2 A2 _ (.inr hna) (Nat.le_trans hbs q2.2.1.size) ⟨hsr1, q2.1⟩ MK.nil p2 fun ds2 ρ2 a2 w2 hs2 hx2 hM2 => ?_
      have hl2 : w2.heap[w.heap.size + 1]? = some (.loop (rec .ready none)) := (hx2.keep _ hlt q2.2.2.2.1.own).trans hl
      have b2 := base_ext _ _ _ _ _ _ q2 hlt hs2.rel hx2
      have hlt2 : w.heap.size + 1 < w2.heap.size := Nat.lt_of_lt_of_le hlt hx2.size
      refine ⟨_, run_beginRound hl2 (by rw [hrec]), ?_⟩
      have b3 := base_put _ _ _ (.loop { rec .ready none with state := .busy }) b2
      have hl3 : (w2.putObj (w.heap.size + 1) (.loop { rec .ready none with state := .busy })).heap[w.heap.size + 1]? = some (.loop { rec .ready none with state := .busy }) := World.putObj_heap_same hlt2
      refine hb base (some (w.heap.size + 1)) 2 ds2 ρ2 σ2 A2 a2 _ e1 σ3 A3 _ (.inr hnb) (Nat.le_trans hbs (Nat.le_trans q2.2.1.size (Nat.le_trans hx2.size (by simp)))) ⟨hs2.sr, b3.1⟩ (hM2.put hl2 _) p3 fun ds4 ρ4 a4 w4 hs4 hx4 hM4 => ?_
      have hlt3 : w.heap.size + 1 < (w2.putObj (w.heap.size + 1) (.loop { rec .ready none with state := .busy })).heap.size := by simpa using hlt2
      have hl4 : w4.heap[w.heap.size + 1]? = some (.loop { rec .ready none with state := .busy }) := (hx4.keep _ hlt3 b3.2.2.2.1.own).trans hl3
      have b4 := base_ext _ _ _ _ _ _ b3 hlt3 hs4.rel hx4
      have hlt4 : w.heap.size + 1 < w4.heap.size := Nat.lt_of_lt_of_le hlt3 hx4.size
      have fin : ∀ jump : Option Code, (Instr.endRound (w.heap.size + 1) jump).run P w4 = .ok (.bool jump.isNone) (w4.putObj (w.heap.size + 1) (.loop (rec (if jump.isNone then .ready else .done) jump))) ∧
          (w4.putObj (w.heap.size + 1) (.loop (rec (if jump.isNone then .ready else .done) jump))).heap[w.heap.size + 1]? = some (.loop (rec (if jump.isNone then .ready else .done) jump)) := fun jump => by
        have := run_endRound (P := P) jump hl4
        rw [hrec] at this ⊢
        exact ⟨this, World.putObj_heap_same hlt4⟩
      cases e1 with
      | normal =>
        obtain ⟨f1, f2⟩ := fin none
        refine ⟨_, _, f1, .inl ⟨rfl, ⟨A3, ρ4, q5, base_put _ _ _ _ b4, f2⟩, by have := hx2.size; have := hx4.size; simp at *; omega, fun b hbl hb => ?_⟩⟩
        have hk1 := q2.2.2.2.2.2 b hb
        have hk3 := b3.2.2.2.2.2 b hb
        have hbw := (hkeep b hb).1
        rw [World.putObj_heap_other (by omega), hx4.keep b (by have := hx2.size; simp; omega) hk3, World.putObj_heap_other (by omega), hx2.keep b hbl hk1]
      | exit id =>
        cases q5
        obtain ⟨f1, f2⟩ := fin (some (.exit id))
        exact ⟨_, _, f1, .inr ⟨rfl, ρ4, by simp, base_put _ _ _ _ b4, f2⟩⟩
      | ret =>
        cases q5
        obtain ⟨f1, f2⟩ := fin (some .ret)
        exact ⟨_, _, f1, .inr ⟨rfl, ρ4, by simp, base_put _ _ _ _ b4, f2⟩⟩
    · exact ⟨hideL A ids, ρ, h3, ⟨hR0.grow hB1, hX0.grow hB1, hK1, .fresh hR0 (by omega), .fresh hR0 (Nat.le_refl _), fun b hb => (hkeep b hb).2⟩, hL1⟩
    · -- behind the iterator
      have last : ∀ gk W st pe, st ≠ .busy → Base A' gk W → W.heap[w.heap.size + 1]? = some (.loop (rec st pe)) → (Instr.endLoop (w.heap.size + 1)).run P W = .ok pe (W.putObj (w.heap.size + 1) (.loop (rec .exhausted pe))) ∧
          Q e.to { a with defers := [{ target := .collected w.heap.size, args := #[] }] ++ a.defers } (W.putObj (w.heap.size + 1) (.loop (rec .exhausted pe))) := by
        intro gk W st pe hst hB hl
        have hB' := base_put _ _ _ (.loop (rec .exhausted pe)) hB
        refine ⟨?_, hk ({ target := .collected w.heap.size, args := #[] } :: ds) gk _ _ ⟨⟨hs.sr.size, fun t v hv => let ⟨v', a1, a2⟩ := hs.sr.get t v hv; ⟨v', a1, a2.le hB.2.1.le⟩, ?_, fun g hg => let ⟨p, a1, a2⟩ := hs.sr.glob g hg; ⟨p, hB.2.1.le _ _ a1, a2⟩⟩, hB'.1⟩ hB'.2.1 ?_⟩
        · have := run_endLoop (P := P) hl (by rw [hrec]; exact hst)
          rw [hrec] at this ⊢
          exact this
        · show _ :: a.defers = _
          rw [hs.sr.defers]
        · refine ⟨List.pairwise_cons.2 ⟨fun d hd => ?_, hM.1⟩, fun d hd => ?_⟩
          · obtain ⟨D, e1, e2, e3, _⟩ := hM.2 d hd
            subst e1
            intro e4
            have : w.heap.size = D := by
              simp only [Deferred.mk.injEq, Target.collected.injEq, and_true] at e4
              exact e4
            have := (Array.getElem?_eq_some_iff.1 e3).1
            omega
          · rcases List.mem_cons.1 hd with rfl | hd
            · exact ⟨w.heap.size, rfl, hbs, hB'.2.2.1, hB'.2.2.2.2.1⟩
            · obtain ⟨D, e1, e2, e3, e4⟩ := hM.2 d hd
              have hlt := (Array.getElem?_eq_some_iff.1 e3).1
              exact ⟨D, e1, e2, (hB'.2.1.keep D hlt e4.own).trans e3, e4.ext hs.rel hB'.2.1 hlt⟩
      rintro e' W2 ⟨⟨v, rfl⟩, (⟨Ak, gk, q1, q2, q3⟩ | ⟨k, gk, q1, q2, q3⟩)⟩
      · rw [hlen, List.drop_length] at q1
        simp only [rangeD, Option.some.injEq, Prod.mk.injEq] at q1
        obtain ⟨rfl, rfl⟩ := q1
        obtain ⟨k1, k2⟩ := last gk W2 .ready none (by simp) q2 q3
        exact ⟨none, _, k1, k2⟩
      · obtain ⟨k1, k2⟩ := last gk W2 .done _ (by simp) q2 q3
        refine ⟨_, _, k1, ?_⟩
        cases e with
        | normal => exact absurd rfl q1
        | exit id => exact wpIn_exit k2
        | ret => exact wpIn_ret k2

theorem exec_sound (hT : E.T.ok P) (hIt : ItOK P E) (hm : P.follows .mixedOrders = true) (hC : CallOK P call) : ∀ (c : Code), okCode E inf c = true → Goes P E N c (exec E call N inf lf c) := by
  intro c
  induction c with
  | skip =>
    intro _ base r n ds ρ σ A a w e σ' A' Q hr hbs hs hM hf hk
    cases hf
    exact wpIn_skip (hk _ _ _ _ hs (ExtX.refl _ _ _) hM)
  | region id ops draw =>
    intro hok base r n ds ρ σ A a w e σ' A' Q hr hbs hs hM hf hk
    simp only [okCode, Bool.and_eq_true, List.all_eq_true] at hok
    have hQ : ∀ e a w, (fun (e : Exit) a w => e = .normal ∧ Q e a w) e a w → Q e a w := fun _ _ _ h => h.2
    have hno : ¬ LetsOut (fun (e : Exit) a w => e = .normal ∧ Q e a w) := fun ⟨_, _, h, _⟩ => by cases h
    cases draw with
    | false =>
      simp only [exec, cond_false] at hf
      refine wpIn_region (wpOps_in hok.1 hQ hno _ a w (runIx_sound hT hC _ ρ σ A a w hs hf fun ρ1 σ1 A1 a1 w1 hs1 hx1 hk1 => ?_))
      cases hk1
      exact ⟨rfl, hk _ _ _ _ hs1 hx1 (hM.ext hs.rel hx1)⟩
    | true =>
      simp only [exec, cond_true] at hf
      replace hf := bind_some hf
      obtain ⟨⟨ms, ord⟩, h1, hf⟩ := hf
      simp only [Bool.not_true, Bool.false_or, h1, Bool.and_eq_true] at hok
      refine wpIn_region_any hm (wpAny_in hok.1 hQ hno _ _ _ _ (drawRun_region hT hC hok.2.1 hok.2.2 hs.sr hs.rel hf fun ρ1 σ1 A1 a1 w1 hs1 hr1 hx1 hk1 => ?_))
      cases hk1
      exact ⟨rfl, hk _ _ _ _ ⟨hs1, hr1⟩ hx1 (hM.ext hs.rel hx1)⟩
  | seq x y hx hy =>
    intro hok base r n ds ρ σ A a w e σ' A' Q hr hbs hs hM hf hk
    simp only [okCode, Bool.and_eq_true] at hok
    simp only [noRange, Bool.and_eq_true] at hr
    simp only [exec] at hf
    replace hf := bind_some hf
    obtain ⟨⟨e1, σ1, A1⟩, h1, hf⟩ := hf
    refine wpIn_seq (hx hok.1 base r n ds ρ σ A a w e1 σ1 A1 _ (hr.imp id And.left) hbs hs hM h1 fun ds1 ρ1 a1 w1 hs1 hx1 hM1 => ?_)
    cases e1 with
    | normal =>
      simp only at hf
      exact hy hok.2 base r n ds1 ρ1 σ1 A1 a1 w1 e σ' A' Q (hr.imp id And.right) (Nat.le_trans hbs hx1.size) hs1 hM1 hf fun ds' ρ' a' w' hs' hx' hM' => hk ds' ρ' a' w' hs' (hx1.trans hx') hM'
    | exit id => cases hf; exact hk ds1 ρ1 a1 w1 hs1 hx1 hM1
    | ret => cases hf; exact hk ds1 ρ1 a1 w1 hs1 hx1 hM1
  | cond c x y hx hy =>
    intro hok base r n ds ρ σ A a w e σ' A' Q hr hbs hs hM hf hk
    simp only [okCode, Bool.and_eq_true] at hok
    simp only [noRange, Bool.and_eq_true] at hr
    simp only [exec] at hf
    replace hf := bind_some hf
    obtain ⟨v, h1, hf⟩ := hf
    split at hf
    · rename_i t
      have hv := evO_sound hs.sr h1
      have hb : a.eval c = .bool t := by generalize a.eval c = u at hv; cases hv; rfl
      replace hf := bind_some hf
      obtain ⟨⟨e1, σ1, A1⟩, h2, hf⟩ := hf
      cases hf
      cases t with
      | true => exact wpIn_cond_true hb (hx hok.1 base r n ds ρ σ A a w _ _ _ Q (hr.imp id And.left) hbs hs hM h2 fun ds1 ρ1 a1 w1 hs1 hx1 hM1 => hk ds1 ρ1 a1 w1 (hs1.keep _) hx1 hM1)
      | false => exact wpIn_cond_false hb (hy hok.2 base r n ds ρ σ A a w _ _ _ Q (hr.imp id And.right) hbs hs hM h2 fun ds1 ρ1 a1 w1 hs1 hx1 hM1 => hk ds1 ρ1 a1 w1 (hs1.keep _) hx1 hM1)
    · cases hf
  | block id c hc =>
    intro hok base r n ds ρ σ A a w e σ' A' Q hr hbs hs hM hf hk
    simp only [okCode] at hok
    simp only [noRange] at hr
    simp only [exec] at hf
    replace hf := bind_some hf
    obtain ⟨⟨e1, σ1, A1⟩, h1, hf⟩ := hf
    refine wpIn_block (hc hok base r n ds ρ σ A a w e1 σ1 A1 _ hr hbs hs hM h1 fun ds1 ρ1 a1 w1 hs1 hx1 hM1 => ?_)
    cases e1 with
    | normal => cases hf; exact hk ds1 ρ1 a1 w1 hs1 hx1 hM1
    | exit j =>
      simp only at hf
      simp only [Ex.to, Exit.inBlock]
      cases hb : Nat.beq j id with
      | true =>
        rw [hb] at hf; cases hf
        rw [if_pos (by simpa using hb)]
        exact hk ds1 ρ1 a1 w1 hs1 hx1 hM1
      | false =>
        rw [hb] at hf; cases hf
        rw [if_neg (by intro e; subst e; simp at hb)]
        exact hk ds1 ρ1 a1 w1 hs1 hx1 hM1
    | ret => cases hf; exact hk ds1 ρ1 a1 w1 hs1 hx1 hM1
  | loop c hc => exact fun hok base r n ds ρ σ A a w e σ' A' Q hr hbs hs hM hf hk => goes_loop (hc hok) _ lf base r n ds ρ _ A a w e σ' A' Q hr hbs (hs.keep _) hM hf hk
  | exit id =>
    intro _ base r n ds ρ σ A a w e σ' A' Q hr hbs hs hM hf hk
    cases hf
    exact wpIn_exit (hk _ _ _ _ hs (ExtX.refl _ _ _) hM)
  | scope c hc =>
    intro hok base r n ds ρ σ A a w e σ' A' Q hr hbs hs hM hf hk
    refine wpIn_scope_straight (hc hok base r n ds ρ σ A a w e σ' A' _ hr hbs hs hM hf fun ds1 ρ1 a1 w1 hs1 hx1 hM1 => ?_)
    have := hk ds1 ρ1 a1 w1 hs1 hx1 hM1
    cases e <;> exact this
  | label l =>
    intro _ base r n ds ρ σ A a w e σ' A' Q hr hbs hs hM hf hk
    cases hf
    exact wpIn_label (hk _ _ _ _ hs (ExtX.refl _ _ _) hM)
  | ret =>
    intro _ base r n ds ρ σ A a w e σ' A' Q hr hbs hs hM hf hk
    cases hf
    exact wpIn_ret (hk _ _ _ _ hs (ExtX.refl _ _ _) hM)
  | rangeFunc f ps x y hx hy =>
    intro hok
    simp only [okCode, Bool.and_eq_true] at hok
    exact goes_range hIt hok.1.1 hok.1.2 (hx hok.2.1) (hy hok.2.2)
  | _ =>
    intro _ base r n ds ρ σ A a w e σ' A' Q hr hbs hs hM hf hk
    simp [exec] at hf

/-! ## functions -/
def slotsOf : Nat → List Value → Sl
  | _, [] => []
  | i, v :: l => (i, v) :: slotsOf (Nat.succ i) l

def resD (E : Env) (A : Hp) (σ : Sl) : List ResultVar → Option (List Value)
  | [] => some []
  | .tmp t :: l => (σ.get t).bind fun v => (resD E A σ l).bind fun vs => some (v :: vs)
  | .cell ad t :: l => (σ.get ad).bind fun p => (dload E t A p).bind fun x => (resD E A σ l).bind fun vs => some (x.1 :: vs)

def resV : List Value → Value
  | [v] => v
  | vs => .tuple vs.toArray

def execFn (E : Env) (call : CallT) (inf : Inf) (lf : Nat) (fn : Func) (args : List Value) (A : Hp) : Option (Value × Hp) :=
  fn.body.bind fun c => bif Nat.ble args.length fn.ntmps then (exec E call fn.ntmps inf lf c (slotsOf 0 args) A).bind fun r => match r.1 with
    | .exit _ => none
    | _ => (resD E r.2.2 r.2.1 fn.results.toList).bind fun vs => some (resV vs, r.2.2)
    else none

end

theorem slotsOf_get : ∀ (l : List Value) (i t : Nat) (v : Value), (slotsOf i l).get t = some v → ∃ j, t = i + j ∧ l[j]? = some v
  | [], _, _, _, h => by cases h
  | x :: l, i, t, v, h => by
    simp only [slotsOf, Sl.get] at h
    by_cases e : i = t
    · subst e
      rw [Tr.beq_tt] at h
      cases h
      exact ⟨0, rfl, rfl⟩
    · rw [Tr.beq_ff e] at h
      obtain ⟨j, rfl, h2⟩ := slotsOf_get l _ t v h
      exact ⟨j + 1, by omega, by simpa using h2⟩

theorem resD_sound {P : Program} {E : Env} (hT : E.T.ok P) {N : Nat} {ds : List Deferred} {ρ : Gh} {σ : Sl} {a : Act} {A : Hp} {w : World} (h : SR P E ρ.ρ N ds σ a) (hA : Rel P ρ.ρ A w) : ∀ (l : List ResultVar) (vs : List Value), resD E A σ l = some vs →
    ∃ us : List Value, us.length = vs.length ∧ (∀ (j : Nat) u v, vs[j]? = some u → us[j]? = some v → VR ρ.ρ u v) ∧
      (l.mapM (m := Sem) fun
        | .tmp t => pure (a.tmps.getD t undef)
        | .cell ad t => do loadVar t (← asAddr (a.tmps.getD ad undef))).run P w = .ok us w
  | [], vs, hd => by cases hd; exact ⟨[], rfl, by simp, rfl⟩
  | .cell ad t :: l, vs, hd => by
    simp only [resD] at hd
    replace hd := bind_some hd
    obtain ⟨p, h1, hd⟩ := hd
    replace hd := bind_some hd
    obtain ⟨⟨v, ls⟩, h0, hd⟩ := hd
    replace hd := bind_some hd
    obtain ⟨vs', h2, hd⟩ := hd
    cases hd
    obtain ⟨us, k1, k2, k3⟩ := resD_sound hT h hA l vs' h2
    obtain ⟨p', h3, h4⟩ := h.get ad p h1
    obtain ⟨v', q1, q2⟩ := dload_sound hT hA h4 h0
    refine ⟨v' :: us, by simp [k1], fun j u x hu hx => ?_, ?_⟩
    · cases j with
      | zero => simp at hu hx; subst hu; subst hx; exact q1
      | succ j => exact k2 j u x (by simpa using hu) (by simpa using hx)
    · have e : a.tmps.getD ad undef = p' := by rw [Array.getD_eq_getD_getElem?, h3]; rfl
      have hp : ∃ ad', p' = .pointer (some ad') := by
        unfold dload at h0
        replace h0 := bind_some h0
        obtain ⟨i, _, h0⟩ := h0
        split at h0
        · cases h4; exact ⟨_, rfl⟩
        · cases h0
      obtain ⟨ad', rfl⟩ := hp
      have q3 : (loadVar t ad').run P w = .ok v' w := by
        simpa [Instr.loadAt, Instr.sureAddr] using q2
      have ha : (asAddr (.pointer (some ad'))).run P w = .ok ad' w := rfl
      simp only [List.mapM_cons, Sem.run_bind, Sem.run_pure, Result.andThen_ok, k3, e, ha, q3]
  | .tmp t :: l, vs, hd => by
    simp only [resD] at hd
    replace hd := bind_some hd
    obtain ⟨v, h1, hd⟩ := hd
    replace hd := bind_some hd
    obtain ⟨vs', h2, hd⟩ := hd
    cases hd
    obtain ⟨us, k1, k2, k3⟩ := resD_sound hT (w := w) h hA l vs' h2
    obtain ⟨v', h3, h4⟩ := h.get t v h1
    refine ⟨v' :: us, by simp [k1], fun j u x hu hx => ?_, ?_⟩
    · cases j with
      | zero => simp at hu hx; subst hu; subst hx; exact h4
      | succ j => exact k2 j u x (by simpa using hu) (by simpa using hx)
    · have e : a.tmps.getD t undef = v' := by rw [Array.getD_eq_getD_getElem?, h3]; rfl
      simp only [List.mapM_cons, Sem.run_bind, Sem.run_pure, Result.andThen_ok, k3, e]

section
variable [Reps] {P : Program} {E : Env} {call : CallT} {N : Nat} {inf : Inf} {lf : Nat}

/-- a frame leaves with marks alone -/
theorem leaves_marks {fn : Func} {tmps : Array Value} {R : Ending → World → Prop} {n base : Nat} {A0 A : Hp} {g0 g : Gh} {w0 : World} (hb : w0.heap.size ≤ base) : ∀ (ds : List Deferred) (w : World), MK base ds A g w → RelX P g A w → ExtX A0 g0 w0 A g w →
    (∀ w', RelX P g A w' → ExtX A0 g0 w0 A g w' → ∃ v, (results fn tmps).run P w' = .ok v w' ∧ R (.returned v) w') → LeavesInM (FW none) n P fn tmps R ds .returning w
  | [], w, _, hr, hx, hk => hk w hr hx
  | d :: ds, w, hM, hr, hx, hk => by
    obtain ⟨D, e, h0, h1, h2⟩ := hM.2 d List.mem_cons_self
    refine ⟨by simp, .inl ⟨D, _, by rw [e], run_takeDeferred h1, leaves_marks hb ds _ ⟨(List.pairwise_cons.1 hM.1).2, fun d' hd' => ?_⟩ (hr.putOut h2 _) (hx.putNew (by omega) _) hk⟩⟩
    obtain ⟨D', e', h0', h1', h2'⟩ := hM.2 d' (List.mem_cons_of_mem _ hd')
    refine ⟨D', e', h0', (World.putObj_heap_other ?_).trans h1', h2'⟩
    rintro rfl
    exact (List.pairwise_cons.1 hM.1).1 d' hd' (by rw [e, e'])

theorem execFn_sound (hT : E.T.ok P) (hIt : ItOK P E) (hm : P.follows .mixedOrders = true) (hC : CallOK P call) {f : FuncId} {fn : Func} (hf : P.funcs[f]? = some fn)
    (hok : (fn.body.map (okCode E inf)).getD true = true) {args : List Value} {A A' : Hp} {v : Value} (hd : execFn E call inf lf fn args A = some (v, A'))
    {ρ : Gh} {w : World} {args' : Array Value} (hrel : RelX P ρ A w) (har : AR ρ.ρ args.toArray args') (hG : ∀ g, g < E.G → g < P.globals.size) :
    Calls P f args' w fun e w' => ∃ v', e = .returned v' ∧ After P ρ A w v A' v' w' := by
  unfold execFn at hd
  replace hd := bind_some hd
  obtain ⟨c, h1, hd⟩ := hd
  cases hb : Nat.ble args.length fn.ntmps with
  | false => rw [hb] at hd; cases hd
  | true =>
    rw [hb] at hd
    simp only [cond_true] at hd
    replace hd := bind_some hd
    obtain ⟨⟨e, σ', A1⟩, h2, hd⟩ := hd
    rw [h1] at hok
    have hle : args.length ≤ fn.ntmps := by simpa using hb
    have hsz : args'.size = args.length := by have := har.1; simpa using this.symm
    have hsr : SR P E ρ.ρ fn.ntmps [] (slotsOf 0 args) { tmps := args' ++ Array.replicate (fn.ntmps - args'.size) undef, defers := [] } := by
      refine ⟨by simp; omega, fun t u hu => ?_, rfl, fun g hg => hrel.rel.glob g (hG g hg)⟩
      obtain ⟨j, rfl, hj⟩ := slotsOf_get _ _ _ _ hu
      have hjl : j < args.length := (List.getElem?_eq_some_iff.1 hj).1
      refine ⟨args'[j]'(by omega), ?_, har.2 j u _ (by simpa using hj) (by simp)⟩
      simp only [Nat.zero_add]
      rw [Array.getElem?_append_left (by omega)]
      simp
    refine callsIn_wide.1 (callsIn_of_wp_marks (n := 3) hf h1 trivial ?_)
    refine exec_sound hT hIt hm hC c hok w.heap.size none 3 [] ρ _ A _ w e σ' A1 _ (.inl rfl) (Nat.le_refl _) ⟨hsr, hrel⟩ MK.nil h2 fun ds' ρ' a' w' hs' hx' hM' => ?_
    have key : ∀ hh : (resD E A1 σ' fn.results.toList).bind (fun vs => some (resV vs, A1)) = some (v, A'), LeavesInM Fence.wide 3 P fn a'.tmps (fun e w' => ∃ v', e = .returned v' ∧ After P ρ A w v A' v' w') a'.defers .returning w' := by
      intro hh
      replace hh := bind_some hh
      obtain ⟨vs, h3, hh⟩ := hh
      cases hh
      rw [hs'.sr.defers]
      refine leaves_marks (Nat.le_refl _) ds' w' hM' hs'.rel hx' fun w2 hr2 hx2 => ?_
      obtain ⟨us, k1, k2, k3⟩ := resD_sound hT (w := w2) hs'.sr hr2.rel _ _ h3
      refine ⟨(if h : us.toArray.size = 1 then us.toArray[0] else .tuple us.toArray), ?_, _, rfl, ρ', ?_, hr2, hx2⟩
      · unfold results
        rw [Array.mapM_eq_mapM_toList]
        have k4 := k3
        simp only [Sem.run_bind, Sem.run_pure, Sem.run_map]
        erw [k4]
        rfl
      · match vs, us, k1, k2 with
        | [], [], _, _ => exact .tuple _ _ rfl (by simp)
        | [x], [y], _, k2 => exact k2 0 x y rfl rfl
        | x :: y :: vs, z :: t :: us, k1, k2 =>
          simp only [List.size_toArray, List.length_cons]
          rw [dif_neg (by omega)]
          exact .tuple _ _ (by simpa using k1.symm) (fun j u v hu hv => k2 j u v (by simpa using hu) (by simpa using hv))
    cases e with
    | normal => exact key hd
    | exit id => cases hd
    | ret => exact key hd

end
end Go.Dn
end

section
namespace Go.Dn

def flatOf (P : Program) (t : Nat) (d : TypeDesc) : Bool :=
  !P.stoodInHeld t && !P.eqGuardType P.depth t && match d with
    | .struct fs => fs.toList.all fun f => !(f.name == "_")
    | _ => true

/-- the table's row of a type, read off the program -/
def tiOf (P : Program) (t : Nat) : Option TI :=
  (P.underlying t).bind fun d => (P.info? t).map fun x => ⟨d, x.size, x.bytes, x.zero, flatOf P t d⟩

theorem tiOf_ok (P : Program) : TT.ok (tiOf P) P := by
  have key : ∀ t i, tiOf P t = some i → ∃ d x, P.underlying t = some d ∧ P.info? t = some x ∧ i = ⟨d, x.size, x.bytes, x.zero, flatOf P t d⟩ := by
    intro t i h
    unfold tiOf at h
    replace h := bind_some h
    obtain ⟨d, h1, h⟩ := h
    cases hx : P.info? t with
    | none => rw [hx] at h; cases h
    | some x => rw [hx] at h; cases h; exact ⟨d, x, h1, rfl, rfl⟩
  refine ⟨fun t i h => ?_, fun t i h => ?_, fun t i h hf => ?_⟩
  · obtain ⟨d, x, h1, h2, rfl⟩ := key t i h; exact h1
  · obtain ⟨d, x, h1, h2, rfl⟩ := key t i h; exact ⟨x, h2, rfl, rfl, rfl⟩
  · obtain ⟨d, x, h1, h2, rfl⟩ := key t i h
    simp only [flatOf, Bool.and_eq_true, Bool.not_eq_true'] at hf
    refine ⟨hf.1.1, hf.1.2, fun fs e f hfm => ?_⟩
    simp only at e
    subst e
    have := hf.2
    simp only [List.all_eq_true, Bool.not_eq_true', beq_eq_false_iff_ne] at this
    exact this f hfm

/-- a table whose rows are written out -/
def tabT (l : List (Nat × TI)) : Tr TI := l.foldl (fun t x => t.upd (some x.2) (x.1 + 1) x.1) .nil

theorem TT.ok.mono {T T' : TT} {P : Program} (h : T.ok P) (hs : ∀ t i, T' t = some i → T t = some i) : T'.ok P :=
  ⟨fun t i ht => h.und t i (hs t i ht), fun t i ht => h.info t i (hs t i ht), fun t i ht => h.flat t i (hs t i ht)⟩

theorem tabT_get : ∀ (l : List (Nat × TI)) (T0 : Tr TI) (t : Nat) (i : TI), (l.foldl (fun t x => t.upd (some x.2) (x.1 + 1) x.1) T0).get t = some i → (t, i) ∈ l ∨ T0.get t = some i
  | [], T0, t, i, h => .inr h
  | x :: l, T0, t, i, h => by
    simp only [List.foldl_cons] at h
    rcases tabT_get l _ t i h with k | k
    · exact .inl (List.mem_cons_of_mem _ k)
    · rw [Tr.get_upd _ _ _ _ _ (by omega)] at k
      by_cases e : t = x.1
      · rw [if_pos e] at k; cases k; subst e; exact .inl (by simp)
      · rw [if_neg e] at k; exact .inr k

end Go.Dn
end

section
namespace Go.Dn

/-! ## tables that are written out as tries -/
def Tr.items {α : Type} : Tr α → Nat → Nat → List (Nat × α)
  | .nil, _, _ => []
  | .node l v r, a, b => (match v with
    | some x => [(b, x)]
    | none => []) ++ (l.items (2 * a) (a + b) ++ r.items (2 * a) (2 * a + b))

theorem Tr.items_get {α : Type} : ∀ (t : Tr α) (n a b : Nat) (x : α), t.get n = some x → (a * n + b, x) ∈ t.items a b
  | .nil, n, a, b, x, h => by simp at h
  | .node l v r, n, a, b, x, h => by
    simp only [Tr.get] at h
    simp only [Tr.items, List.mem_append]
    by_cases h0 : n = 0
    · subst h0
      rw [beq_tt] at h
      simp only [cond_true] at h
      subst h
      simp
    · rw [beq_ff h0] at h
      simp only [cond_false] at h
      by_cases h1 : n % 2 = 1
      · rw [h1, beq_tt] at h
        simp only [cond_true] at h
        have := Tr.items_get l _ (2 * a) (a + b) x h
        refine .inr (.inl ?_)
        have e : 2 * a * ((n - 1) / 2) + (a + b) = a * n + b := by
          have : n = 2 * ((n - 1) / 2) + 1 := by omega
          generalize (n - 1) / 2 = m at this
          subst this
          rw [Nat.mul_add, Nat.mul_comm 2 a, Nat.mul_assoc]; omega
        rwa [e] at this
      · rw [beq_ff h1] at h
        simp only [cond_false] at h
        have := Tr.items_get r _ (2 * a) (2 * a + b) x h
        refine .inr (.inr ?_)
        have e : 2 * a * ((n - 1) / 2) + (2 * a + b) = a * n + b := by
          have : n = 2 * ((n - 1) / 2) + 2 := by omega
          generalize (n - 1) / 2 = m at this
          subst this
          rw [Nat.mul_add, Nat.mul_comm 2 a, Nat.mul_assoc]; omega
        rwa [e] at this

theorem Tr.get_mem {α : Type} {t : Tr α} {n : Nat} {x : α} (h : t.get n = some x) : (n, x) ∈ t.items 1 0 := by
  have := Tr.items_get t n 1 0 x h
  simpa using this

theorem of_map_eq {α β : Type} {f g : α → β} : ∀ {l : List α}, l.map f = l.map g → ∀ x ∈ l, f x = g x
  | [], _, _, hx => by cases hx
  | y :: l, h, x, hx => by
    simp only [List.map_cons, List.cons.injEq] at h
    rcases List.mem_cons.1 hx with rfl | hx
    · exact h.1
    · exact of_map_eq h.2 x hx

theorem table_ok {P : Program} {t : Tr TI} (h : (t.items 1 0).map (fun x => tiOf P x.1) = (t.items 1 0).map fun x => some x.2) : TT.ok t.get P :=
  (tiOf_ok P).mono fun i x hx => of_map_eq h (i, x) (Tr.get_mem hx)

/-! ## many functions at once -/
structure Bk where
  E : Env
  fs : Tr Func
  infs : Tr (Tr (List Nat × List Nat))

def Bk.inf (B : Bk) (f : Nat) : Inf := fun id => (B.infs.get f).bind fun t => t.get id

structure Bk.Good (B : Bk) (P : Program) : Prop where
  tab : B.E.T.ok P
  mix : P.follows .mixedOrders = true
  fn : ∀ f fn, B.fs.get f = some fn → P.funcs[f]? = some fn ∧ fn.body.isSome = true ∧ (fn.name == "runtime.NumGoroutine") = false
  ok : ∀ f fn, B.fs.get f = some fn → (fn.body.map (okCode B.E (B.inf f))).getD true = true
  glob : B.E.G = P.globals.size
  it : ItOK P B.E

theorem Bk.good {B : Bk} {P : Program} {t : Tr TI} (e : B.E.T = t.get) (h1 : (t.items 1 0).map (fun x => tiOf P x.1) = (t.items 1 0).map fun x => some x.2) (h2 : P.follows .mixedOrders = true)
    (h3 : (B.fs.items 1 0).map (fun x => P.funcs[x.1]?) = (B.fs.items 1 0).map fun x => some x.2)
    (h4 : (B.fs.items 1 0).all (fun x => x.2.body.isSome && !(x.2.name == "runtime.NumGoroutine") && (x.2.body.map (okCode B.E (B.inf x.1))).getD true) = true)
    (h5 : B.E.G = P.globals.size) (h6 : ItOK P B.E) : B.Good P := by
  refine ⟨by rw [e]; exact table_ok h1, h2, fun f fn h => ?_, fun f fn h => ?_, h5, h6⟩
  · have hm := Tr.get_mem h
    have k := of_map_eq h3 _ hm
    have k4 := List.all_eq_true.1 h4 _ hm
    simp only [Bool.and_eq_true, Bool.not_eq_true'] at k4
    exact ⟨k, k4.1.1, k4.1.2⟩
  · have k4 := List.all_eq_true.1 h4 _ (Tr.get_mem h)
    simp only [Bool.and_eq_true] at k4
    exact k4.2

/-- calls: first what the base knows, then the text -/
def callD (B : Bk) (base : CallT) : Nat → CallT
  | 0 => base
  | n + 1 => fun f args A => match base f args A with
    | some r => some r
    | none => (B.fs.get f).bind fun fn => execFn B.E (callD B base n) (B.inf f) n fn args A

theorem callD_ok [Reps] {B : Bk} {P : Program} (hB : B.Good P) {base : CallT} (hb : CallOK P base) : ∀ n, CallOK P (callD B base n)
  | 0 => hb
  | n + 1 => by
    have ih := callD_ok hB hb n
    refine ⟨fun f args A r h => ?_, fun f args A v A' h ρ w args' hr ha => ?_⟩
    · simp only [callD] at h
      split at h
      · rename_i r' h1
        exact hb.fn f args A _ h1
      · replace h := bind_some h
        obtain ⟨fn, h1, h⟩ := h
        obtain ⟨k1, k2, k3⟩ := hB.fn f fn h1
        exact ⟨fn, k1, k2, k3⟩
    · simp only [callD] at h
      split at h
      · rename_i r' h1
        cases h
        exact hb.calls f args A v A' h1 ρ w args' hr ha
      · replace h := bind_some h
        obtain ⟨fn, h1, h⟩ := h
        exact execFn_sound hB.tab hB.it hB.mix ih (hB.fn f fn h1).1 (hB.ok f fn h1) h hr ha (fun g hg => by rw [← hB.glob]; exact hg)

def noCalls : CallT := fun _ _ _ => none
theorem noCalls_ok [Reps] (P : Program) : CallOK P noCalls := ⟨fun _ _ _ _ h => (by cases h), fun _ _ _ _ _ h => (by cases h)⟩

end Go.Dn
end
