/-
  Part of the abstract machine for this program.
-/
import Derived.Test.YtombnpednnngoaaDoorDnG

section
namespace Go.Dn

/-! ## the same steps with what comes next handed in: so that unfolding lays bare what is asked of memory -/
/-- a list, laid bare -/
noncomputable def kList {α R : Type} (l : List α) : (List α → Option R) → Option R :=
  @List.rec α (fun _ => (List α → Option R) → Option R) (fun k => k []) (fun x _ ih k => ih fun s => k (x :: s)) l
theorem kList_eq {α R : Type} : ∀ (l : List α) (k : List α → Option R), kList l k = k l
  | [], _ => rfl
  | x :: l, k => by
    show kList l (fun s => k (x :: s)) = _
    rw [kList_eq]

noncomputable def kput {R : Type} (s : Sl) (t : Nat) (v : Value) : (Sl → Option R) → Option R :=
  @List.rec (Nat × Value) (fun _ => (Sl → Option R) → Option R) (fun k => k [(t, v)])
    (fun x s ih k => bif Nat.beq x.1 t then k ((t, v) :: s) else ih fun s' => k (x :: s')) s

theorem kput_cons {R : Type} (x : Nat × Value) (s : Sl) (t : Nat) (v : Value) (k : Sl → Option R) : kput (x :: s) t v k = bif Nat.beq x.1 t then k ((t, v) :: s) else kput s t v fun s' => k (x :: s') := rfl

theorem kput_eq {R : Type} : ∀ (s : Sl) (t : Nat) (v : Value) (k : Sl → Option R), kput s t v k = k (s.put t v)
  | [], _, _, _ => rfl
  | (u, x) :: s, t, v, k => by
    rw [kput_cons]
    simp only [Sl.put]
    cases Nat.beq u t with
    | true => rfl
    | false => simp only [cond_false]; rw [kput_eq]

noncomputable def kdput {R : Type} (N : Nat) (σ : Sl) (d : Option Nat) (v : Value) (k : Sl → Option R) : Option R :=
  match d with
  | none => k σ
  | some d => bif Nat.blt d N then kput σ d v k else none

theorem kdput_ok {R : Type} {N : Nat} {σ : Sl} {d : Option Nat} {v : Value} {k : Sl → Option R} : kdput N σ d v k = (dput N σ d v).bind k := by
  cases d with
  | none => rfl
  | some d =>
    simp only [kdput, dput]
    cases Nat.blt d N with
    | true => simp only [cond_true, kput_eq]; rfl
    | false => rfl

def kload {R : Type} (E : Env) (t : TypeId) (A : Hp) (x : Value) (k : Value → List Nat → Option R) : Option R :=
  (E.T t).bind fun i => match x with
    | .pointer (some ⟨b, o, none⟩) =>
      bif isAggD i.d then (cellsAt A b o i.size).bind fun us => k (.agg us.toArray) [b]
      else (cellsAt A b o 1).bind fun us => match us with
        | [u] => k u [b]
        | _ => none
    | _ => none

theorem kload_ok {R : Type} {E : Env} {t : TypeId} {A : Hp} {x : Value} {k : Value → List Nat → Option R} {r : R} (h : kload E t A x k = some r) : ∃ y, dload E t A x = some y ∧ k y.1 y.2 = some r := by
  unfold kload at h
  unfold dload
  replace h := bind_some h
  obtain ⟨i, h1, h⟩ := h
  rw [h1]
  simp only [Option.bind_some]
  split at h
  · cases ha : isAggD i.d with
    | true =>
      rw [ha] at h
      simp only [cond_true] at h
      replace h := bind_some h
      obtain ⟨us, h2, h⟩ := h
      exact ⟨_, by simp only [cond_true, h2]; rfl, h⟩
    | false =>
      rw [ha] at h
      simp only [cond_false] at h
      replace h := bind_some h
      obtain ⟨us, h2, h⟩ := h
      split at h
      · exact ⟨_, by simp only [cond_false, h2]; rfl, h⟩
      · cases h
  · cases h

def kbound {R : Type} (v : Value) (y : Nat) (k : Nat → Option R) : Option R :=
  match v with
  | .int _ i => bif decide (0 ≤ i) then bif decide (i ≤ (y : Int)) then k i.toNat else none else none
  | _ => none

theorem kbound_ok {R : Type} {v : Value} {y : Nat} {k : Nat → Option R} : kbound v y k = (bound v y).bind k := by
  unfold kbound bound
  cases v <;> simp only [intIx, Option.bind_none, Option.bind_some]
  rename_i kk i
  by_cases h1 : 0 ≤ i <;> by_cases h2 : i ≤ (y : Int) <;> simp [h1, h2]

def kidx {R : Type} (E : Env) (t : TypeId) (x ix : Value) (k : Value → Option R) : Option R :=
  (E.T t).bind fun i => match ix with
    | .int _ n => match i.d, x with
      | .slice e, .slice (some ⟨b, o, some s⟩) len _ => (E.T e).bind fun j => bif Nat.beq s j.size then bif decide (0 ≤ n) then bif decide (n < (len : Int)) then k (.pointer (some ⟨b, o + n.toNat * s, none⟩)) else none else none else none
      | .array len e, .pointer (some ⟨b, o, none⟩) => (E.T e).bind fun j => bif decide (0 ≤ n) then bif decide (n < (len : Int)) then k (.pointer (some ⟨b, o + n.toNat * j.size, none⟩)) else none else none
      | _, _ => none
    | _ => none

theorem kidx_ok {R : Type} {E : Env} {t : TypeId} {x ix : Value} {k : Value → Option R} {r : R} (h : kidx E t x ix k = some r) : ∃ y, dindexAddr E t x ix = some y ∧ k y = some r := by
  unfold kidx at h
  unfold dindexAddr
  replace h := bind_some h
  obtain ⟨i, h1, h⟩ := h
  rw [h1]
  simp only [Option.bind_some]
  split at h
  · rename_i kk n
    simp only [intIx, Option.bind_some]
    split at h
    · rename_i e b o s len c hd
      rw [hd]
      simp only
      replace h := bind_some h
      obtain ⟨j, h2, h⟩ := h
      rw [h2]
      by_cases h3 : s = j.size
      · by_cases h4 : 0 ≤ n
        · by_cases h5 : n < (len : Int)
          · simp only [h3, h4, h5, Tr.beq_tt, decide_true, cond_true] at h
            exact ⟨_, by simp [h3, h4, h5], h⟩
          · simp [h3, h4, h5] at h
        · simp [h3, h4] at h
      · rw [Tr.beq_ff h3] at h; cases h
    · rename_i len e b o hd
      rw [hd]
      simp only
      replace h := bind_some h
      obtain ⟨j, h2, h⟩ := h
      rw [h2]
      by_cases h4 : 0 ≤ n
      · by_cases h5 : n < (len : Int)
        · simp only [h4, h5, decide_true, cond_true] at h
          exact ⟨_, by simp [h4, h5], h⟩
        · simp [h4, h5] at h
      · simp [h4] at h
    · cases h
  · cases h

/-- where a slice expression's bounds stand -/
def kbounds {R : Type} (len y : Nat) (lo hi : Option Value) (k : Nat → Nat → Option R) : Option R :=
  match hi with
  | none => (match lo with
    | none => k 0 len
    | some v => kbound v len fun l => k l len)
  | some u => kbound u y fun h => (match lo with
    | none => k 0 h
    | some v => kbound v h fun l => k l h)

theorem kbounds_ok {R : Type} {len y : Nat} {lo hi : Option Value} {k : Nat → Nat → Option R} : kbounds len y lo hi k = (bounds2 len y lo hi).bind fun x => k x.1 x.2 := by
  unfold kbounds bounds2
  cases hi with
  | none =>
    cases lo with
    | none => rfl
    | some v => simp only [kbound_ok, Option.bind_some]; cases bound v len <;> rfl
  | some u =>
    simp only [kbound_ok]
    cases bound u y with
    | none => rfl
    | some h =>
      simp only [Option.bind_some]
      cases lo with
      | none => rfl
      | some v => simp only; cases bound v h <;> rfl

def kslice {R : Type} (E : Env) (t : TypeId) (x : Value) (lo hi mx : Option Value) (k : Value → Option R) : Option R :=
  (E.T t).bind fun i => match i.d, x with
    | .slice e, .slice (some ⟨b, o, some s⟩) len c => (E.T e).bind fun j => bif Nat.beq s j.size then
        match mx with
        | none => kbounds len (c / 2) lo hi fun l h => k (.slice (some ⟨b, o + l * s, some s⟩) (h - l) (2 * (c / 2 - l) + c % 2))
        | some v => (dslice E t x lo hi (some v)).bind k
      else none
    | _, _ => (dslice E t x lo hi mx).bind k

theorem kslice_ok {R : Type} {E : Env} {t : TypeId} {x : Value} {lo hi mx : Option Value} {k : Value → Option R} {r : R} (h : kslice E t x lo hi mx k = some r) : ∃ y, dslice E t x lo hi mx = some y ∧ k y = some r := by
  unfold kslice at h
  replace h := bind_some h
  obtain ⟨i, h1, h⟩ := h
  split at h
  · rename_i e b o s len c hd
    replace h := bind_some h
    obtain ⟨j, h2, h⟩ := h
    by_cases h3 : s = j.size
    · simp only [h3, Tr.beq_tt, cond_true] at h
      cases mx with
      | none =>
        simp only [kbounds_ok] at h
        replace h := bind_some h
        obtain ⟨⟨l, hh⟩, h4, h⟩ := h
        refine ⟨_, ?_, h⟩
        unfold dslice
        simp [h1, hd, h2, h3, h4]
      | some v => rw [← h3] at h; exact bind_some h
    · rw [Tr.beq_ff h3] at h; cases h
  · exact bind_some h

/-- one operation -/
noncomputable def kstep {R : Type} (E : Env) (call : CallT) (σ : Sl) (o : Oper) (A : Hp) (k : Value → List Nat → Hp → Option R) : Option R :=
  match o.op with
  | .load t x => (evO E σ x).bind fun v => kload E t A v fun u l => k u l A
  | .indexAddr t x ix => (evO E σ x).bind fun v => (evO E σ ix).bind fun n => kidx E t v n fun u => k u [] A
  | .slice t x lo hi mx => (evO E σ x).bind fun v => (evOo E σ lo).bind fun l => (evOo E σ hi).bind fun h => (evOo E σ mx).bind fun m => kslice E t v l h m fun u => k u [] A
  | .store t x v => (evO E σ x).bind fun u => (evO E σ v).bind fun r => (dstore E t A u r).bind fun A' => k undef [] A'
  | .call { callee := .value f, args, .. } => (evO E σ f).bind fun u => (evs E σ args.toList).bind fun vs => match u with
    | .func (.func g) first captured => kList (first.toList ++ vs ++ captured.toList) fun as => (call g as A).bind fun r => match r with
      | (v, A') => k v [] A'
    | _ => none
  | .call { callee := .builtin .append, args, argTypes } => (evs E σ args.toList).bind fun vs => match argTypes.toList, vs with
    | [t, t2], [s, x] => (dappend E t t2 A s x).bind fun r => match r with
      | (v, A') => k v [] A'
    | _, _ => none
  | .call { callee := .builtin .copy, args, argTypes } => (evs E σ args.toList).bind fun vs => match argTypes.toList, vs with
    | [t, t2], [d, s] => (dcopy E t t2 A d s).bind fun r => match r with
      | (v, A') => k v [] A'
    | _, _ => none
  | _ => match cls E o with
    | 0 => (dval E σ o).bind fun v => k v [] A
    | 1 => (drd E σ o A).bind fun x => match x with
      | (v, l) => k v l A
    | 2 => (dnew E σ o).bind fun x => match x with
      | (ob, f) => k (f A.next) [] (A.push ob)
    | _ => (dstep E call σ o A).bind fun x => match x with
      | (v, A') => k v [] A'

theorem dload_ids {E : Env} {t : TypeId} {A : Hp} {x : Value} {y : Value × List Nat} (h : dload E t A x = some y) : ∀ i ∈ y.2, (A.get i).isSome = true := by
  have ids : ∀ {i o n : Nat} {us : List Value}, cellsAt A i o n = some us → (A.get i).isSome = true := by
    intro i o n us hc
    unfold cellsAt at hc
    split at hc
    · rename_i hg; rw [hg]; rfl
    · cases hc
  unfold dload at h
  replace h := bind_some h
  obtain ⟨i, h1, h⟩ := h
  split at h
  · cases ha : isAggD i.d with
    | true =>
      rw [ha] at h
      simp only [cond_true] at h
      replace h := bind_some h
      obtain ⟨us, h2, h⟩ := h
      cases h
      intro j hj; simp only [List.mem_singleton] at hj; subst hj; exact ids h2
    | false =>
      rw [ha] at h
      simp only [cond_false] at h
      replace h := bind_some h
      obtain ⟨us, h2, h⟩ := h
      split at h
      · cases h
        intro j hj; simp only [List.mem_singleton] at hj; subst hj; exact ids h2
      · cases h
  · cases h

def isLoad : Op → Bool
  | .load _ _ => true
  | _ => false

theorem drd_load {E : Env} {σ : Sl} {o : Oper} {A : Hp} {y : Value × List Nat} (hl : isLoad o.op = true) (h : drd E σ o A = some y) : ∀ i ∈ y.2, (A.get i).isSome = true := by
  cases ho : o.op with
  | load t x =>
    simp only [drd, ho] at h
    replace h := bind_some h
    obtain ⟨v, h1, h⟩ := h
    exact dload_ids h
  | _ => rw [ho] at hl; cases hl

/-- what class a step bears -/
theorem kstep_ok {R : Type} {E : Env} {call : CallT} {σ : Sl} {o : Oper} {A : Hp} {k : Value → List Nat → Hp → Option R} {r : R} (h : kstep E call σ o A k = some r) :
    ∃ v l A', dstep E call σ o A = some (v, A') ∧ k v l A' = some r ∧
      (cls E o = 0 → l = [] ∧ A' = A ∧ dval E σ o = some v) ∧ (cls E o = 1 → A' = A ∧ drd E σ o A = some (v, l)) ∧
      (cls E o = 2 → l = [] ∧ ∃ ob f, dnew E σ o = some (ob, f) ∧ v = f A.next ∧ A' = A.push ob) := by
  unfold kstep at h
  split at h
  · rename_i t x ho
    replace h := bind_some h
    obtain ⟨v, h1, h⟩ := h
    obtain ⟨y, h2, h3⟩ := kload_ok h
    have hc : cls E o = 1 := by simp [cls, ho]
    have hd : drd E σ o A = some y := by simp [drd, ho, h1, h2]
    exact ⟨y.1, y.2, A, by simp [dstep, hc, hd], h3, (fun e => (by rw [hc] at e; cases e)), fun _ => ⟨rfl, hd⟩, (fun e => (by rw [hc] at e; cases e))⟩
  · rename_i t x ix ho
    replace h := bind_some h
    obtain ⟨v, h1, h⟩ := h
    replace h := bind_some h
    obtain ⟨n, h2, h⟩ := h
    obtain ⟨y, h3, h4⟩ := kidx_ok h
    have hc : cls E o = 0 := by simp [cls, ho]
    have hd : dval E σ o = some y := by simp [dval, ho, h1, h2, h3]
    exact ⟨y, [], A, by simp [dstep, hc, hd], h4, fun _ => ⟨rfl, rfl, hd⟩, (fun e => (by rw [hc] at e; cases e)), (fun e => (by rw [hc] at e; cases e))⟩
  · rename_i t x lo hi mx ho
    replace h := bind_some h
    obtain ⟨v, h1, h⟩ := h
    replace h := bind_some h
    obtain ⟨l, h2, h⟩ := h
    replace h := bind_some h
    obtain ⟨hh, h3, h⟩ := h
    replace h := bind_some h
    obtain ⟨m, h4, h⟩ := h
    obtain ⟨y, h5, h6⟩ := kslice_ok h
    have hc : cls E o = 0 := by simp [cls, ho]
    have hd : dval E σ o = some y := by simp [dval, ho, h1, h2, h3, h4, h5]
    exact ⟨y, [], A, by simp [dstep, hc, hd], h6, fun _ => ⟨rfl, rfl, hd⟩, (fun e => (by rw [hc] at e; cases e)), (fun e => (by rw [hc] at e; cases e))⟩
  · rename_i t x v ho
    replace h := bind_some h
    obtain ⟨u, h1, h⟩ := h
    replace h := bind_some h
    obtain ⟨w, h2, h⟩ := h
    replace h := bind_some h
    obtain ⟨A', h3, h⟩ := h
    have hc : cls E o = 3 := by simp [cls, ho]
    exact ⟨undef, [], A', by simp [dstep, hc, deff, ho, h1, h2, h3], h, (fun e => (by rw [hc] at e; cases e)), (fun e => (by rw [hc] at e; cases e)), (fun e => (by rw [hc] at e; cases e))⟩
  · rename_i f args ts ho
    replace h := bind_some h
    obtain ⟨u, h1, h⟩ := h
    replace h := bind_some h
    obtain ⟨vs, h2, h⟩ := h
    split at h
    · rename_i g first captured
      rw [kList_eq] at h
      replace h := bind_some h
      obtain ⟨⟨v, A'⟩, h3, h⟩ := h
      have hc : cls E o = 4 := by simp [cls, ho]
      refine ⟨v, [], A', ?_, h, (fun e => (by rw [hc] at e; cases e)), (fun e => (by rw [hc] at e; cases e)), (fun e => (by rw [hc] at e; cases e))⟩
      simp only [dstep, hc, dcall, ho, h1, h2, Option.bind_some]
      exact h3
    · cases h
  · rename_i args ts ho
    replace h := bind_some h
    obtain ⟨vs, h1, h⟩ := h
    split at h
    · rename_i t t2 s x hts
      replace h := bind_some h
      obtain ⟨⟨v, A'⟩, h3, h⟩ := h
      have hc : cls E o = 3 := by simp [cls, ho]
      refine ⟨v, [], A', ?_, h, (fun e => (by rw [hc] at e; cases e)), (fun e => (by rw [hc] at e; cases e)), (fun e => (by rw [hc] at e; cases e))⟩
      simp only [dstep, hc, deff, ho, h1, hts, Option.bind_some]
      exact h3
    · cases h
  · rename_i args ts ho
    replace h := bind_some h
    obtain ⟨vs, h1, h⟩ := h
    split at h
    · rename_i t t2 s x hts
      replace h := bind_some h
      obtain ⟨⟨v, A'⟩, h3, h⟩ := h
      have hc : cls E o = 3 := by simp [cls, ho]
      refine ⟨v, [], A', ?_, h, (fun e => (by rw [hc] at e; cases e)), (fun e => (by rw [hc] at e; cases e)), (fun e => (by rw [hc] at e; cases e))⟩
      simp only [dstep, hc, deff, ho, h1, hts, Option.bind_some]
      exact h3
    · cases h
  · split at h
    · rename_i hc
      replace h := bind_some h
      obtain ⟨v, h1, h⟩ := h
      exact ⟨v, [], A, by simp [dstep, hc, h1], h, fun _ => ⟨rfl, rfl, h1⟩, (fun e => (by rw [hc] at e; cases e)), (fun e => (by rw [hc] at e; cases e))⟩
    · rename_i hc
      replace h := bind_some h
      obtain ⟨v, h1, h⟩ := h
      exact ⟨v.1, v.2, A, by simp [dstep, hc, h1], h, (fun e => (by rw [hc] at e; cases e)), fun _ => ⟨rfl, h1⟩, (fun e => (by rw [hc] at e; cases e))⟩
    · rename_i hc
      replace h := bind_some h
      obtain ⟨⟨ob, f⟩, h1, h⟩ := h
      exact ⟨f A.next, [], A.push ob, by simp [dstep, hc, h1], h, (fun e => (by rw [hc] at e; cases e)), (fun e => (by rw [hc] at e; cases e)), fun _ => ⟨rfl, ob, f, h1, rfl, rfl⟩⟩
    · rename_i h0 h1' h2'
      replace h := bind_some h
      obtain ⟨⟨v, A'⟩, h1, h⟩ := h
      exact ⟨v, [], A', h1, h, fun e => absurd e h0, fun e => absurd e h1', fun e => absurd e h2'⟩

end Go.Dn
end

section
namespace Go.Dn

def kwant {R : Type} (ops : List Oper) (σ : Sl) (o : Oper) (k : Bool → Option R) : Option R :=
  match o.guard with
  | none => k true
  | some (j, want) => (ops[j]?).bind fun p => p.dst.bind fun d => (σ.get d).bind fun v => match v with
    | .bool b => bif b == want then k true else k false
    | _ => k false

theorem kwant_ok {R : Type} {ops : List Oper} {σ : Sl} {o : Oper} {k : Bool → Option R} : kwant ops σ o k = (dwant ops σ o).bind k := by
  unfold kwant dwant
  cases o.guard with
  | none => rfl
  | some g =>
    obtain ⟨j, want⟩ := g
    simp only
    cases ops[j]? with
    | none => rfl
    | some p =>
      simp only [Option.bind_some]
      cases p.dst with
      | none => rfl
      | some d =>
        simp only [Option.bind_some]
        cases σ.get d with
        | none => rfl
        | some v =>
          simp only [Option.bind_some]
          cases v <;> try rfl
          rename_i b
          cases b <;> cases want <;> rfl

noncomputable def krun {R : Type} (E : Env) (call : CallT) (N : Nat) (all : List Oper) (l : List Oper) : Sl → (Sl → Hp → Option R) → Hp → Option R :=
  @List.rec Oper (fun _ => Sl → (Sl → Hp → Option R) → Hp → Option R) (fun σ k A => k σ A)
    (fun o _ ih σ k A => kwant all σ o fun g =>
      bif g then kstep E call σ o A fun v _ A' => kdput N σ o.dst v fun σ' => ih σ' k A'
      else kdput N σ o.dst undef fun σ' => ih σ' k A) l

theorem krun_cons {R : Type} {E : Env} {call : CallT} {N : Nat} {all : List Oper} (o : Oper) (l : List Oper) (σ : Sl) (k : Sl → Hp → Option R) (A : Hp) :
    krun E call N all (o :: l) σ k A = kwant all σ o fun g =>
      bif g then kstep E call σ o A fun v _ A' => kdput N σ o.dst v fun σ' => krun E call N all l σ' k A'
      else kdput N σ o.dst undef fun σ' => krun E call N all l σ' k A := rfl

theorem krun_ok {R : Type} {E : Env} {call : CallT} {N : Nat} {all : List Oper} {k : Sl → Hp → Option R} {r : R} : ∀ (n m : Nat) (σ : Sl) (A : Hp), n + m = all.length →
    krun E call N all (all.drop n) σ k A = some r → runIx E call N all ((List.range all.length).drop n) σ k A = some r
  | n, 0, σ, A, hn, h => by
    have e : n = all.length := by omega
    subst e
    rw [List.drop_length] at h
    have : (List.range all.length).drop all.length = [] := List.drop_eq_nil_of_le (by simp)
    rw [this]
    exact h
  | n, m + 1, σ, A, hn, h => by
    have hlt : n < all.length := by omega
    rw [List.drop_eq_getElem_cons hlt] at h
    have e2 : (List.range all.length).drop n = n :: (List.range all.length).drop (n + 1) := by
      rw [List.drop_eq_getElem_cons (by simpa using hlt)]
      simp
    rw [e2]
    rw [krun_cons, kwant_ok] at h
    simp only [runIx]
    rw [List.getElem?_eq_getElem hlt]
    simp only [Option.bind_some]
    replace h := bind_some h
    obtain ⟨g, h1, h⟩ := h
    rw [h1]
    simp only [Option.bind_some]
    cases g with
    | true =>
      simp only [cond_true] at h ⊢
      obtain ⟨v, l, A', h2, h3, _⟩ := kstep_ok h
      rw [h2]
      rw [kdput_ok] at h3
      replace h3 := bind_some h3
      obtain ⟨σ', h4, h5⟩ := h3
      simp only [Option.bind_some, h4]
      exact krun_ok (n + 1) m σ' A' (by omega) h5
    | false =>
      simp only [cond_false] at h ⊢
      rw [kdput_ok] at h
      replace h := bind_some h
      obtain ⟨σ', h4, h5⟩ := h
      simp only [Option.bind_some, h4]
      exact krun_ok (n + 1) m σ' A (by omega) h5

noncomputable def kdraw {R : Type} (E : Env) (call : CallT) (N : Nat) (opl : List Oper) (ms : List Nat) (l : List Nat) : Sl → List Lg → (Sl → Hp → Option R) → Hp → Option R :=
  @List.rec Nat (fun _ => Sl → List Lg → (Sl → Hp → Option R) → Hp → Option R) (fun σ _ k A => k σ A)
    (fun i _ ih σ lg k A => (opl[i]?).bind fun o => kwant opl σ o fun g =>
      bif g then
        match cls E o with
        | 0 => kstep E call σ o A fun v _ A' => kdput N σ o.dst v fun σ' => ih σ' lg k A'
        | 1 => match isLoad o.op, newsOf ms i lg with
          | true, [] => kstep E call σ o A fun v rd A' => kdput N σ o.dst v fun σ' => ih σ' (⟨i, rd, none⟩ :: lg) k A'
          | _, _ => kstep E call σ o A fun v rd A' => bif rd.all (fun y => (A.get y).isSome && !(newsOf ms i lg).elem y) then
              kdput N σ o.dst v fun σ' => ih σ' (⟨i, rd, none⟩ :: lg) k A'
            else none
        | 2 => kstep E call σ o A fun v _ A' => kdput N σ o.dst v fun σ' => ih σ' (⟨i, [], some A.next⟩ :: lg) k A'
        | _ => match newsOf ms i lg, readBy ms i lg with
          | [], [] => kstep E call σ o A fun v _ A' => kdput N σ o.dst v fun σ' => ih σ' lg k A'
          | ns, rs => kList ns fun ns => kList rs fun rs => kstep E call σ o (guardL (hideL A ns) rs) fun v _ A' => kdput N σ o.dst v fun σ' => ih σ' lg k (backL A (backL A A' rs) ns)
      else kdput N σ o.dst undef fun σ' => ih σ' lg k A) l

theorem kdraw_cons {R : Type} {E : Env} {call : CallT} {N : Nat} {opl : List Oper} {ms : List Nat} (i : Nat) (l : List Nat) (σ : Sl) (lg : List Lg) (k : Sl → Hp → Option R) (A : Hp) :
    kdraw E call N opl ms (i :: l) σ lg k A = (opl[i]?).bind fun o => kwant opl σ o fun g =>
      bif g then
        match cls E o with
        | 0 => kstep E call σ o A fun v _ A' => kdput N σ o.dst v fun σ' => kdraw E call N opl ms l σ' lg k A'
        | 1 => match isLoad o.op, newsOf ms i lg with
          | true, [] => kstep E call σ o A fun v rd A' => kdput N σ o.dst v fun σ' => kdraw E call N opl ms l σ' (⟨i, rd, none⟩ :: lg) k A'
          | _, _ => kstep E call σ o A fun v rd A' => bif rd.all (fun y => (A.get y).isSome && !(newsOf ms i lg).elem y) then
              kdput N σ o.dst v fun σ' => kdraw E call N opl ms l σ' (⟨i, rd, none⟩ :: lg) k A'
            else none
        | 2 => kstep E call σ o A fun v _ A' => kdput N σ o.dst v fun σ' => kdraw E call N opl ms l σ' (⟨i, [], some A.next⟩ :: lg) k A'
        | _ => match newsOf ms i lg, readBy ms i lg with
          | [], [] => kstep E call σ o A fun v _ A' => kdput N σ o.dst v fun σ' => kdraw E call N opl ms l σ' lg k A'
          | ns, rs => kList ns fun ns => kList rs fun rs => kstep E call σ o (guardL (hideL A ns) rs) fun v _ A' => kdput N σ o.dst v fun σ' => kdraw E call N opl ms l σ' lg k (backL A (backL A A' rs) ns)
      else kdput N σ o.dst undef fun σ' => kdraw E call N opl ms l σ' lg k A := rfl

theorem kdraw_ok {R : Type} {E : Env} {call : CallT} {N : Nat} {ops : Array Oper} {opl : List Oper} {ms : List Nat} {k : Sl → Hp → Option R} {r : R} : ∀ (l : List Nat) (σ : Sl) (lg : List Lg) (A : Hp),
    kdraw E call N opl ms l σ lg k A = some r → drawRun E call N ops opl ms l σ lg k A = some r
  | [], σ, lg, A, h => h
  | i :: l, σ, lg, A, h => by
    rw [kdraw_cons] at h
    simp only [drawRun]
    replace h := bind_some h
    obtain ⟨o, h1, h⟩ := h
    rw [kwant_ok] at h
    replace h := bind_some h
    obtain ⟨g, h2, h⟩ := h
    rw [h1]
    simp only [Option.bind_some, h2]
    cases g with
    | false =>
      simp only [cond_false] at h ⊢
      rw [kdput_ok] at h
      replace h := bind_some h
      obtain ⟨σ', h4, h5⟩ := h
      simp only [Option.bind_some, h4]
      exact kdraw_ok l σ' lg A h5
    | true =>
      simp only [cond_true] at h ⊢
      have eff : 3 ≤ cls E o → ∀ ns rs, newsOf ms i lg = ns → readBy ms i lg = rs →
          (kstep E call σ o (guardL (hideL A ns) rs) fun v _ A' => kdput N σ o.dst v fun σ' => kdraw E call N opl ms l σ' lg k (backL A (backL A A' rs) ns)) = some r →
          ((dstep E call σ o (guardL (hideL A (newsOf ms i lg)) (readBy ms i lg))).bind fun x => (dput N σ o.dst x.1).bind fun σ' =>
            drawRun E call N ops opl ms l σ' lg k (backL A (backL A x.2 (readBy ms i lg)) (newsOf ms i lg))) = some r := by
        intro hc ns rs e1 e2 h
        subst e1; subst e2
        obtain ⟨v, lx, A', h3, h4, _⟩ := kstep_ok h
        rw [h3]
        rw [kdput_ok] at h4
        replace h4 := bind_some h4
        obtain ⟨σ', h5, h6⟩ := h4
        simp only [Option.bind_some, h5]
        exact kdraw_ok l σ' lg _ h6
      split at h
      · rename_i hc
        obtain ⟨v, lx, A', h3, h4, h0, _⟩ := kstep_ok h
        obtain ⟨rfl, rfl, hv⟩ := h0 hc
        rw [hc, hv]
        rw [kdput_ok] at h4
        replace h4 := bind_some h4
        obtain ⟨σ', h5, h6⟩ := h4
        simp only [Option.bind_some, h5]
        exact kdraw_ok l σ' lg _ h6
      · rename_i hc
        split at h
        · rename_i hlo hnw
          obtain ⟨v, lx, A', h3, h4, _, h0, _⟩ := kstep_ok h
          obtain ⟨rfl, hv⟩ := h0 hc
          have hids := drd_load hlo hv
          have hall : lx.all (fun y => (A'.get y).isSome && !(newsOf ms i lg).elem y) = true := by
            rw [List.all_eq_true]
            intro y hy
            rw [hnw, hids y hy]
            rfl
          rw [hc, hv]
          simp only [Option.bind_some]
          rw [hall]
          simp only [cond_true]
          rw [kdput_ok] at h4
          replace h4 := bind_some h4
          obtain ⟨σ', h5, h6⟩ := h4
          simp only [Option.bind_some, h5]
          exact kdraw_ok l σ' _ _ h6
        · obtain ⟨v, lx, A', h3, h4, _, h0, _⟩ := kstep_ok h
          obtain ⟨rfl, hv⟩ := h0 hc
          rw [hc, hv]
          simp only [Option.bind_some]
          cases ha : lx.all (fun y => (A'.get y).isSome && !(newsOf ms i lg).elem y) with
          | false => rw [ha] at h4; cases h4
          | true =>
            rw [ha] at h4
            simp only [cond_true] at h4 ⊢
            rw [kdput_ok] at h4
            replace h4 := bind_some h4
            obtain ⟨σ', h5, h6⟩ := h4
            simp only [Option.bind_some, h5]
            exact kdraw_ok l σ' _ _ h6
      · rename_i hc
        obtain ⟨v, lx, A', h3, h4, _, _, h0⟩ := kstep_ok h
        obtain ⟨rfl, ob, f, hv, rfl, rfl⟩ := h0 hc
        rw [hc, hv]
        rw [kdput_ok] at h4
        replace h4 := bind_some h4
        obtain ⟨σ', h5, h6⟩ := h4
        simp only [Option.bind_some, h5]
        exact kdraw_ok l σ' _ _ h6
      · rename_i h0 h1' h2'
        have hc : 3 ≤ cls E o := by
          have : cls E o ≠ 0 ∧ cls E o ≠ 1 ∧ cls E o ≠ 2 := ⟨h0, h1', h2'⟩
          omega
        have key : ((dstep E call σ o (guardL (hideL A (newsOf ms i lg)) (readBy ms i lg))).bind fun x => (dput N σ o.dst x.1).bind fun σ' =>
            drawRun E call N ops opl ms l σ' lg k (backL A (backL A x.2 (readBy ms i lg)) (newsOf ms i lg))) = some r := by
          split at h
          · rename_i e1 e2
            exact eff hc [] [] e1 e2 h
          · rw [kList_eq, kList_eq] at h
            exact eff hc _ _ rfl rfl h
        split
        · rename_i e; exact absurd e h0
        · rename_i e; exact absurd e h1'
        · rename_i e; exact absurd e h2'
        · exact key

noncomputable def kexec {R : Type} (E : Env) (call : CallT) (N : Nat) (inf : Inf) (lf : Nat) (c : Code) : Sl → Hp → (Ex → Sl → Hp → Option R) → Option R :=
  @Code.rec (fun _ => Sl → Hp → (Ex → Sl → Hp → Option R) → Option R)
    (fun σ A k => k .normal σ A)
    (fun id ops draw σ A k => bif draw then (inf id).bind fun x => kdraw E call N ops.toList x.1 x.2 σ [] (fun σ A => k .normal σ A) A
      else krun E call N ops.toList ops.toList σ (fun σ A => k .normal σ A) A)
    (fun _ _ iha ihb σ A k => iha σ A fun e σ' A' => match e with
      | .normal => ihb σ' A' k
      | _ => k e σ' A')
    (fun c a b iha ihb σ A k => match keepC inf a with
      | none => (evO E σ c).bind fun v => match v with
        | .bool t => bif t then iha σ A k else ihb σ A k
        | _ => none
      | some _ => (exec E call N inf lf (.cond c a b) σ A).bind fun r => match r with
        | (e, σ', A') => k e σ' A')
    (fun id _ ih σ A k => ih σ A fun e σ' A' => match e with
      | .exit j => bif Nat.beq j id then k .normal σ' A' else k e σ' A'
      | _ => k e σ' A')
    (fun c _ σ A k => kList (keepSl (keepOf inf c) σ) fun σ0 => (loopD (keepOf inf c) (exec E call N inf lf c) lf σ0 A).bind fun r => match r with
      | (e, σ', A') => k e σ' A')
    (fun f ps a b _ _ σ A k => (exec E call N inf lf (.rangeFunc f ps a b) σ A).bind fun r => match r with
      | (e, σ', A') => k e σ' A')
    (fun id σ A k => k (.exit id) σ A)
    (fun _ ih σ A k => ih σ A k)
    (fun _ σ A k => k .normal σ A)
    (fun _ _ _ _ => none)
    (fun σ A k => k .ret σ A)
    (fun _ _ _ _ => none) c

theorem kexec_ok {E : Env} {call : CallT} {N : Nat} {inf : Inf} {lf : Nat} : ∀ (c : Code) {R : Type} {σ : Sl} {A : Hp} {k : Ex → Sl → Hp → Option R} {r : R},
    kexec E call N inf lf c σ A k = some r → ∃ e σ' A', exec E call N inf lf c σ A = some (e, σ', A') ∧ k e σ' A' = some r := by
  intro c
  induction c with
  | skip => intro R σ A k r h; exact ⟨_, _, _, rfl, h⟩
  | region id ops draw =>
    intro R σ A k r h
    cases draw with
    | true =>
      change ((inf id).bind fun x => kdraw E call N ops.toList x.1 x.2 σ [] (fun σ A => k .normal σ A) A) = some r at h
      replace h := bind_some h
      obtain ⟨x, h1, h⟩ := h
      have h2 := kdraw_ok (ops := ops) _ _ _ _ h
      simp only [exec, cond_true, h1, Option.bind_some]
      have key : ∀ (l : List Nat) (σ : Sl) (lg : List Lg) (A : Hp), drawRun E call N ops ops.toList x.1 l σ lg (fun σ A => k .normal σ A) A = some r →
          ∃ σ' A', drawRun E call N ops ops.toList x.1 l σ lg (fun σ A => some (Ex.normal, σ, A)) A = some (Ex.normal, σ', A') ∧ k .normal σ' A' = some r := by
        intro l
        induction l with
        | nil => intro σ lg A h; exact ⟨_, _, rfl, h⟩
        | cons i l ih =>
          intro σ lg A h
          simp only [drawRun] at h ⊢
          replace h := bind_some h
          obtain ⟨o, a1, h⟩ := h
          replace h := bind_some h
          obtain ⟨g, a2, h⟩ := h
          rw [a1]
          simp only [Option.bind_some, a2]
          cases g with
          | false =>
            simp only [cond_false] at h ⊢
            replace h := bind_some h
            obtain ⟨σ', a3, h⟩ := h
            simp only [Option.bind_some, a3]
            exact ih _ _ _ h
          | true =>
            simp only [cond_true] at h ⊢
            split at h
            · replace h := bind_some h
              obtain ⟨v, a3, h⟩ := h
              replace h := bind_some h
              obtain ⟨σ', a4, h⟩ := h
              simp only [Option.bind_some, a3, a4]
              exact ih _ _ _ h
            · replace h := bind_some h
              obtain ⟨y, a3, h⟩ := h
              simp only [Option.bind_some, a3]
              cases hal : y.2.all (fun z => (A.get z).isSome && !(newsOf x.1 i lg).elem z) with
              | true =>
                rw [hal] at h
                simp only [cond_true] at h ⊢
                replace h := bind_some h
                obtain ⟨σ', a4, h⟩ := h
                simp only [Option.bind_some, a4]
                exact ih _ _ _ h
              | false => rw [hal] at h; cases h
            · replace h := bind_some h
              obtain ⟨y, a3, h⟩ := h
              replace h := bind_some h
              obtain ⟨σ', a4, h⟩ := h
              simp only [Option.bind_some, a3, a4]
              exact ih _ _ _ h
            · rename_i c0 c1 c2
              replace h := bind_some h
              obtain ⟨y, a3, h⟩ := h
              replace h := bind_some h
              obtain ⟨σ', a4, h⟩ := h
              simp only [Option.bind_some, a3, a4]
              exact ih _ _ _ h
      obtain ⟨σ', A', a1, a2⟩ := key _ _ _ _ h2
      exact ⟨_, _, _, a1, a2⟩
    | false =>
      change krun E call N ops.toList ops.toList σ (fun σ A => k .normal σ A) A = some r at h
      have h2 := krun_ok (all := ops.toList) 0 ops.toList.length σ A (Nat.zero_add _) (by rw [List.drop_zero]; exact h)
      simp only [exec, cond_false]
      simp only [List.drop_zero] at h2
      have key : ∀ (l : List Nat) (σ : Sl) (A : Hp), runIx E call N ops.toList l σ (fun σ A => k .normal σ A) A = some r →
          ∃ σ' A', runIx E call N ops.toList l σ (fun σ A => some (Ex.normal, σ, A)) A = some (Ex.normal, σ', A') ∧ k .normal σ' A' = some r := by
        intro l
        induction l with
        | nil => intro σ A h; exact ⟨_, _, rfl, h⟩
        | cons i l ih =>
          intro σ A h
          simp only [runIx] at h ⊢
          replace h := bind_some h
          obtain ⟨o, a1, h⟩ := h
          replace h := bind_some h
          obtain ⟨g, a2, h⟩ := h
          replace h := bind_some h
          obtain ⟨x, a3, h⟩ := h
          replace h := bind_some h
          obtain ⟨σ', a4, h⟩ := h
          simp only [a1, a2, a3, a4, Option.bind_some]
          exact ih _ _ h
      have hl : ops.toList.length = ops.size := by simp
      rw [hl] at h2
      obtain ⟨σ', A', a1, a2⟩ := key _ _ _ h2
      exact ⟨_, _, _, a1, a2⟩
  | seq a b iha ihb =>
    intro R σ A k r h
    change (kexec E call N inf lf a σ A fun e σ' A' => match e with
      | .normal => kexec E call N inf lf b σ' A' k
      | _ => k e σ' A') = some r at h
    obtain ⟨e, σ1, A1, h1, h2⟩ := iha h
    simp only [exec, h1, Option.bind_some]
    cases e with
    | normal => exact ihb h2
    | exit id => exact ⟨_, _, _, rfl, h2⟩
    | ret => exact ⟨_, _, _, rfl, h2⟩
  | cond c a b iha ihb =>
    intro R σ A k r h
    change (match keepC inf a with
      | none => (evO E σ c).bind fun v => match v with
        | .bool t => bif t then kexec E call N inf lf a σ A k else kexec E call N inf lf b σ A k
        | _ => none
      | some _ => (exec E call N inf lf (.cond c a b) σ A).bind fun r => match r with
        | (e, σ', A') => k e σ' A') = some r at h
    split at h
    · rename_i hkc
      replace h := bind_some h
      obtain ⟨v, h1, h⟩ := h
      simp only [exec, h1, Option.bind_some]
      split at h
      · rename_i t
        cases t with
        | true =>
          obtain ⟨e, σ', A', g1, g2⟩ := iha h
          exact ⟨e, σ', A', by simp only [cond_true, g1, Option.bind_some, hkc, keepSl], g2⟩
        | false =>
          obtain ⟨e, σ', A', g1, g2⟩ := ihb h
          exact ⟨e, σ', A', by simp only [cond_false, g1, Option.bind_some, hkc, keepSl], g2⟩
      · cases h
    · replace h := bind_some h
      obtain ⟨⟨e, σ', A'⟩, h1, h⟩ := h
      exact ⟨e, σ', A', h1, h⟩
  | block id c ih =>
    intro R σ A k r h
    change (kexec E call N inf lf c σ A fun e σ' A' => match e with
      | .exit j => bif Nat.beq j id then k .normal σ' A' else k e σ' A'
      | _ => k e σ' A') = some r at h
    obtain ⟨e, σ1, A1, h1, h2⟩ := ih h
    simp only [exec, h1, Option.bind_some]
    cases e with
    | normal => exact ⟨_, _, _, rfl, h2⟩
    | exit j =>
      simp only at h2 ⊢
      cases hb : Nat.beq j id with
      | true => rw [hb] at h2; exact ⟨_, _, _, rfl, h2⟩
      | false => rw [hb] at h2; exact ⟨_, _, _, rfl, h2⟩
    | ret => exact ⟨_, _, _, rfl, h2⟩
  | loop c ih =>
    intro R σ A k r h
    change (kList (keepSl (keepOf inf c) σ) fun σ0 => (loopD (keepOf inf c) (exec E call N inf lf c) lf σ0 A).bind fun r => match r with
      | (e, σ', A') => k e σ' A') = some r at h
    rw [kList_eq] at h
    replace h := bind_some h
    obtain ⟨⟨e, σ1, A1⟩, h1, h⟩ := h
    exact ⟨e, σ1, A1, by simp only [exec]; exact h1, h⟩
  | exit id => intro R σ A k r h; exact ⟨_, _, _, rfl, h⟩
  | scope c ih => intro R σ A k r h; simp only [exec]; exact ih h
  | label l => intro R σ A k r h; exact ⟨_, _, _, rfl, h⟩
  | ret => intro R σ A k r h; exact ⟨_, _, _, rfl, h⟩
  | rangeFunc f ps x y =>
    intro R σ A k r h
    change ((exec E call N inf lf (.rangeFunc f ps x y) σ A).bind fun r => match r with
      | (e, σ', A') => k e σ' A') = some r at h
    replace h := bind_some h
    obtain ⟨⟨e, σ1, A1⟩, h1, h⟩ := h
    exact ⟨e, σ1, A1, h1, h⟩
  | _ => intro R σ A k r h; cases h

noncomputable def kres {R : Type} (E : Env) (A : Hp) (σ : Sl) (l : List ResultVar) : (List Value → Option R) → Option R :=
  @List.rec ResultVar (fun _ => (List Value → Option R) → Option R) (fun k => k [])
    (fun x _ ih k => match x with
      | .tmp t => (σ.get t).bind fun v => ih fun vs => k (v :: vs)
      | .cell ad t => (σ.get ad).bind fun p => kload E t A p fun x _ => ih fun vs => k (x :: vs)) l

theorem kres_ok {R : Type} {E : Env} {A : Hp} {σ : Sl} : ∀ (l : List ResultVar) {k : List Value → Option R} {r : R}, kres E A σ l k = some r → ∃ vs, resD E A σ l = some vs ∧ k vs = some r
  | [], k, r, h => ⟨[], rfl, h⟩
  | .tmp t :: l, k, r, h => by
    change ((σ.get t).bind fun v => kres E A σ l fun vs => k (v :: vs)) = some r at h
    replace h := bind_some h
    obtain ⟨v, h1, h⟩ := h
    obtain ⟨vs, h2, h3⟩ := kres_ok l h
    exact ⟨v :: vs, by simp [resD, h1, h2], h3⟩
  | .cell ad t :: l, k, r, h => by
    change ((σ.get ad).bind fun p => kload E t A p fun x _ => kres E A σ l fun vs => k (x :: vs)) = some r at h
    replace h := bind_some h
    obtain ⟨p, h1, h⟩ := h
    obtain ⟨y, h0, h⟩ := kload_ok h
    obtain ⟨vs, h2, h3⟩ := kres_ok l h
    exact ⟨y.1 :: vs, by simp [resD, h1, h0, h2], h3⟩

/-- a function's run, the result handed on -/
noncomputable def kfn (E : Env) (call : CallT) (inf : Inf) (lf : Nat) (fn : Func) (args : List Value) (A : Hp) : Option (Value × Hp) :=
  match fn.body with
  | none => none
  | some c => bif Nat.ble args.length fn.ntmps then kexec E call fn.ntmps inf lf c (slotsOf 0 args) A fun e σ A' => match e with
    | .exit _ => none
    | _ => kres E A' σ fn.results.toList fun vs => some (resV vs, A')
    else none

theorem kfn_ok {E : Env} {call : CallT} {inf : Inf} {lf : Nat} {fn : Func} {args : List Value} {A : Hp} {r : Value × Hp} (h : kfn E call inf lf fn args A = some r) : execFn E call inf lf fn args A = some r := by
  unfold kfn at h
  unfold execFn
  cases hb : fn.body with
  | none => rw [hb] at h; cases h
  | some c =>
    rw [hb] at h
    simp only at h
    simp only [Option.bind_some]
    cases hle : Nat.ble args.length fn.ntmps with
    | true =>
      rw [hle] at h
      obtain ⟨e, σ', A', h1, h2⟩ := kexec_ok c h
      simp only [cond_true, h1, Option.bind_some]
      cases e with
      | exit id => cases h2
      | normal =>
        obtain ⟨vs, h3, h4⟩ := kres_ok _ h2
        simp only [h3, Option.bind_some]; exact h4
      | ret =>
        obtain ⟨vs, h3, h4⟩ := kres_ok _ h2
        simp only [h3, Option.bind_some]; exact h4
    | false => rw [hle] at h; cases h

end Go.Dn
end

section
namespace Go.Dn

def cellsIn (cs : List Value) (o n : Nat) : Option (List Value) := bif Nat.ble (o + n) cs.length then some ((cs.drop o).take n) else none

theorem cellsAt_of {A : Hp} {i : Nat} {T : TypeId} {cs : List Value} {md : Md} (h : A.get i = some (.arr T cs md)) (o n : Nat) : cellsAt A i o n = cellsIn cs o n := by
  unfold cellsAt cellsIn
  rw [h]
  simp only
  by_cases hl : o + n ≤ cs.length
  · rw [if_pos hl]
    have : Nat.ble (o + n) cs.length = true := by simpa using hl
    rw [this]; rfl
  · rw [if_neg hl]
    have : Nat.ble (o + n) cs.length = false := by
      cases hb : Nat.ble (o + n) cs.length with
      | false => rfl
      | true => exact absurd (by simpa using hb) hl
    rw [this]; rfl

theorem cellsIn_of {cs us : List Value} {o n : Nat} (h1 : o + n ≤ cs.length) (h2 : (cs.drop o).take n = us) : cellsIn cs o n = some us := by
  unfold cellsIn
  have : Nat.ble (o + n) cs.length = true := by simpa using h1
  rw [this, cond_true, h2]

/-- the cells with some written over -/
def cellsPut (cs : List Value) (o : Nat) (us : List Value) : List Value := cs.take o ++ us ++ cs.drop (o + us.length)

def storeIn (E : Env) (t : TypeId) (cs : List Value) (o : Nat) (v : Value) : Option (List Value) :=
  (E.T t).bind fun i => bif Nat.beq v.cells.size i.size && oneCells v.cells.toList && Nat.ble (o + v.cells.toList.length) cs.length then some (cellsPut cs o v.cells.toList) else none

theorem dstore_of {E : Env} {A : Hp} {i : Nat} {T : TypeId} {cs cs' : List Value} (h : A.get i = some (.arr T cs .own)) {t : TypeId} {o : Nat} {v : Value} (hs : storeIn E t cs o v = some cs') :
    dstore E t A (.pointer (some ⟨i, o, none⟩)) v = some (A.set i (some (.arr T cs' .own))) := by
  unfold storeIn at hs
  unfold dstore
  replace hs := bind_some hs
  obtain ⟨ti, h1, hs⟩ := hs
  rw [h1]
  simp only [Option.bind_some]
  cases hb : (Nat.beq v.cells.size ti.size && oneCells v.cells.toList && Nat.ble (o + v.cells.toList.length) cs.length) with
  | false => rw [hb] at hs; cases hs
  | true =>
    rw [hb] at hs
    simp only [cond_true, Option.some.injEq] at hs
    subst hs
    simp only [Bool.and_eq_true, Nat.beq_eq, Nat.ble_eq] at hb
    obtain ⟨⟨h2, h3⟩, h4⟩ := hb
    rw [if_pos ⟨h2, h3⟩]
    unfold setCellsAt
    rw [h]
    simp only
    rw [if_pos h4]
    rfl

theorem dstore_at {E : Env} {A : Hp} {i : Nat} {T : TypeId} {cs : List Value} (h : A.get i = some (.arr T cs .own)) {t : TypeId} {ti : TI} (ht : E.T t = some ti) {o : Nat} {v : Value} (us : List Value)
    (hv : v.cells.toList = us) (hsz : v.cells.size = ti.size) (h1 : oneCells us = true) (hl : o + us.length ≤ cs.length) :
    dstore E t A (.pointer (some ⟨i, o, none⟩)) v = some (A.set i (some (.arr T (cellsPut cs o us) .own))) := by
  refine dstore_of h ?_
  unfold storeIn
  subst hv
  rw [ht]
  simp only [Option.bind_some]
  have h2 : Nat.beq v.cells.size ti.size = true := by simpa using hsz
  have h3 : Nat.ble (o + v.cells.toList.length) cs.length = true := by simpa using hl
  rw [h2, h1, h3]
  rfl

theorem cellsPut_drop {cs us : List Value} {o m : Nat} (h : o + us.length ≤ cs.length) (hm : us.length ≤ m) : (cellsPut cs o us).drop (o + m) = cs.drop (o + m) := by
  unfold cellsPut
  rw [List.append_assoc, List.drop_append, List.drop_append, List.drop_drop]
  have e1 : (cs.take o).drop (o + m) = [] := List.drop_eq_nil_of_le (by simp; omega)
  have e2 : us.drop (o + m - (cs.take o).length) = [] := List.drop_eq_nil_of_le (by simp; omega)
  rw [e1, e2]
  simp only [List.nil_append, List.length_take]
  congr 1
  omega

theorem cellsPut_length {cs us : List Value} {o : Nat} (h : o + us.length ≤ cs.length) : (cellsPut cs o us).length = cs.length := by
  unfold cellsPut
  simp; omega

theorem bind_of {α β : Type} {x : Option α} {a : α} {f : α → Option β} {r : Option β} (h : x = some a) (h2 : f a = r) : x.bind f = r := by rw [h]; exact h2

/-! ## heaps that are the same -/
theorem Tr.upd_upd {α : Type} (a b : Option α) : ∀ (f : Nat) (t : Tr α) (n : Nat), n < f → Tr.upd b f (Tr.upd a f t n) n = Tr.upd b f t n := by
  intro f
  induction f with
  | zero => intro t n h; omega
  | succ f ih =>
    intro t n hn
    by_cases h0 : n = 0
    · subst h0
      cases t <;> simp only [Tr.upd, Tr.beq_tt, cond_true]
    · have hf : (n - 1) / 2 < f := by omega
      by_cases ho : n % 2 = 1
      · cases t <;> simp only [Tr.upd, Tr.beq_ff h0, ho, Tr.beq_tt, cond_true, cond_false, ih _ _ hf]
      · cases t <;> simp only [Tr.upd, Tr.beq_ff h0, Tr.beq_ff ho, cond_false, ih _ _ hf]

theorem Tr.upd_self {α : Type} (v : α) : ∀ (f : Nat) (t : Tr α) (n : Nat), n < f → t.get n = some v → Tr.upd (some v) f t n = t := by
  intro f
  induction f with
  | zero => intro t n h; omega
  | succ f ih =>
    intro t n hn hg
    cases t with
    | nil => simp at hg
    | node l x r =>
      by_cases h0 : n = 0
      · subst h0
        simp only [Tr.get, Tr.beq_tt, cond_true] at hg
        subst hg
        simp only [Tr.upd, Tr.beq_tt, cond_true]
      · have hf : (n - 1) / 2 < f := by omega
        by_cases ho : n % 2 = 1
        · simp only [Tr.get, Tr.beq_ff h0, ho, Tr.beq_tt, cond_true, cond_false] at hg
          simp only [Tr.upd, Tr.beq_ff h0, ho, Tr.beq_tt, cond_true, cond_false, ih _ _ hf hg]
        · simp only [Tr.get, Tr.beq_ff h0, Tr.beq_ff ho, cond_false] at hg
          simp only [Tr.upd, Tr.beq_ff h0, Tr.beq_ff ho, cond_false, ih _ _ hf hg]

theorem Hp.set_set (A : Hp) (i : Nat) (a b : Option Ob) : (A.set i a).set i b = A.set i b := by
  unfold Hp.set
  simp only [Tr.upd_upd a b (i + 1) A.tr i (by omega)]

theorem Hp.set_self {A : Hp} {i : Nat} {o : Ob} (h : A.get i = some o) : A.set i (some o) = A := by
  unfold Hp.set
  rw [Tr.upd_self o (i + 1) A.tr i (by omega) h]

/-- one object was guarded, nothing changed -/
theorem back1 {A : Hp} {p : Nat} {o : Ob} (h : A.get p = some o) : backL A (backL A (guardL (hideL A []) [p]) [p]) [] = A := by
  show ((A.set p ((A.get p).bind toRoO)).set p (A.get p)) = A
  rw [Hp.set_set, h, Hp.set_self h]

theorem guard1_ne {A : Hp} {p q : Nat} (h : q ≠ p) : (guardL (hideL A []) [p]).get q = A.get q := by
  show (A.set p ((A.get p).bind toRoO)).get q = A.get q
  rw [Hp.get_set_ne _ _ h]

/-- one cell of a row's part -/
theorem cell_of {A : Hp} {i : Nat} {T : TypeId} {cs L : List Value} {md : Md} {o k : Nat} (hg : A.get i = some (.arr T cs md)) (hu : (cs.drop o).take k = L) (j : Nat) (x : Value) {off : Nat}
    (hx : L[j]? = some x) (he : off = o + j) : cellsAt A i off 1 = some [x] := by
  subst hu
  rw [cellsAt_of hg]
  rw [List.getElem?_take] at hx
  split at hx
  · rw [List.getElem?_drop] at hx
    obtain ⟨h1, h2⟩ := List.getElem?_eq_some_iff.1 hx
    refine cellsIn_of (by omega) ?_
    subst he
    rw [List.drop_eq_getElem_cons h1, List.take_succ_cons, List.take_zero, h2]
  · cases hx

/-! ## loops -/
theorem loop_rule {ks : Option (List Nat)} {f : Sl → Hp → Option (Ex × Sl × Hp)} {S : Type} (σof : S → Sl) (I : S → Hp → Prop) (μ : S → Nat) (Post : Ex → Sl → Hp → Prop)
    (step : ∀ s A, I s A → ∃ e σ1 A1, f (σof s) A = some (e, σ1, A1) ∧ ((e = .normal ∧ ∃ s', keepSl ks σ1 = σof s' ∧ I s' A1 ∧ μ s' < μ s) ∨ (e ≠ .normal ∧ Post e (keepSl ks σ1) A1))) :
    ∀ n s A, I s A → μ s < n → ∃ e σ1 A1, loopD ks f n (σof s) A = some (e, σ1, A1) ∧ Post e σ1 A1 := by
  intro n
  induction n with
  | zero => intro s A _ h; omega
  | succ n ih =>
    intro s A hI hμ
    obtain ⟨e, σ1, A1, h1, h2⟩ := step s A hI
    rcases h2 with ⟨rfl, s', h3, h4, h5⟩ | ⟨h3, h4⟩
    · obtain ⟨e, σ2, A2, g1, g2⟩ := ih s' A1 h4 (by omega)
      refine ⟨e, σ2, A2, ?_, g2⟩
      simp only [loopD, h1, Option.bind_some, h3]
      exact g1
    · refine ⟨e, keepSl ks σ1, A1, ?_, h4⟩
      simp only [loopD, h1, Option.bind_some]

theorem kexec_run {E : Env} {call : CallT} {N : Nat} {inf : Inf} {lf : Nat} {c : Code} {σ : Sl} {A : Hp} {r : Ex × Sl × Hp}
    (h : kexec E call N inf lf c σ A (fun e σ A => some (e, σ, A)) = some r) : exec E call N inf lf c σ A = some r := by
  obtain ⟨e, σ', A', h1, h2⟩ := kexec_ok c h
  cases h2
  exact h1

def loops : Code → List Code
  | .seq a b => loops a ++ loops b
  | .cond _ a b => loops a ++ loops b
  | .block _ c => loops c
  | .loop c => c :: loops c
  | .scope c => loops c
  | _ => []

/-- a function's loops, in the order of the text -/
def loopOf (fn : Func) (k : Nat) : Code := match fn.body with
  | some c => match (loops c)[k]? with
    | some b => b
    | none => .skip
  | none => .skip

/-! ## heaps in order -/
def Hp.wf (A : Hp) : Prop := ∀ i, A.next ≤ i → A.get i = none
theorem Hp.wf.push {A : Hp} (h : A.wf) (o : Ob) : (A.push o).wf := by
  intro i hi
  simp only [Hp.next_push] at hi
  rw [Hp.get_push_ne _ _ (by omega)]
  exact h i (by omega)
theorem Hp.wf.drop {A : Hp} (h : A.wf) (j : Nat) : (A.set j none).wf := by
  intro i hi
  rw [Hp.get_set]
  split
  · rfl
  · exact h i hi
theorem Hp.wf.lt {A : Hp} (h : A.wf) {i : Nat} {o : Ob} (hg : A.get i = some o) : i < A.next := by
  rcases Nat.lt_or_ge i A.next with h1 | h1
  · exact h1
  · rw [h i h1] at hg; cases hg
theorem Hp.wf.put {A : Hp} (h : A.wf) {i : Nat} {o : Ob} (hg : A.get i = some o) (o' : Ob) : (A.set i (some o')).wf := by
  intro j hj
  have := h.lt hg
  have hj' : A.next ≤ j := hj
  rw [Hp.get_set_ne _ _ (by omega)]
  exact h j hj'

theorem elemsOf_keep {A A' : Hp} {sz : Nat} {x : Value} {r : Nat × List Value} (h : elemsOf A sz x = some r) (hk : ∀ i o, A.get i = some o → (∃ b o s n c, x = .slice (some ⟨b, o, s⟩) n c ∧ b = i) → A'.get i = A.get i) :
    elemsOf A' sz x = some r := by
  unfold elemsOf at h ⊢
  split at h
  · exact h
  · exact h
  · rename_i b o s m c
    split at h
    · rename_i hs
      simp only [hs, if_true]
      cases hm : Nat.beq m 0 with
      | true => rw [hm] at h; exact h
      | false =>
        rw [hm] at h
        simp only [cond_false] at h ⊢
        cases hc : cellsAt A b o (m * sz) with
        | none => rw [hc] at h; cases h
        | some us =>
          have : cellsAt A' b o (m * sz) = some us := by
            unfold cellsAt at hc ⊢
            cases hg : A.get b with
            | none => rw [hg] at hc; cases hc
            | some ob =>
              rw [hk b ob hg ⟨b, o, some s, m, c, rfl, rfl⟩]
              exact hc
          rw [this]
          rw [hc] at h
          exact h
    · cases h
  · cases h

/-! ## calls of functions of the text -/
theorem callD_of {B : Bk} {base : CallT} {n : Nat} {f : FuncId} {fn : Func} {args : List Value} {A : Hp} {r : Value × Hp} (hb : base f args A = none) (hf : B.fs.get f = some fn)
    (h : kfn B.E (callD B base n) (B.inf f) n fn args A = some r) : callD B base (n + 1) f args A = some r := by
  simp only [callD, hb, hf, Option.bind_some]
  exact kfn_ok h

end Go.Dn
end

section
namespace Go.Dn

/-- a slice of one's own: where it lies, its cells, how many elements -/
inductive SlAt (e sz : Nat) (A : Hp) : Value → Option Nat → List Value → Nat → Prop where
  | nil : SlAt e sz A (.slice none 0 0) none [] 0
  | at (i o n c : Nat) (cs us : List Value) (hc : c = 2 * n ∨ c = 2 * n + 1) (hg : A.get i = some (.arr e cs .own)) (hl : o + n * sz ≤ cs.length) (hu : (cs.drop o).take (n * sz) = us) :
      SlAt e sz A (.slice (some ⟨i, o, some sz⟩) n c) (some i) us n

theorem SlAt.len {e sz : Nat} {A : Hp} {v : Value} {io : Option Nat} {us : List Value} {n : Nat} (h : SlAt e sz A v io us n) : us.length = n * sz := by
  cases h with
  | nil => simp
  | «at» i o _ c cs _ hc hg hl hu => rw [← hu]; simp; omega

theorem SlAt.keep {e sz : Nat} {A A' : Hp} {v : Value} {io : Option Nat} {us : List Value} {n : Nat} (h : SlAt e sz A v io us n) (hk : ∀ i, io = some i → A'.get i = A.get i) : SlAt e sz A' v io us n := by
  cases h with
  | nil => exact .nil
  | «at» i o _ c cs _ hc hg hl hu => exact .at i o n c cs us hc (by rw [hk i rfl]; exact hg) hl hu

theorem SlAt.elems {e sz : Nat} {A : Hp} {v : Value} {io : Option Nat} {us : List Value} {n : Nat} (h : SlAt e sz A v io us n) : elemsOf A sz v = some (n, us) := by
  cases h with
  | nil => rfl
  | «at» i o _ c cs _ hc hg hl hu =>
    simp only [elemsOf, if_true]
    cases hn : Nat.beq n 0 with
    | true =>
      have : n = 0 := by simpa using hn
      subst this
      simp at hu
      subst hu
      rfl
    | false =>
      simp only [cond_false]
      rw [cellsAt_of hg, cellsIn_of hl hu]
      rfl

theorem SlAt.lt {e sz : Nat} {A : Hp} {v : Value} {i : Nat} {us : List Value} {n : Nat} (h : SlAt e sz A v (some i) us n) : ∃ cs, A.get i = some (.arr e cs .own) := by
  cases h with
  | «at» _ o _ c cs _ hc hg hl hu => exact ⟨cs, hg⟩

/-- the element's row of the table -/
structure ElT (E : Env) (t e sz bz : Nat) : Prop where
  sl : ∃ i, E.T t = some i ∧ i.d = .slice e
  el : ∃ j z, E.T e = some j ∧ j.size = sz ∧ j.bytes = bz ∧ j.zero = some z ∧ z.cells.size = sz
  pos : 0 < sz

/-- what an append does to a slice of one's own -/
theorem append_at {E : Env} {t t2 e sz bz : Nat} (hE : ElT E t e sz bz) (hE2 : ∃ i e2, E.T t2 = some i ∧ i.d = .slice e2) {A : Hp} {v x : Value} {io : Option Nat} {us ys : List Value} {n m : Nat}
    (hv : SlAt e sz A v io us n) (hx : elemsOf A sz x = some (m, ys)) (hm : ys.length = m * sz) (hb : (n + m) * bz ≤ 140737488355328) (hM : n + m ≤ maxLen) :
    ∃ v' A' io', dappend E t t2 A v x = some (v', A') ∧ SlAt e sz A' v' io' (us ++ ys) (n + m) ∧ A.next ≤ A'.next ∧ (A.wf → A'.wf) ∧ (∀ j, j < A.next → io ≠ some j → A'.get j = A.get j) ∧
      ((io' = io ∧ A' = A ∧ v' = v ∧ m = 0) ∨ ∃ i', io' = some i' ∧ A.next ≤ i' ∧ i' < A'.next) := by
  obtain ⟨⟨i, h1, h2⟩, ⟨j, z, h3, h4, h5, h6, h7⟩, h8⟩ := hE
  obtain ⟨i2, e2, g1, g2⟩ := hE2
  unfold dappend
  rw [h1, g1]
  simp only [Option.bind_some, h2, g2, h3, h6, h4, hx, h7, h5]
  cases hm0 : Nat.beq m 0 with
  | true =>
    have : m = 0 := by simpa using hm0
    subst this
    have hy : ys = [] := by
      cases ys with
      | nil => rfl
      | cons y l => simp at hm
    subst hy
    simp only [cond_true]
    cases hv with
    | nil => exact ⟨_, A, none, rfl, .nil, Nat.le_refl _, id, fun _ _ _ => rfl, .inl ⟨rfl, rfl, rfl, trivial⟩⟩
    | «at» k o _ c cs _ hc hg hl hu => exact ⟨_, A, some k, rfl, by simpa using SlAt.at k o n c cs us hc hg hl hu, Nat.le_refl _, id, fun _ _ _ => rfl, .inl ⟨rfl, rfl, rfl, trivial⟩⟩
  | false =>
    have hmp : m ≠ 0 := fun e => by subst e; simp at hm0
    simp only [cond_false]
    rw [if_pos ⟨trivial, h8⟩]
    cases hv with
    | nil =>
      simp only [Nat.zero_add] at hb hM ⊢
      rw [if_pos ⟨hM, hb⟩]
      refine ⟨_, _, some A.next, rfl, ?_, by simp, fun hw => hw.push _, fun j hj _ => Hp.get_push_ne _ _ (by omega), .inr ⟨A.next, rfl, Nat.le_refl _, by simp⟩⟩
      refine .at A.next 0 m (2 * m) ys _ (.inl rfl) (Hp.get_push_same _ _) (by omega) ?_
      simp [← hm]
    | «at» k o _ c cs _ hc hg hl hu =>
      simp only
      rw [if_pos ⟨trivial, hM, hb⟩]
      have hlen : us.length = n * sz := by rw [← hu]; simp; omega
      rw [if_neg (by rcases hc with rfl | rfl <;> omega)]
      have hel := (SlAt.at (e := e) (sz := sz) k o n c cs us hc hg hl hu).elems
      rw [hel]
      simp only [Option.bind_some]
      have hfin : ∀ A2 : Hp, A2.get A.next = some (.arr e (us ++ ys) .own) → SlAt e sz A2 (.slice (some ⟨A.next, 0, some sz⟩) (n + m) (2 * (n + m))) (some A.next) (us ++ ys) (n + m) := by
        intro A2 hg2
        refine .at A.next 0 (n + m) (2 * (n + m)) (us ++ ys) _ (.inl rfl) hg2 ?_ ?_
        · simp [hlen, hm, Nat.add_mul]
        · rw [List.drop_zero, List.take_of_length_le]
          simp [hlen, hm, Nat.add_mul]
      by_cases hodd : c % 2 = 1
      · rw [if_pos hodd]
        exact ⟨_, _, some A.next, rfl, hfin _ (Hp.get_push_same _ _), by simp, fun hw => hw.push _, fun j hj _ => Hp.get_push_ne _ _ (by omega), .inr ⟨A.next, rfl, Nat.le_refl _, by simp⟩⟩
      · rw [if_neg hodd, hg]
        simp only [if_true]
        refine ⟨_, _, some A.next, rfl, hfin _ (Hp.get_push_same _ _), by simp, fun hw => (hw.drop k).push _, fun j hj hne => ?_, .inr ⟨A.next, rfl, Nat.le_refl _, by simp⟩⟩
        rw [Hp.get_push_ne _ _ (by simp; omega), Hp.get_set_ne _ _ (fun e => hne (by rw [e]))]

/-- a slice of one's own in its plainest form: at the head of an array that holds just its elements -/
inductive CanAt (e sz : Nat) (A : Hp) : Value → Option Nat → List Value → Nat → Prop where
  | nil : CanAt e sz A (.slice none 0 0) none [] 0
  | at (i n : Nat) (us : List Value) (hg : A.get i = some (.arr e us .own)) (hl : us.length = n * sz) (hp : n ≠ 0) : CanAt e sz A (.slice (some ⟨i, 0, some sz⟩) n (2 * n)) (some i) us n

theorem CanAt.slAt {e sz : Nat} {A : Hp} {v : Value} {io : Option Nat} {us : List Value} {n : Nat} (h : CanAt e sz A v io us n) : SlAt e sz A v io us n := by
  cases h with
  | nil => exact .nil
  | «at» i _ _ hg hl _ => exact .at i 0 n (2 * n) us us (.inl rfl) hg (by omega) (by rw [List.drop_zero, List.take_of_length_le (by omega)])

/-- an append keeps the form -/
theorem append_can {E : Env} {t t2 e sz bz : Nat} (hE : ElT E t e sz bz) (hE2 : ∃ i e2, E.T t2 = some i ∧ i.d = .slice e2) {A : Hp} {v x : Value} {io : Option Nat} {us ys : List Value} {n m : Nat}
    (hv : CanAt e sz A v io us n) (hx : elemsOf A sz x = some (m, ys)) (hm : ys.length = m * sz) (hb : (n + m) * bz ≤ 140737488355328) (hM : n + m ≤ maxLen) :
    ∃ v' A' io', dappend E t t2 A v x = some (v', A') ∧ CanAt e sz A' v' io' (us ++ ys) (n + m) ∧ A.next ≤ A'.next ∧ (A.wf → A'.wf) ∧ (∀ j, j < A.next → io ≠ some j → A'.get j = A.get j) ∧
      ((io' = io ∧ A' = A ∧ v' = v ∧ m = 0) ∨ ∃ i', io' = some i' ∧ A.next ≤ i' ∧ i' < A'.next) := by
  obtain ⟨⟨i, h1, h2⟩, ⟨j, z, h3, h4, h5, h6, h7⟩, h8⟩ := hE
  obtain ⟨i2, e2, g1, g2⟩ := hE2
  unfold dappend
  rw [h1, g1]
  simp only [Option.bind_some, h2, g2, h3, h6, h4, hx, h7, h5]
  cases hm0 : Nat.beq m 0 with
  | true =>
    have : m = 0 := by simpa using hm0
    subst this
    have hy : ys = [] := by
      cases ys with
      | nil => rfl
      | cons y l => simp at hm
    subst hy
    simp only [cond_true]
    cases hv with
    | nil => exact ⟨_, A, none, rfl, .nil, Nat.le_refl _, id, fun _ _ _ => rfl, .inl ⟨rfl, rfl, rfl, trivial⟩⟩
    | «at» k _ _ hg hl hn => exact ⟨_, A, some k, rfl, by simpa using CanAt.at k n us hg hl hn, Nat.le_refl _, id, fun _ _ _ => rfl, .inl ⟨rfl, rfl, rfl, trivial⟩⟩
  | false =>
    have hmp : m ≠ 0 := fun e => by subst e; simp at hm0
    simp only [cond_false]
    rw [if_pos ⟨trivial, h8⟩]
    cases hv with
    | nil =>
      simp only [Nat.zero_add] at hb hM ⊢
      rw [if_pos ⟨hM, hb⟩]
      refine ⟨_, _, some A.next, rfl, ?_, by simp, fun hw => hw.push _, fun j hj _ => Hp.get_push_ne _ _ (by omega), .inr ⟨A.next, rfl, Nat.le_refl _, by simp⟩⟩
      exact .at A.next m ys (Hp.get_push_same _ _) (by omega) hmp
    | «at» k _ _ hg hl hn =>
      simp only
      rw [if_pos ⟨trivial, hM, hb⟩]
      rw [if_neg (by omega)]
      have hel := (CanAt.at (e := e) (sz := sz) k n us hg hl hn).slAt.elems
      rw [hel]
      simp only [Option.bind_some]
      rw [if_neg (by omega), hg]
      simp only [if_true]
      refine ⟨_, _, some A.next, rfl, .at A.next (n + m) (us ++ ys) (Hp.get_push_same _ _) (by simp [hl, hm, Nat.add_mul]) (by omega), by simp, fun hw => (hw.drop k).push _, fun j hj hne => ?_, .inr ⟨A.next, rfl, Nat.le_refl _, by simp⟩⟩
      rw [Hp.get_push_ne _ _ (by simp; omega), Hp.get_set_ne _ _ (fun e => hne (by rw [e]))]

end Go.Dn
end
