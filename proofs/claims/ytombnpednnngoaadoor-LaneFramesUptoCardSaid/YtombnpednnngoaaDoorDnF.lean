/-
  Part of the abstract machine for this program.
-/
import Derived.Test.YtombnpednnngoaaDoorDnE

section
namespace Go.Dn

/-! ## what an operation hangs on -/
def Agree (E : Env) (σ σ' : Sl) (xs : List Operand) : Prop := ∀ x ∈ xs, evO E σ x = evO E σ' x

theorem evs_agree {E : Env} {σ σ' : Sl} : ∀ {xs : List Operand}, Agree E σ σ' xs → evs E σ xs = evs E σ' xs
  | [], _ => rfl
  | x :: xs, h => by
    simp only [evs]
    rw [h x (by simp), evs_agree (xs := xs) (fun y hy => h y (by simp [hy]))]

theorem dparts_agree {E : Env} {σ σ' : Sl} : ∀ {ps : List (Nat × Operand)}, Agree E σ σ' (ps.map (·.2)) → dparts E σ ps = dparts E σ' ps
  | [], _ => rfl
  | (i, x) :: r, h => by
    simp only [dparts]
    rw [h x (by simp), dparts_agree (ps := r) (fun y hy => h y (by simp only [List.map_cons, List.mem_cons]; exact .inr hy))]

theorem opt_agree {E : Env} {σ σ' : Sl} (x : Option Operand) (h : Agree E σ σ' x.toList) : evOo E σ x = evOo E σ' x := by
  cases x with
  | none => rfl
  | some l => simp only [evOo]; rw [h l (by simp)]

theorem Agree.sub {E : Env} {σ σ' : Sl} {xs ys : List Operand} (h : Agree E σ σ' xs) (hs : ∀ y ∈ ys, y ∈ xs) : Agree E σ σ' ys := fun y hy => h y (hs y hy)

theorem dval_agree {E : Env} {σ σ' : Sl} {o : Oper} (h : Agree E σ σ' o.op.operands.toList) : dval E σ o = dval E σ' o := by
  unfold dval
  generalize o.op = op at h ⊢
  cases op with
  | move x => exact h x (by simp [Op.operands])
  | assign x => exact h x (by simp [Op.operands])
  | pick c a b => simp only; rw [h c (by simp [Op.operands]), h a (by simp [Op.operands]), h b (by simp [Op.operands])]
  | nilCheck x => simp only; rw [h x (by simp [Op.operands])]
  | binOp op t x y yt => simp only; rw [h x (by simp [Op.operands]), h y (by simp [Op.operands])]
  | unOp op t x => simp only; rw [h x (by simp [Op.operands])]
  | convert s d x => simp only; rw [h x (by simp [Op.operands])]
  | makeInterface t x => simp only; rw [h x (by simp [Op.operands])]
  | makeFunc f as cs =>
    cases f with
    | func f =>
      simp only
      rw [evs_agree (h.sub (fun y hy => by simp [Op.operands]; exact .inl (by simpa using hy))), evs_agree (h.sub (ys := cs.toList) (fun y hy => by simp [Op.operands]; exact .inr (by simpa using hy)))]
    | _ => rfl
  | fieldAddr t x f => simp only; rw [h x (by simp [Op.operands])]
  | field t x f => simp only; rw [h x (by simp [Op.operands])]
  | indexAddr t x ix => simp only; rw [h x (by simp [Op.operands]), h ix (by simp [Op.operands])]
  | index t x ix => simp only; rw [h x (by simp [Op.operands]), h ix (by simp [Op.operands])]
  | slice t x lo hi mx =>
    simp only
    have e1 := opt_agree lo (h.sub (fun y hy => by simp [Op.operands] at hy ⊢; exact .inr (.inl hy)))
    have e2 := opt_agree hi (h.sub (fun y hy => by simp [Op.operands] at hy ⊢; exact .inr (.inr (.inl hy))))
    have e3 := opt_agree mx (h.sub (fun y hy => by simp [Op.operands] at hy ⊢; exact .inr (.inr (.inr hy))))
    rw [h x (by simp [Op.operands]), e1, e2, e3]
  | extract x i => simp only; rw [h x (by simp [Op.operands])]
  | build t parts =>
    simp only
    rw [dparts_agree (h.sub (fun y hy => by simp [Op.operands] at hy ⊢; exact hy))]
  | call c =>
    obtain ⟨cal, args, ts⟩ := c
    cases cal with
    | builtin b => simp only; rw [evs_agree (h.sub (fun y hy => by simp [Op.operands, Call.operands]; simpa using hy))]
    | _ => rfl
  | _ => rfl

theorem drd_agree {E : Env} {σ σ' : Sl} {o : Oper} {A : Hp} (h : Agree E σ σ' o.op.operands.toList) : drd E σ o A = drd E σ' o A := by
  unfold drd
  generalize o.op = op at h ⊢
  cases op with
  | load t x => simp only; rw [h x (by simp [Op.operands])]
  | lookup t x k ok => simp only; rw [h x (by simp [Op.operands]), h k (by simp [Op.operands])]
  | convert s d x => simp only; rw [h x (by simp [Op.operands])]
  | binOp op t x y yt => simp only; rw [h x (by simp [Op.operands]), h y (by simp [Op.operands])]
  | call c =>
    obtain ⟨cal, args, ts⟩ := c
    cases cal with
    | builtin b =>
      cases b with
      | len => simp only; rw [evs_agree (h.sub (fun y hy => by simp [Op.operands, Call.operands]; simpa using hy))]
      | _ => rfl
    | _ => rfl
  | _ => rfl

theorem dnew_agree {E : Env} {σ σ' : Sl} {o : Oper} (h : Agree E σ σ' o.op.operands.toList) : dnew E σ o = dnew E σ' o := by
  unfold dnew
  generalize o.op = op at h ⊢
  cases op with
  | box e x => simp only; rw [h x (by simp [Op.operands])]
  | buildSlice t len parts =>
    simp only
    rw [dparts_agree (h.sub (fun y hy => by simp [Op.operands] at hy ⊢; exact hy))]
  | makeSlice t l c => simp only; rw [h l (by simp [Op.operands]), h c (by simp [Op.operands])]
  | makeMap t r => cases r <;> rfl
  | convert s d x => simp only; rw [h x (by simp [Op.operands])]
  | _ => rfl

theorem deff_agree {E : Env} {σ σ' : Sl} {o : Oper} {A : Hp} (h : Agree E σ σ' o.op.operands.toList) : deff E σ o A = deff E σ' o A := by
  unfold deff
  generalize o.op = op at h ⊢
  cases op with
  | store t x v => simp only; rw [h x (by simp [Op.operands]), h v (by simp [Op.operands])]
  | convert s d x => simp only; rw [h x (by simp [Op.operands])]
  | mapUpdate t m k v => simp only; rw [h m (by simp [Op.operands]), h k (by simp [Op.operands]), h v (by simp [Op.operands])]
  | insert t m k v => simp only; rw [h m (by simp [Op.operands]), h k (by simp [Op.operands]), h v (by simp [Op.operands])]
  | call c =>
    obtain ⟨cal, args, ts⟩ := c
    cases cal with
    | builtin b =>
      cases b with
      | append => simp only; rw [evs_agree (h.sub (fun y hy => by simp [Op.operands, Call.operands]; simpa using hy))]
      | copy => simp only; rw [evs_agree (h.sub (fun y hy => by simp [Op.operands, Call.operands]; simpa using hy))]
      | delete => simp only; rw [evs_agree (h.sub (fun y hy => by simp [Op.operands, Call.operands]; simpa using hy))]
      | clear => simp only; rw [evs_agree (h.sub (fun y hy => by simp [Op.operands, Call.operands]; simpa using hy))]
      | _ => rfl
    | _ => rfl
  | _ => rfl

theorem dcall_agree {E : Env} {call : CallT} {σ σ' : Sl} {o : Oper} {A : Hp} (h : Agree E σ σ' o.op.operands.toList) : dcall E call σ o A = dcall E call σ' o A := by
  unfold dcall
  generalize o.op = op at h ⊢
  cases op with
  | call c =>
    obtain ⟨cal, args, ts⟩ := c
    cases cal with
    | value f => simp only; rw [h f (by simp [Op.operands, Call.operands]), evs_agree (h.sub (fun y hy => by simp [Op.operands, Call.operands]; exact .inr (by simpa using hy)))]
    | _ => rfl
  | _ => rfl

theorem dstep_agree {E : Env} {call : CallT} {σ σ' : Sl} {o : Oper} {A : Hp} (h : Agree E σ σ' o.op.operands.toList) : dstep E call σ o A = dstep E call σ' o A := by
  unfold dstep
  rw [dval_agree h, drd_agree h, dnew_agree h, deff_agree h, dcall_agree h]

/-! ## reading hangs on the objects that were read -/
theorem cellsAt_local {A A' : Hp} {i o n : Nat} (h : A'.get i = A.get i) : cellsAt A' i o n = cellsAt A i o n := by
  unfold cellsAt; rw [h]

theorem mapOf_local {A A' : Hp} {x : Value} {es : List (Value × Value)} {l : List Nat} (hm : mapOf A x = some (es, l)) (h : ∀ i ∈ l, A'.get i = A.get i) : mapOf A' x = some (es, l) := by
  unfold mapOf at hm ⊢
  split at hm
  · exact hm
  · rename_i i
    split at hm
    · rename_i es' m hg
      cases hm
      rw [h i (by simp), hg]
    · cases hm
  · cases hm

theorem drd_local {E : Env} {σ : Sl} {o : Oper} {A A' : Hp} {v : Value} {l : List Nat} (hd : drd E σ o A = some (v, l)) (h : ∀ i ∈ l, A'.get i = A.get i) : drd E σ o A' = some (v, l) := by
  unfold drd at hd ⊢
  generalize o.op = op at hd ⊢
  cases op with
  | load t x =>
    simp only at hd ⊢
    replace hd := bind_some hd
    obtain ⟨u, h1, hd⟩ := hd
    rw [h1, Option.bind_some]
    unfold dload at hd ⊢
    replace hd := bind_some hd
    obtain ⟨i, h2, hd⟩ := hd
    rw [h2, Option.bind_some]
    split at hd
    · rename_i b o
      cases ha : isAggD i.d with
      | true =>
        rw [ha] at hd
        simp only [cond_true] at hd ⊢
        replace hd := bind_some hd
        obtain ⟨us, h3, hd⟩ := hd
        cases hd
        rw [cellsAt_local (h b (by simp)), h3]; rfl
      | false =>
        rw [ha] at hd
        simp only [cond_false] at hd ⊢
        replace hd := bind_some hd
        obtain ⟨us, h3, hd⟩ := hd
        have hl : l = [b] := by
          split at hd
          · cases hd; rfl
          · cases hd
        subst hl
        rw [cellsAt_local (h b (by simp)), h3]; exact hd
    · cases hd
  | lookup t x k ok =>
    simp only at hd ⊢
    replace hd := bind_some hd
    obtain ⟨u, h1, hd⟩ := hd
    replace hd := bind_some hd
    obtain ⟨u2, h2, hd⟩ := hd
    rw [h1, h2, Option.bind_some, Option.bind_some]
    unfold dlookup at hd ⊢
    replace hd := bind_some hd
    obtain ⟨i, h3, hd⟩ := hd
    rw [h3, Option.bind_some]
    split at hd
    · rename_i kt et hi
      replace hd := bind_some hd
      obtain ⟨ki, h4, hd⟩ := hd
      replace hd := bind_some hd
      obtain ⟨⟨es, l'⟩, h5, hd⟩ := hd
      have hl : l = l' := by
        simp only at hd
        cases hko : keyOk E 20 kt u2 with
        | false => rw [hko] at hd; cases hd
        | true =>
          rw [hko] at hd
          simp only [cond_true] at hd
          replace hd := bind_some hd
          obtain ⟨r, h6, hd⟩ := hd
          cases r with
          | some q => cases hd; rfl
          | none =>
            simp only at hd
            cases hz : pzero E et with
            | none => rw [hz] at hd; cases hd
            | some z => rw [hz] at hd; cases hd; rfl
      subst hl
      try rw [hi]
      simp only
      rw [h4, Option.bind_some, mapOf_local h5 h, Option.bind_some]
      exact hd
    · cases hd
  | convert s d x =>
    simp only at hd ⊢
    replace hd := bind_some hd
    obtain ⟨u, h1, hd⟩ := hd
    rw [h1, Option.bind_some]
    unfold dstring at hd ⊢
    replace hd := bind_some hd
    obtain ⟨i, h2, hd⟩ := hd
    replace hd := bind_some hd
    obtain ⟨j, h3, hd⟩ := hd
    rw [h2, h3, Option.bind_some, Option.bind_some]
    split at hd
    · rename_i e hi hj
      try rw [hi, hj]
      exact hd
    · rename_i e hi hj
      try rw [hi, hj]
      exact hd
    · rename_i e b o sz n c hi hj
      try rw [hi, hj]
      try simp only
      replace hd := bind_some hd
      obtain ⟨k, h4, hd⟩ := hd
      rw [h4, Option.bind_some]
      split at hd
      · rename_i hk
        try rw [hk]
        try simp only
        replace hd := bind_some hd
        obtain ⟨us, h5, hd⟩ := hd
        have hl : l = [b] := by
          replace hd := bind_some hd
          obtain ⟨ns, h6, hd⟩ := hd
          cases hd; rfl
        subst hl
        have e1 : (bif Nat.beq n 0 then some [] else cellsAt A' b o n) = some us := by
          rw [cellsAt_local (h b (by simp))]; exact h5
        rw [e1]; exact hd
      · cases hd
    · cases hd
  | binOp op t x y yt =>
    simp only at hd ⊢
    replace hd := bind_some hd
    obtain ⟨u, h1, hd⟩ := hd
    replace hd := bind_some hd
    obtain ⟨u2, h2, hd⟩ := hd
    rw [h1, h2, Option.bind_some, Option.bind_some]
    split at hd
    · try simp only
      unfold dptrEq at hd ⊢
      replace hd := bind_some hd
      obtain ⟨i, h3, hd⟩ := hd
      rw [h3, Option.bind_some]
      split at hd
      · rename_i e a o b q hi _ _
        try rw [hi]
        try simp only
        replace hd := bind_some hd
        obtain ⟨j, h4, hd⟩ := hd
        rw [h4, Option.bind_some]
        split at hd
        · cases hd
        · rename_i hj
          rw [if_neg hj]
          replace hd := bind_some hd
          obtain ⟨s, h5, hd⟩ := hd
          have hl : l = [a, b] := by
            split at hd <;> cases hd <;> rfl
          subst hl
          have e1 : ∀ o, standsAt E A' a o = standsAt E A a o := fun o => by unfold standsAt; rw [h a (by simp)]
          have e2 : ∀ o, standsAt E A' b o = standsAt E A b o := fun o => by unfold standsAt; rw [h b (by simp)]
          rw [e1, e2, h5]
          exact hd
      · cases hd
    · rename_i hne
      first
        | exact hd
        | (split
           · exact absurd rfl (hne _ _ rfl)
           · exact hd)
  | call c =>
    obtain ⟨cal, args, ts⟩ := c
    cases cal with
    | builtin b =>
      cases b with
      | len =>
        simp only at hd ⊢
        replace hd := bind_some hd
        obtain ⟨vs, h1, hd⟩ := hd
        rw [h1, Option.bind_some]
        split at hd
        · rename_i t r x hts
          try rw [hts]
          try simp only
          replace hd := bind_some hd
          obtain ⟨i, h2, hd⟩ := hd
          rw [h2, Option.bind_some]
          split at hd
          · rename_i kt et hi
            try rw [hi]
            try simp only
            cases hm : mapOf A x with
            | none => rw [hm] at hd; cases hd
            | some q =>
              obtain ⟨es, l'⟩ := q
              rw [hm] at hd
              cases hd
              rw [mapOf_local hm h]; rfl
          · cases hd
        · cases hd
      | _ => cases hd
    | _ => cases hd
  | _ => cases hd

end Go.Dn
end

section
namespace Go.Dn

/-! ## regions whose order is drawn: what is looked at once -/
def tb (ms : List Nat) (i j : Nat) : Bool := match ms[i]? with
  | some m => Nat.testBit m j
  | none => false

def dstOf (ops : Array Oper) (i : Nat) : Option Nat := (ops[i]?).bind (·.dst)
def readsOf (ops : Array Oper) (i : Nat) : List Nat := match ops[i]? with
  | some o => o.looksAt ops
  | none => []

def edgesOf (ops : Array Oper) (i : Nat) : List Nat := match ops[i]? with
  | some o => o.after.toList.filterMap fun e => bif Region.binds .any e then some e.on else none
  | none => []

def pwAll (f : Nat → Nat → Bool) : List Nat → Bool
  | [] => true
  | i :: r => r.all (f i) && pwAll f r

/-- who waits behind an operation that may change memory -/
def bar (E : Env) (ops : Array Oper) : List Nat → Bool
  | [] => true
  | e :: r => (match ops[e]? with
    | some o => bif Nat.ble 3 (cls E o) then r.all (fun j => (edgesOf ops j).any fun p => (e :: r).elem p) else true
    | none => true) && bar E ops r

structure Stat (ops : Array Oper) (ms : List Nat) (ord : List Nat) : Prop where
  lt : ∀ i ∈ ord, i < ops.size
  all : ∀ i, i < ops.size → i ∈ ord
  pw : ord.Pairwise fun i j => i ≠ j ∧ tb ms i j = false
  irr : ∀ i, i < ops.size → tb ms i i = false
  dst : ∀ i j, i < ops.size → j < ops.size → i ≠ j → ∀ x, dstOf ops i = some x → dstOf ops j ≠ some x
  rd : ∀ i j, i < ops.size → j < ops.size → i ≠ j → ∀ x ∈ readsOf ops i, dstOf ops j = some x → tb ms i j = true ∨ tb ms j i = true
  dir : ∀ i, i < ops.size → ∀ p ∈ edgesOf ops i, p < ops.size ∧ tb ms i p = true
  clo : ∀ i j, i < ops.size → j < ops.size → tb ms i j = true → ∃ p ∈ edgesOf ops i, p = j ∨ tb ms p j = true

def statOk (ops : Array Oper) (ms : List Nat) (ord : List Nat) : Bool :=
  let n := ops.size
  let r := List.range n
  ord.all (fun i => Nat.blt i n) &&
  r.all (fun i => ord.elem i) &&
  pwAll (fun i j => !Nat.beq i j && !tb ms i j) ord &&
  r.all (fun i => !tb ms i i && (edgesOf ops i).all (fun p => Nat.blt p n && tb ms i p) && r.all (fun j => !tb ms i j || (edgesOf ops i).any fun p => Nat.beq p j || tb ms p j)) &&
  r.all (fun i => r.all fun j => Nat.beq i j || match dstOf ops j with
    | some x => (match dstOf ops i with
      | some y => !Nat.beq x y
      | none => true) && (!(readsOf ops i).elem x || tb ms i j || tb ms j i)
    | none => true)

theorem pwAll_sound {f : Nat → Nat → Bool} : ∀ {l : List Nat}, pwAll f l = true → l.Pairwise fun i j => f i j = true
  | [], _ => List.Pairwise.nil
  | i :: r, h => by
    simp only [pwAll, Bool.and_eq_true, List.all_eq_true] at h
    exact List.Pairwise.cons h.1 (pwAll_sound h.2)

theorem statOk_sound {ops : Array Oper} {ms ord : List Nat} (h : statOk ops ms ord = true) : Stat ops ms ord := by
  simp only [statOk, Bool.and_eq_true, List.all_eq_true, List.mem_range] at h
  obtain ⟨⟨⟨⟨h1, h2⟩, h3⟩, h4⟩, h5⟩ := h
  refine ⟨fun i hi => by simpa [Nat.blt_eq] using h1 i hi, fun i hi => by simpa using h2 i hi, ?_, fun i hi => by simpa using (h4 i hi).1.1, ?_, ?_, ?_, ?_⟩
  · refine (pwAll_sound h3).imp fun {i j} hij => ?_
    simp only [Bool.and_eq_true, Bool.not_eq_true'] at hij
    exact ⟨fun e => by subst e; simp at hij, hij.2⟩
  · intro i j hi hj hij x hx hxj
    have := h5 i hi j hj
    simp only [Bool.or_eq_true, Nat.beq_eq] at this
    rcases this with this | this
    · exact hij this
    · rw [hx, hxj] at this
      simp at this
  · intro i j hi hj hij x hx hxj
    have := h5 i hi j hj
    simp only [Bool.or_eq_true, Nat.beq_eq] at this
    rcases this with this | this
    · exact absurd this hij
    · rw [hxj] at this
      simp only [Bool.and_eq_true, Bool.or_eq_true, Bool.not_eq_true', List.elem_eq_mem] at this
      rcases this.2 with (k | k) | k
      · simp [hx] at k
      · exact .inl k
      · exact .inr k
  · intro i hi p hp
    have := (h4 i hi).1.2 p hp
    simpa [Nat.blt_eq] using this
  · intro i j hi hj hij
    have := (h4 i hi).2 j hj
    simp only [hij, Bool.not_true, Bool.false_or, List.any_eq_true, Bool.or_eq_true, Nat.beq_eq] at this
    exact this

theorem bar_head {E : Env} {ops : Array Oper} {e : Nat} {r : List Nat} (h : bar E ops (e :: r) = true) {o : Oper} (ho : ops[e]? = some o) (hc : 3 ≤ cls E o) :
    ∀ j ∈ r, ∃ p ∈ edgesOf ops j, p ∈ e :: r := by
  simp only [bar, ho, Bool.and_eq_true] at h
  have hb : Nat.ble 3 (cls E o) = true := by simpa using hc
  rw [hb] at h
  simp only [cond_true, List.all_eq_true] at h
  intro j hj
  have := h.1 j hj
  simp only [List.any_eq_true] at this
  obtain ⟨p, h1, h2⟩ := this
  exact ⟨p, h1, by simpa using h2⟩
theorem bar_tail {E : Env} {ops : Array Oper} {e : Nat} {r : List Nat} (h : bar E ops (e :: r) = true) : bar E ops r = true := by
  simp only [bar, Bool.and_eq_true] at h
  exact h.2

/-- what is ready, said with the edges -/
theorem ready_iff {ops : Array Oper} {listed : Array Bool} {i : Nat} : i ∈ Region.ready .any ops listed ↔
    i < ops.size ∧ listed.getD i true = false ∧ ∀ p ∈ edgesOf ops i, listed.getD p false = true := by
  unfold Region.ready
  simp only [List.mem_filter, List.mem_range, Bool.and_eq_true, Bool.not_eq_true']
  refine ⟨fun ⟨h1, h2, h3⟩ => ⟨h1, h2, ?_⟩, fun ⟨h1, h2, h3⟩ => ⟨h1, h2, ?_⟩⟩
  · intro p hp
    unfold edgesOf at hp
    cases ho : ops[i]? with
    | none => rw [ho] at hp; simp at hp
    | some o =>
      rw [ho] at hp h3
      simp only [List.mem_filterMap] at hp
      obtain ⟨e, he, hp⟩ := hp
      simp only [Option.map_some, Option.getD_some, Array.all_eq_true_iff_forall_mem] at h3
      have := h3 e (by simpa using he)
      cases hb : Region.binds .any e with
      | false => rw [hb] at hp; cases hp
      | true =>
        rw [hb] at hp this
        cases hp
        simpa using this
  · obtain ⟨o, ho⟩ : ∃ o, ops[i]? = some o := ⟨_, Array.getElem?_eq_getElem h1⟩
    rw [ho]
    simp only [Option.map_some, Option.getD_some, Array.all_eq_true_iff_forall_mem]
    intro e he
    cases hb : Region.binds .any e with
    | false => rfl
    | true =>
      have := h3 e.on (by
        unfold edgesOf; rw [ho]
        simp only [List.mem_filterMap]
        exact ⟨e, by simpa using he, by rw [hb]; rfl⟩)
      simpa using this

/-! ## the run -/
structure Lg where
  i : Nat
  rd : List Nat
  nw : Option Nat

def newsOf (ms : List Nat) (i : Nat) : List Lg → List Nat
  | [] => []
  | ⟨_, _, none⟩ :: l => newsOf ms i l
  | ⟨j, _, some x⟩ :: l => bif tb ms i j then newsOf ms i l else x :: newsOf ms i l
def readBy (ms : List Nat) (i : Nat) : List Lg → List Nat
  | [] => []
  | ⟨_, [], _⟩ :: l => readBy ms i l
  | ⟨j, x :: rd, _⟩ :: l => bif tb ms i j then readBy ms i l else x :: (rd ++ readBy ms i l)

theorem mem_newsOf {ms : List Nat} {i x : Nat} : ∀ {l : List Lg}, x ∈ newsOf ms i l ↔ ∃ e ∈ l, e.nw = some x ∧ tb ms i e.i = false
  | [] => by simp [newsOf]
  | ⟨j, rd, none⟩ :: l => by
    simp only [newsOf, mem_newsOf (l := l), List.mem_cons]
    constructor
    · rintro ⟨e, h1, h2⟩; exact ⟨e, .inr h1, h2⟩
    · rintro ⟨e, rfl | h1, h2, h3⟩
      · cases h2
      · exact ⟨e, h1, h2, h3⟩
  | ⟨j, rd, some y⟩ :: l => by
    simp only [newsOf]
    cases ht : tb ms i j with
    | true =>
      simp only [cond_true, mem_newsOf (l := l), List.mem_cons]
      constructor
      · rintro ⟨e, h1, h2⟩; exact ⟨e, .inr h1, h2⟩
      · rintro ⟨e, rfl | h1, h2, h3⟩
        · rw [ht] at h3; cases h3
        · exact ⟨e, h1, h2, h3⟩
    | false =>
      simp only [cond_false, List.mem_cons, mem_newsOf (l := l)]
      constructor
      · rintro (rfl | ⟨e', h1, h2⟩)
        · exact ⟨_, .inl rfl, rfl, ht⟩
        · exact ⟨e', .inr h1, h2⟩
      · rintro ⟨e', rfl | h1, h2, h3⟩
        · cases h2; exact .inl rfl
        · exact .inr ⟨e', h1, h2, h3⟩
theorem mem_readBy {ms : List Nat} {i x : Nat} : ∀ {l : List Lg}, x ∈ readBy ms i l ↔ ∃ e ∈ l, x ∈ e.rd ∧ tb ms i e.i = false
  | [] => by simp [readBy]
  | ⟨j, [], nw⟩ :: l => by
    simp only [readBy, mem_readBy (l := l), List.mem_cons]
    constructor
    · rintro ⟨e, h1, h2⟩; exact ⟨e, .inr h1, h2⟩
    · rintro ⟨e, rfl | h1, h2, h3⟩
      · cases h2
      · exact ⟨e, h1, h2, h3⟩
  | ⟨j, y :: rd, nw⟩ :: l => by
    simp only [readBy]
    cases ht : tb ms i j with
    | true =>
      simp only [cond_true, mem_readBy (l := l), List.mem_cons]
      constructor
      · rintro ⟨e, h1, h2⟩; exact ⟨e, .inr h1, h2⟩
      · rintro ⟨e, rfl | h1, h2, h3⟩
        · rw [ht] at h3; cases h3
        · exact ⟨e, h1, h2, h3⟩
    | false =>
      simp only [cond_false, List.mem_cons, List.mem_append, mem_readBy (l := l)]
      constructor
      · rintro (rfl | h1 | ⟨e', h1, h2⟩)
        · exact ⟨_, .inl rfl, List.mem_cons_self, ht⟩
        · exact ⟨_, .inl rfl, List.mem_cons_of_mem _ h1, ht⟩
        · exact ⟨e', .inr h1, h2⟩
      · rintro ⟨e', rfl | h1, h2, h3⟩
        · rcases List.mem_cons.1 h2 with h2 | h2
          · exact .inl h2
          · exact .inr (.inl h2)
        · exact .inr (.inr ⟨e', h1, h2, h3⟩)

def drawRun {R : Type} (E : Env) (call : CallT) (N : Nat) (ops : Array Oper) (opl : List Oper) (ms : List Nat) : List Nat → Sl → List Lg → (Sl → Hp → Option R) → Hp → Option R
  | [], σ, _, k, A => k σ A
  | i :: l, σ, lg, k, A => (opl[i]?).bind fun o => (dwant opl σ o).bind fun g =>
    bif g then
      match cls E o with
      | 0 => (dval E σ o).bind fun v => (dput N σ o.dst v).bind fun σ' => drawRun E call N ops opl ms l σ' lg k A
      | 1 => (drd E σ o A).bind fun x => bif x.2.all (fun y => (A.get y).isSome && !(newsOf ms i lg).elem y) then
          (dput N σ o.dst x.1).bind fun σ' => drawRun E call N ops opl ms l σ' (⟨i, x.2, none⟩ :: lg) k A
        else none
      | 2 => (dnew E σ o).bind fun x => (dput N σ o.dst (x.2 A.next)).bind fun σ' => drawRun E call N ops opl ms l σ' (⟨i, [], some A.next⟩ :: lg) k (A.push x.1)
      | _ => (dstep E call σ o (guardL (hideL A (newsOf ms i lg)) (readBy ms i lg))).bind fun x => (dput N σ o.dst x.1).bind fun σ' =>
          drawRun E call N ops opl ms l σ' lg k (backL A (backL A x.2 (readBy ms i lg)) (newsOf ms i lg))
    else (dput N σ o.dst undef).bind fun σ' => drawRun E call N ops opl ms l σ' lg k A

end Go.Dn
end

section
namespace Go.Dn

def oput (σ : Sl) (d : Option Nat) (v : Value) : Sl := match d with
  | none => σ
  | some d => σ.put d v

theorem oput_get (σ : Sl) (d : Option Nat) (v : Value) (x : Nat) : (oput σ d v).get x = if d = some x then some v else σ.get x := by
  cases d with
  | none => simp [oput]
  | some d =>
    simp only [oput, Sl.get_put, Option.some.injEq]
    by_cases h : x = d
    · subst h; simp
    · rw [if_neg h, if_neg (fun e => h e.symm)]

theorem dput_oput {N : Nat} {σ σ' : Sl} {d : Option Nat} {v : Value} (h : dput N σ d v = some σ') : σ' = oput σ d v ∧ ∀ x, d = some x → x < N := by
  cases d with
  | none => cases h; exact ⟨rfl, by simp⟩
  | some d =>
    simp only [dput] at h
    cases hb : Nat.blt d N with
    | false => rw [hb] at h; cases h
    | true =>
      rw [hb] at h; cases h
      exact ⟨rfl, fun x e => by cases e; simpa [Nat.blt_eq] using hb⟩

theorem sr_oput {P : Program} {E : Env} {ρ : Rn} {N : Nat} {ds : List Deferred} {σ : Sl} {a : Act} (h : SR P E ρ N ds σ a) {d : Option Nat} {v v' : Value} (hv : VR ρ v v') (hd : ∀ x, d = some x → x < N) : SR P E ρ N ds (oput σ d v) (a.put d v') := by
  cases d with
  | none => exact h
  | some d => exact h.put (hd d rfl) hv

theorem agreeOf {E : Env} {ops : Array Oper} {σ σ' : Sl} {o : Oper} (h : ∀ x ∈ o.looksAt ops, σ.get x = σ'.get x) : Agree E σ σ' o.op.operands.toList := by
  intro x hx
  cases x with
  | tmp t =>
    exact h t (List.mem_append_left _ (List.mem_filterMap.2 ⟨.tmp t, hx, rfl⟩))
  | _ => rfl

theorem dwant_agree {ops : Array Oper} {σ σ' : Sl} {o : Oper} (h : ∀ x ∈ o.looksAt ops, σ.get x = σ'.get x) : dwant ops.toList σ o = dwant ops.toList σ' o := by
  unfold dwant
  cases hg : o.guard with
  | none => rfl
  | some gw =>
    obtain ⟨j, want⟩ := gw
    simp only
    cases hp : ops.toList[j]? with
    | none => rfl
    | some p =>
      simp only [Option.bind_some]
      cases hd : p.dst with
      | none => rfl
      | some d =>
        simp only [Option.bind_some]
        rw [h d (List.mem_append_right _ ?_)]
        have hp' : ops[j]? = some p := by simpa using hp
        rw [hg]
        simp [hp', hd]

/-! ## what was looked ahead -/
structure Dl where
  i : Nat
  σ : Sl
  v : Value
  rd : List Nat
  nw : Option Nat

def hid (D : List Dl) : List Nat := D.filterMap (·.nw)
def ids (D : List Dl) : List Nat := D.map (·.i)

theorem mem_hid {D : List Dl} {x : Nat} : x ∈ hid D ↔ ∃ d ∈ D, d.nw = some x := by simp [hid]
theorem mem_ids {D : List Dl} {x : Nat} : x ∈ ids D ↔ ∃ d ∈ D, d.i = x := by simp [ids]

def Promise (E : Env) (ops : Array Oper) (ms : List Nat) (n0 : Nat) (A : Hp) (_ρ : Gh) (D : List Dl) (d : Dl) : Prop :=
  ∃ o, ops[d.i]? = some o ∧ ∃ g, dwant ops.toList d.σ o = some g ∧
   ((g = false ∧ d.v = undef ∧ d.nw = none) ∨
    (g = true ∧ dval E d.σ o = some d.v ∧ d.nw = none) ∨
    (g = true ∧ d.nw = none ∧ ∃ A1, drd E d.σ o A1 = some (d.v, d.rd) ∧ ∀ x ∈ d.rd, A.get x = A1.get x ∧ x < A.next ∧ ∀ d' ∈ D, d'.nw = some x → tb ms d.i d'.i = true) ∨
    (g = true ∧ ∃ ob f id, dnew E d.σ o = some (ob, f) ∧ d.v = f id ∧ d.nw = some id ∧ A.get id = some ob ∧ n0 ≤ id))

structure Inv [Reps] (P : Program) (E : Env) (N : Nat) (ds : List Deferred) (ops : Array Oper) (ms : List Nat) (A0 : Hp) (ρ0 : Gh) (w0 : World)
    (l : List Nat) (σc : Sl) (lg : List Lg) (A : Hp) (D : List Dl) (listed : Array Bool) (ρ : Gh) (σr : Sl) (a : Act) (w : World) : Prop where
  kn : Reps.C.next ≤ A0.next
  sr : SR P E ρ.ρ N ds σr a
  rel : RelX P ρ (hideL A (hid D)) w
  ext : ExtX A0 ρ0 w0 (hideL A (hid D)) ρ w
  size : listed.size = ops.size
  lst : ∀ i, listed.getD i true = false ↔ i ∈ ids D ++ l
  clo : ∀ i j, i < ops.size → i ∉ ids D ++ l → j ∈ ids D ++ l → tb ms i j = false
  ord : (ids D ++ l).Pairwise fun i j => i ≠ j ∧ tb ms i j = false
  eq0 : ∀ x, (∀ d ∈ D, dstOf ops d.i ≠ some x) → σr.get x = σc.get x
  val : ∀ d ∈ D, ∀ x, dstOf ops d.i = some x → σc.get x = some d.v ∧ x < N
  eq1 : ∀ d ∈ D, ∀ x ∈ readsOf ops d.i, (∀ d' ∈ D, d'.i ≠ d.i → dstOf ops d'.i = some x → tb ms d.i d'.i = false) → σr.get x = d.σ.get x
  eq2 : ∀ d ∈ D, ∀ d' ∈ D, tb ms d.i d'.i = true → ∀ x, dstOf ops d'.i = some x → d.σ.get x = some d'.v
  pms : ∀ d ∈ D, Promise E ops ms A0.next A ρ D d
  lgr : ∀ d ∈ D, ∀ x ∈ d.rd, ∃ e ∈ lg, e.i = d.i ∧ x ∈ e.rd
  lgn : ∀ d ∈ D, ∀ x, d.nw = some x → (∃ e ∈ lg, e.i = d.i ∧ e.nw = some x) ∧ ρ.ρ x = none
  lgb : ∀ e ∈ lg, (∀ x ∈ e.rd, x < A.next) ∧ ∀ x, e.nw = some x → x < A.next
  uni : D.Pairwise fun d d' => ∀ x, d.nw = some x → d'.nw ≠ some x

theorem lst_remove {listed : Array Bool} {U1 U2 : List Nat} {i : Nat} (h : ∀ j, listed.getD j true = false ↔ j ∈ U1 ++ i :: U2) (hnd : (U1 ++ i :: U2).Pairwise (· ≠ ·)) :
    ∀ j, (listed.setIfInBounds i true).getD j true = false ↔ j ∈ U1 ++ U2 := by
  intro j
  have hi : i < listed.size := by
    have : listed.getD i true = false := (h i).2 (by simp)
    rw [Array.getD_eq_getD_getElem?] at this
    rcases Nat.lt_or_ge i listed.size with h1 | h1
    · exact h1
    · rw [Array.getElem?_eq_none h1] at this; cases this
  have hnd' := hnd
  rw [List.pairwise_append, List.pairwise_cons] at hnd'
  obtain ⟨h1, ⟨h2, h3⟩, h4⟩ := hnd'
  by_cases e : j = i
  · subst e
    have : (listed.setIfInBounds j true).getD j true = true := by
      rw [Array.getD_eq_getD_getElem?]; simp [hi]
    rw [this]
    simp only [Bool.true_eq_false, List.mem_append, false_iff]
    rintro (k | k)
    · exact h4 j k j (by simp) rfl
    · exact h2 j k rfl
  · have : (listed.setIfInBounds i true).getD j true = listed.getD j true := by
      rw [Array.getD_eq_getD_getElem?, Array.getD_eq_getD_getElem?, Array.getElem?_setIfInBounds_ne (fun k => e k.symm)]
    rw [this, h j]
    simp [e]

theorem clo_remove {ops : Array Oper} {ms : List Nat} {U1 U2 : List Nat} {i : Nat} (hc : ∀ x j, x < ops.size → x ∉ U1 ++ i :: U2 → j ∈ U1 ++ i :: U2 → tb ms x j = false) (hn : ∀ j ∈ U1 ++ i :: U2, tb ms i j = false) :
    ∀ x j, x < ops.size → x ∉ U1 ++ U2 → j ∈ U1 ++ U2 → tb ms x j = false := by
  intro x j hx hxu hj
  have hj' : j ∈ U1 ++ i :: U2 := by
    simp only [List.mem_append, List.mem_cons] at hj ⊢
    exact hj.elim .inl fun k => .inr (.inr k)
  by_cases e : x = i
  · subst e; exact hn j hj'
  · exact hc x j hx (by simp only [List.mem_append, List.mem_cons] at hxu ⊢; rintro (k | k | k) <;> simp_all) hj'

section
variable [Reps] {P : Program} {E : Env} {N : Nat} {ds : List Deferred} {ops : Array Oper} {ms ord0 : List Nat} {A0 : Hp} {ρ0 : Gh} {w0 : World}
  {l : List Nat} {σc : Sl} {lg : List Lg} {A : Hp} {D : List Dl} {listed : Array Bool} {ρ : Gh} {σr : Sl} {a : Act} {w : World}

theorem Inv.lt (h : Inv P E N ds ops ms A0 ρ0 w0 l σc lg A D listed ρ σr a w) : ∀ i ∈ ids D ++ l, i < ops.size := by
  intro i hi
  have h1 := (h.lst i).2 hi
  rw [← h.size]
  rw [Array.getD_eq_getD_getElem?] at h1
  rcases Nat.lt_or_ge i listed.size with h2 | h2
  · exact h2
  · rw [Array.getElem?_eq_none h2] at h1; cases h1

theorem Inv.listed_of (h : Inv P E N ds ops ms A0 ρ0 w0 l σc lg A D listed ρ σr a w) {p : Nat} (hp : listed.getD p false = true) : p ∉ ids D ++ l := by
  intro hh
  have h1 := (h.lst p).2 hh
  rw [Array.getD_eq_getD_getElem?] at h1 hp
  cases hx : listed[p]? with
  | none => rw [hx] at hp; cases hp
  | some b => rw [hx] at hp h1; simp only [Option.getD_some] at hp h1; rw [hp] at h1; cases h1

/-- one that is ready comes before none that waits -/
theorem Inv.ready_no (h : Inv P E N ds ops ms A0 ρ0 w0 l σc lg A D listed ρ σr a w) (hS : Stat ops ms ord0) {i : Nat} (hi : i ∈ Region.ready .any ops listed) :
    i ∈ ids D ++ l ∧ ∀ j ∈ ids D ++ l, tb ms i j = false := by
  rw [ready_iff] at hi
  obtain ⟨h1, h2, h3⟩ := hi
  refine ⟨(h.lst i).1 h2, fun j hj => ?_⟩
  cases ht : tb ms i j with
  | false => rfl
  | true =>
    obtain ⟨p, hp, hpj⟩ := hS.clo i j h1 (h.lt j hj) ht
    have hpu := h.listed_of (h3 p hp)
    rcases hpj with rfl | hpj
    · exact absurd hj hpu
    · rw [h.clo p j (hS.dir i h1 p hp).1 hpu hj] at hpj; cases hpj


/-- one that was looked ahead is done -/
theorem Inv.doneD {D1 D2 : List Dl} {d : Dl} (h : Inv P E N ds ops ms A0 ρ0 w0 l σc lg A (D1 ++ d :: D2) listed ρ σr a w) (hS : Stat ops ms ord0)
    (hi : d.i ∈ Region.ready .any ops listed) {ρ' : Gh} {v' : Value} {w' : World} (hle : ρ.ρ.le ρ'.ρ) (hv : VR ρ'.ρ d.v v')
    (hrel : RelX P ρ' (hideL A (hid (D1 ++ D2))) w') (hext : ExtX A0 ρ0 w0 (hideL A (hid (D1 ++ D2))) ρ' w')
    (hno : ∀ d' ∈ D1 ++ D2, ∀ x, d'.nw = some x → ρ'.ρ x = none) :
    Inv P E N ds ops ms A0 ρ0 w0 l σc lg A (D1 ++ D2) (listed.setIfInBounds d.i true) ρ' (oput σr (dstOf ops d.i) d.v) (a.put (dstOf ops d.i) v') w' := by
  obtain ⟨hU, hnb⟩ := h.ready_no hS hi
  have eU : ids (D1 ++ d :: D2) ++ l = ids D1 ++ d.i :: (ids D2 ++ l) := by simp [ids]
  have eU' : ids (D1 ++ D2) ++ l = ids D1 ++ (ids D2 ++ l) := by simp [ids]
  have hsub : ∀ d' ∈ D1 ++ D2, d' ∈ D1 ++ d :: D2 := by
    intro d' hd; simp only [List.mem_append, List.mem_cons] at hd ⊢; exact hd.elim .inl fun k => .inr (.inr k)
  have hd : d ∈ D1 ++ d :: D2 := by simp
  have hne : ∀ d' ∈ D1 ++ D2, d'.i ≠ d.i := by
    have := h.ord
    rw [eU, List.pairwise_append, List.pairwise_cons] at this
    obtain ⟨h1, ⟨h2, h3⟩, h4⟩ := this
    intro d' hd' e
    rcases List.mem_append.1 hd' with k | k
    · exact (h4 d'.i (mem_ids.2 ⟨d', k, rfl⟩) d.i (by simp)).1 e
    · exact (h2 d'.i (by simp only [List.mem_append]; exact .inl (mem_ids.2 ⟨d', k, rfl⟩))).1 e.symm
  have hlt : ∀ d' ∈ D1 ++ d :: D2, d'.i < ops.size := fun d' hd' => h.lt d'.i (by simp only [List.mem_append]; exact .inl (mem_ids.2 ⟨d', hd', rfl⟩))
  refine ⟨h.kn, sr_oput (h.sr.le hle) hv (fun x hx => (h.val d hd x hx).2), hrel, hext, by simp [h.size], ?_, ?_, ?_, ?_, fun d' hd' => h.val d' (hsub d' hd'), ?_, fun a ha b hb => h.eq2 a (hsub a ha) b (hsub b hb), ?_,
    fun d' hd' => h.lgr d' (hsub d' hd'), fun d' hd' x hx => ⟨(h.lgn d' (hsub d' hd') x hx).1, hno d' hd' x hx⟩, h.lgb, ?_⟩
  · rw [eU']
    exact lst_remove (by rw [← eU]; exact h.lst) (by have := h.ord; rw [eU] at this; exact this.imp fun hh => hh.1)
  · rw [eU']
    exact clo_remove (by rw [← eU]; exact h.clo) (by rw [← eU]; exact hnb)
  · rw [eU']
    have := h.ord
    rw [eU] at this
    exact this.sublist (by simp)
  · intro x hx
    rw [oput_get]
    by_cases e : dstOf ops d.i = some x
    · rw [if_pos e, (h.val d hd x e).1]
    · rw [if_neg e]
      refine h.eq0 x fun d' hd' => ?_
      simp only [List.mem_append, List.mem_cons] at hd'
      rcases hd' with k | rfl | k
      · exact hx d' (by simp [k])
      · exact e
      · exact hx d' (by simp [k])
  · intro d1 hd1 x hx hc
    rw [oput_get]
    by_cases e : dstOf ops d.i = some x
    · rw [if_pos e]
      rcases hS.rd d1.i d.i (hlt d1 (hsub d1 hd1)) (hlt d hd) (hne d1 hd1) x hx e with k | k
      · exact (h.eq2 d1 (hsub d1 hd1) d hd k x e).symm
      · rw [hnb d1.i (by simp only [List.mem_append]; exact .inl (mem_ids.2 ⟨d1, hsub d1 hd1, rfl⟩))] at k; cases k
    · rw [if_neg e]
      refine h.eq1 d1 (hsub d1 hd1) x hx fun d' hd' hne' hdx => ?_
      simp only [List.mem_append, List.mem_cons] at hd'
      rcases hd' with k | rfl | k
      · exact hc d' (by simp [k]) hne' hdx
      · exact absurd hdx e
      · exact hc d' (by simp [k]) hne' hdx
  · intro d' hd'
    obtain ⟨o, ho, g, hg, hp⟩ := h.pms d' (hsub d' hd')
    refine ⟨o, ho, g, hg, ?_⟩
    rcases hp with k | k | ⟨k1, k2, A1, k3, k4⟩ | k
    · exact .inl k
    · exact .inr (.inl k)
    · exact .inr (.inr (.inl ⟨k1, k2, A1, k3, fun x hx => let ⟨a, b, c⟩ := k4 x hx; ⟨a, b, fun d2 hd2 => c d2 (hsub d2 hd2)⟩⟩))
    · exact .inr (.inr (.inr k))
  · exact h.uni.sublist (by simp)

end
end Go.Dn
end

section
namespace Go.Dn
theorem dstOf_of {ops : Array Oper} {i : Nat} {o : Oper} (h : ops[i]? = some o) : dstOf ops i = o.dst := by simp [dstOf, h]
theorem readsOf_of {ops : Array Oper} {i : Nat} {o : Oper} (h : ops[i]? = some o) : readsOf ops i = o.looksAt ops := by simp [readsOf, h]
theorem wpOp_value {P : Program} {ops : Array Oper} {a : Act} {w : World} {Q : Exit → Act → World → Prop} {i : Nat} {o : Oper} {K : Act → World → Prop} (ho : ops[i]? = some o) (hw : Region.wanted o (yielded ops a.tmps) = true) {v : Value} {w' : World}
    (hr : (execOp a.eval o).run P w = .ok (.value v) w') (hK : K (a.put o.dst v) w') : wpOp P ops Q i K a w := by
  unfold wpOp
  simp only [ho, hw, if_true, Oper.wp, hr, Oper.upon]
  exact .inl hK
section
variable [Reps] {P : Program} {E : Env} {N : Nat} {ds : List Deferred} {ops : Array Oper} {ms ord0 : List Nat} {A0 : Hp} {ρ0 : Gh} {w0 : World}
  {l : List Nat} {σc : Sl} {lg : List Lg} {A : Hp} {D : List Dl} {listed : Array Bool} {ρ : Gh} {σr : Sl} {a : Act} {w : World}
  {Q : Exit → Act → World → Prop}



theorem Inv.stepD (hT : E.T.ok P) (hS : Stat ops ms ord0) {D1 D2 : List Dl} {d : Dl} (h : Inv P E N ds ops ms A0 ρ0 w0 l σc lg A (D1 ++ d :: D2) listed ρ σr a w)
    (hi : d.i ∈ Region.ready .any ops listed) {K : Act → World → Prop}
    (hK : ∀ ρ' σr' a' w', Inv P E N ds ops ms A0 ρ0 w0 l σc lg A (D1 ++ D2) (listed.setIfInBounds d.i true) ρ' σr' a' w' → K a' w') : wpOp P ops Q d.i K a w := by
  obtain ⟨hU, hnb⟩ := h.ready_no hS hi
  have hd : d ∈ D1 ++ d :: D2 := by simp
  obtain ⟨o, ho, g, hg, hp⟩ := h.pms d hd
  have hag : ∀ x ∈ o.looksAt ops, d.σ.get x = σr.get x := by
    intro x hx
    refine (h.eq1 d hd x (by rw [readsOf_of ho]; exact hx) fun d' hd' _ _ => ?_).symm
    exact hnb d'.i (by simp only [List.mem_append]; exact .inl (mem_ids.2 ⟨d', hd', rfl⟩))
  have hwant := dwant_sound h.sr ((dwant_agree hag).symm.trans hg)
  have hA := agreeOf (E := E) hag
  have hsub : ∀ d' ∈ D1 ++ D2, d' ∈ D1 ++ d :: D2 := by
    intro d' hd; simp only [List.mem_append, List.mem_cons] at hd ⊢; exact hd.elim .inl fun k => .inr (.inr k)
  have hsame : d.nw = none → hid (D1 ++ D2) = hid (D1 ++ d :: D2) := by
    intro hn; simp [hid, hn]
  have fin : ∀ {v' : Value}, d.nw = none → VR ρ.ρ d.v v' → K (a.put o.dst v') w := by
    intro v' hn hv
    have := h.doneD hS hi ρ.ρ.le_refl hv (by rw [hsame hn]; exact h.rel) (by rw [hsame hn]; exact h.ext) (fun d' hd' x hx => (h.lgn d' (hsub d' hd') x hx).2)
    rw [dstOf_of ho] at this
    exact hK _ _ _ _ this
  rcases hp with ⟨rfl, hv, hn⟩ | ⟨rfl, hv, hn⟩ | ⟨rfl, hn, A1, hv, hx⟩ | ⟨rfl, ob, f, id, hv, hf, hn, hget, h0⟩
  · unfold wpOp
    simp only [ho, hwant, Bool.false_eq_true, if_false]
    have := fin (v' := undef) hn (by rw [hv]; exact vr_undef)
    exact this
  · rw [dval_agree hA] at hv
    obtain ⟨v', k1, k2⟩ := dval_sound hT h.sr hv
    exact wpOp_value ho hwant (k2 w) (fin hn k1)
  · have hloc : ∀ x ∈ d.rd, (hideL A (hid (D1 ++ d :: D2))).get x = A1.get x := by
      intro x hxr
      obtain ⟨h1, h2, h3⟩ := hx x hxr
      rw [hideL_get, if_neg ?_, h1]
      intro hxm
      obtain ⟨d', hd', hdx⟩ := mem_hid.1 hxm
      have := h3 d' hd' hdx
      rw [hnb d'.i (by simp only [List.mem_append]; exact .inl (mem_ids.2 ⟨d', hd', rfl⟩))] at this
      cases this
    have hv2 := drd_local hv hloc
    rw [drd_agree hA] at hv2
    obtain ⟨v', k1, k2⟩ := drd_sound hT h.sr h.rel.rel hv2
    exact wpOp_value ho hwant k2 (fin hn k1)
  · rw [dnew_agree hA] at hv
    obtain ⟨p, O, w1, v', hw1, hp, hr, hall⟩ := dnew_sound hT h.sr w hv
    have hlg := h.lgn d hd id hn
    obtain ⟨q1, q2, q3⟩ := hall id hlg.2
    have hidm : id ∈ hid (D1 ++ d :: D2) := mem_hid.2 ⟨d, hd, hn⟩
    have hlt : id < A.next := by
      obtain ⟨e, he, _, hex⟩ := hlg.1
      exact (h.lgb e he).2 id hex
    have hrel1 : RelX P ρ (hideL A (hid (D1 ++ d :: D2))) w1 := by
      rcases hw1 with rfl | rfl
      · exact h.rel
      · exact h.rel.drew
    have hext1 : ExtX A0 ρ0 w0 (hideL A (hid (D1 ++ d :: D2))) ρ w1 := by
      rcases hw1 with rfl | rfl
      · exact h.ext
      · exact h.ext.trans h.rel.drewx
    have hp1 : p.blk = w1.heap.size := by
      rcases hw1 with rfl | rfl
      · exact hp
      · exact hp
    obtain ⟨r1, r2⟩ := hrel1.insert (i := id) (by simpa using hlt) (Nat.le_trans h.kn h0) (by rw [hideL_get, if_pos hidm]) hlg.2 ob O p hp1 q2 q3
    have r2' := r2 h0 hext1
    have hg2 : ∀ i o, (hideL A (hid (D1 ++ D2))).get i = some o → ((hideL A (hid (D1 ++ d :: D2))).set id (some ob)).get i = some o := by
      intro i o' hio
      rw [hideL_get] at hio
      rw [Hp.get_set, hideL_get]
      by_cases hm : i ∈ hid (D1 ++ D2)
      · rw [if_pos hm] at hio; cases hio
      · rw [if_neg hm] at hio
        by_cases e : i = id
        · subst e
          rw [hget] at hio
          simpa using hio
        · rw [if_neg e, if_neg ?_]
          · exact hio
          · intro hm2
            obtain ⟨d', hd', hdx⟩ := mem_hid.1 hm2
            simp only [List.mem_append, List.mem_cons] at hd'
            rcases hd' with k | rfl | k
            · exact hm (mem_hid.2 ⟨d', by simp [k], hdx⟩)
            · rw [hn] at hdx; cases hdx; exact e rfl
            · exact hm (mem_hid.2 ⟨d', by simp [k], hdx⟩)
    have hnx : ((hideL A (hid (D1 ++ d :: D2))).set id (some ob)).next ≤ (hideL A (hid (D1 ++ D2))).next := by
      show (hideL A (hid (D1 ++ d :: D2))).next ≤ _
      simp
    refine wpOp_value ho hwant hr ?_
    have := h.doneD hS hi (Rn.le_add p hlg.2) (by rw [hf]; exact q1) (r1.sub hnx hg2) (r2'.sub hnx hg2) (fun d' hd' x hx => ?_)
    · rw [dstOf_of ho] at this
      exact hK _ _ _ _ this
    · have hxne : x ≠ id := by
        rintro rfl
        have hu := h.uni
        rw [List.pairwise_append, List.pairwise_cons] at hu
        obtain ⟨_, ⟨u2, _⟩, u3⟩ := hu
        rcases List.mem_append.1 hd' with k | k
        · exact u3 d' k d (by simp) x hx hn
        · exact u2 d' k x hn hx
      have := (h.lgn d' (hsub d' hd') x hx).2
      simp only [Rn.add, if_neg hxne, this]

/-! ## looking ahead -/
/-- an operation that is not an effect is looked ahead at -/
theorem Inv.ahead (hS : Stat ops ms ord0) {i : Nat} (h : Inv P E N ds ops ms A0 ρ0 w0 (i :: l) σc lg A D listed ρ σr a w) {o : Oper} (ho : ops[i]? = some o)
    {v : Value} {rd : List Nat} {nw : Option Nat} {A' : Hp} {lg' : List Lg} (hb : ∀ x, o.dst = some x → x < N)
    (hlg : ∀ e ∈ lg, e ∈ lg') (hnew : ∀ e ∈ lg', e ∈ lg ∨ (e.i = i ∧ e.rd = rd ∧ e.nw = nw)) (hin : (rd ≠ [] ∨ nw ≠ none) → ∃ e ∈ lg', e.i = i ∧ e.rd = rd ∧ e.nw = nw)
    (hA' : (nw = none ∧ A' = A) ∨ (∃ ob, nw = some A.next ∧ A' = A.push ob)) (hrd : ∀ x ∈ rd, x < A.next)
    (hp : Promise E ops ms A0.next A' ρ (D ++ [⟨i, σc, v, rd, nw⟩]) ⟨i, σc, v, rd, nw⟩) :
    Inv P E N ds ops ms A0 ρ0 w0 l (oput σc o.dst v) lg' A' (D ++ [⟨i, σc, v, rd, nw⟩]) listed ρ σr a w := by
  have eU : ids (D ++ [⟨i, σc, v, rd, nw⟩]) ++ l = ids D ++ i :: l := by simp [ids]
  have hiU : i ∈ ids D ++ i :: l := by simp
  have hord := h.ord
  rw [List.pairwise_append, List.pairwise_cons] at hord
  obtain ⟨o1, ⟨o2, o3⟩, o4⟩ := hord
  have hDi : ∀ d ∈ D, d.i ≠ i ∧ tb ms d.i i = false := fun d hd => o4 d.i (mem_ids.2 ⟨d, hd, rfl⟩) i (by simp)
  have hlt : ∀ d ∈ D, d.i < ops.size := fun d hd => h.lt d.i (by simp only [List.mem_append]; exact .inl (mem_ids.2 ⟨d, hd, rfl⟩))
  have hilt := h.lt i hiU
  have hnx : A.next ≤ A'.next := by
    rcases hA' with ⟨_, rfl⟩ | ⟨ob, _, rfl⟩
    · exact Nat.le_refl _
    · simp
  have hgo : ∀ x, x < A.next → A'.get x = A.get x := by
    intro x hx
    rcases hA' with ⟨_, rfl⟩ | ⟨ob, _, rfl⟩
    · rfl
    · exact Hp.get_push_ne _ _ (by omega)
  have hsubg : ∀ x o, (hideL A' (hid (D ++ [⟨i, σc, v, rd, nw⟩]))).get x = some o → (hideL A (hid D)).get x = some o := by
    intro x o' hx
    rw [hideL_get] at hx ⊢
    have hmem : x ∈ hid (D ++ [⟨i, σc, v, rd, nw⟩]) ↔ x ∈ hid D ∨ nw = some x := by
      simp only [mem_hid, List.mem_append, List.mem_singleton]
      constructor
      · rintro ⟨d, k | rfl, e⟩
        · exact .inl ⟨d, k, e⟩
        · exact .inr e
      · rintro (⟨d, k, e⟩ | e)
        · exact ⟨d, .inl k, e⟩
        · exact ⟨_, .inr rfl, e⟩
    by_cases hm : x ∈ hid D
    · rw [if_pos (hmem.2 (.inl hm))] at hx; cases hx
    · by_cases hn : nw = some x
      · rw [if_pos (hmem.2 (.inr hn))] at hx; cases hx
      · rw [if_neg (fun k => (hmem.1 k).elim hm hn)] at hx
        rw [if_neg hm]
        rcases hA' with ⟨_, rfl⟩ | ⟨ob, e1, rfl⟩
        · exact hx
        · rwa [Hp.get_push_ne _ _ (fun e => hn (by rw [e1, e]))] at hx
  have hnx2 : (hideL A (hid D)).next ≤ (hideL A' (hid (D ++ [⟨i, σc, v, rd, nw⟩]))).next := by simpa using hnx
  have hnwlt : ∀ d ∈ D, ∀ x, d.nw = some x → x < A.next := by
    intro d hd x hx
    obtain ⟨⟨e, he, _, hex⟩, _⟩ := h.lgn d hd x hx
    exact (h.lgb e he).2 x hex
  refine ⟨h.kn, h.sr, h.rel.sub hnx2 hsubg, h.ext.sub hnx2 hsubg, h.size, by rw [eU]; exact h.lst, by rw [eU]; exact h.clo, by rw [eU]; exact h.ord, ?_, ?_, ?_, ?_, ?_, ?_, ?_, ?_, ?_⟩
  · intro x hx
    rw [oput_get]
    have : o.dst ≠ some x := by rw [← dstOf_of ho]; exact hx ⟨i, σc, v, rd, nw⟩ (by simp)
    rw [if_neg this]
    exact h.eq0 x fun d hd => hx d (by simp [hd])
  · intro d hd x hx
    simp only [List.mem_append, List.mem_singleton] at hd
    rcases hd with hd | rfl
    · obtain ⟨h1, h2⟩ := h.val d hd x hx
      refine ⟨?_, h2⟩
      rw [oput_get, if_neg ?_]
      · exact h1
      · rw [← dstOf_of ho]
        exact hS.dst d.i i (hlt d hd) hilt (hDi d hd).1 x hx
    · have hx' : o.dst = some x := by rw [← dstOf_of ho]; exact hx
      rw [oput_get, if_pos hx']
      exact ⟨rfl, hb x hx'⟩
  · intro d hd x hx hc
    simp only [List.mem_append, List.mem_singleton] at hd
    rcases hd with hd | rfl
    · exact h.eq1 d hd x hx fun d' hd' => hc d' (by simp [hd'])
    · refine h.eq0 x fun d' hd' e => ?_
      have h1 := hDi d' hd'
      have h2 := hc d' (by simp [hd']) h1.1 e
      rcases hS.rd i d'.i hilt (hlt d' hd') (fun e => h1.1 e.symm) x hx e with k | k
      · rw [h2] at k; cases k
      · rw [h1.2] at k; cases k
  · intro d hd d' hd' ht x hx
    simp only [List.mem_append, List.mem_singleton] at hd hd'
    rcases hd with hd | rfl
    · rcases hd' with hd' | rfl
      · exact h.eq2 d hd d' hd' ht x hx
      · rw [(hDi d hd).2] at ht; cases ht
    · rcases hd' with hd' | rfl
      · exact (h.val d' hd' x hx).1
      · rw [hS.irr i hilt] at ht; cases ht
  · intro d hd
    simp only [List.mem_append, List.mem_singleton] at hd
    rcases hd with hd | rfl
    · obtain ⟨o', ho', g, hg, hh⟩ := h.pms d hd
      refine ⟨o', ho', g, hg, ?_⟩
      rcases hh with k | k | ⟨k1, k2, A1, k3, k4⟩ | ⟨k1, ob, f, id, k2, k3, k4, k5, k6⟩
      · exact .inl k
      · exact .inr (.inl k)
      · refine .inr (.inr (.inl ⟨k1, k2, A1, k3, fun x hx => ?_⟩))
        obtain ⟨a1, a2, a3⟩ := k4 x hx
        refine ⟨by rw [hgo x a2, a1], by omega, fun d' hd' hdx => ?_⟩
        simp only [List.mem_append, List.mem_singleton] at hd'
        rcases hd' with hd' | rfl
        · exact a3 d' hd' hdx
        · rcases hA' with ⟨e, _⟩ | ⟨ob, e, _⟩
          · rw [e] at hdx; cases hdx
          · rw [e] at hdx; cases hdx; omega
      · exact .inr (.inr (.inr ⟨k1, ob, f, id, k2, k3, k4, by rw [hgo id (hnwlt d hd id k4), k5], k6⟩))
    · exact hp
  · intro d hd x hx
    simp only [List.mem_append, List.mem_singleton] at hd
    rcases hd with hd | rfl
    · obtain ⟨e, he, h1, h2⟩ := h.lgr d hd x hx
      exact ⟨e, hlg e he, h1, h2⟩
    · obtain ⟨e, he, h1, h2, h3⟩ := hin (.inl (by intro e; simp only at hx; rw [e] at hx; cases hx))
      exact ⟨e, he, h1, by rw [h2]; exact hx⟩
  · intro d hd x hx
    simp only [List.mem_append, List.mem_singleton] at hd
    rcases hd with hd | rfl
    · obtain ⟨⟨e, he, h1, h2⟩, h3⟩ := h.lgn d hd x hx
      exact ⟨⟨e, hlg e he, h1, h2⟩, h3⟩
    · obtain ⟨e, he, h1, h2, h3⟩ := hin (.inr (by intro e; simp only at hx; rw [e] at hx; cases hx))
      refine ⟨⟨e, he, h1, by rw [h3]; exact hx⟩, ?_⟩
      rcases hA' with ⟨e, _⟩ | ⟨ob, e, _⟩
      · simp only at hx; rw [e] at hx; cases hx
      · simp only at hx; rw [e] at hx; cases hx
        exact (h.rel.rel.fresh A.next (by simp)).2
  · intro e he
    rcases hnew e he with k | ⟨k1, k2, k3⟩
    · obtain ⟨a1, a2⟩ := h.lgb e k
      exact ⟨fun x hx => by have := a1 x hx; omega, fun x hx => by have := a2 x hx; omega⟩
    · refine ⟨fun x hx => by rw [k2] at hx; have := hrd x hx; omega, fun x hx => ?_⟩
      rw [k3] at hx
      rcases hA' with ⟨e, _⟩ | ⟨ob, e, rfl⟩
      · rw [e] at hx; cases hx
      · rw [e] at hx; cases hx; simp
  · rw [List.pairwise_append]
    refine ⟨h.uni, List.pairwise_singleton _ _, fun d hd d' hd' x hx => ?_⟩
    simp only [List.mem_singleton] at hd'
    subst hd'
    have := hnwlt d hd x hx
    rcases hA' with ⟨e, _⟩ | ⟨ob, e, _⟩
    · rw [e]; simp
    · rw [e]; simp only [ne_eq, Option.some.injEq]; omega

end
end Go.Dn
end

section
namespace Go.Dn
theorem wpAny_step {P : Program} {ops : Array Oper} {listed : Array Bool} {a : Act} {w : World} {Q : Exit → Act → World → Prop} {fuel : Nat} (h0 : Region.ready .any ops listed ≠ []) (h : ∀ i ∈ Region.ready .any ops listed, wpOp P ops Q i (wpAny P .any ops Q fuel (listed.setIfInBounds i true)) a w) :
    wpAny P .any ops Q (fuel + 1) listed a w := ⟨fun e => absurd e h0, h⟩
theorem mem_split  {D : List Dl} {i : Nat} (h : i ∈ ids D) : ∃ D1 d D2, D = D1 ++ d :: D2 ∧ d.i = i := by
  obtain ⟨d, hd, e⟩ := mem_ids.1 h
  obtain ⟨D1, D2, e2⟩ := List.append_of_mem hd
  exact ⟨D1, d, D2, e2, e⟩
section
variable [Reps] {P : Program} {E : Env} {N : Nat} {ds : List Deferred} {ops : Array Oper} {ms ord0 : List Nat} {A0 : Hp} {ρ0 : Gh} {w0 : World}
  {l : List Nat} {σc : Sl} {lg : List Lg} {A : Hp} {D : List Dl} {listed : Array Bool} {ρ : Gh} {σr : Sl} {a : Act} {w : World}
  {Q : Exit → Act → World → Prop}

theorem Inv.stepE (hT : E.T.ok P) {call : CallT} (hC : CallOK P call) (hS : Stat ops ms ord0) {i : Nat} (h : Inv P E N ds ops ms A0 ρ0 w0 (i :: l) σc lg A D listed ρ σr a w)
    {o : Oper} (ho : ops[i]? = some o) (hi : i ∈ Region.ready .any ops listed) (hg : dwant ops.toList σc o = some true) {v : Value} {A2 : Hp}
    (hd : dstep E call σc o (guardL (hideL A (newsOf ms i lg)) (readBy ms i lg)) = some (v, A2)) (hb : ∀ x, o.dst = some x → x < N) {K : Act → World → Prop}
    (hK : ∀ ρ' σr' a' w', Inv P E N ds ops ms A0 ρ0 w0 l (oput σc o.dst v) lg (backL A (backL A A2 (readBy ms i lg)) (newsOf ms i lg)) D (listed.setIfInBounds i true) ρ' σr' a' w' → K a' w') : wpOp P ops Q i K a w := by
  obtain ⟨hU, hnb⟩ := h.ready_no hS hi
  have hord := h.ord
  rw [List.pairwise_append, List.pairwise_cons] at hord
  obtain ⟨o1, ⟨o2, o3⟩, o4⟩ := hord
  have hDi : ∀ d ∈ D, d.i ≠ i ∧ tb ms d.i i = false := fun d hd => o4 d.i (mem_ids.2 ⟨d, hd, rfl⟩) i (by simp)
  have hDU : ∀ d ∈ D, d.i ∈ ids D ++ i :: l := fun d hd => by simp only [List.mem_append]; exact .inl (mem_ids.2 ⟨d, hd, rfl⟩)
  have hlt : ∀ d ∈ D, d.i < ops.size := fun d hd => h.lt d.i (hDU d hd)
  have hilt := h.lt i hU
  have hnor : ∀ x ∈ o.looksAt ops, ∀ d ∈ D, dstOf ops d.i ≠ some x := by
    intro x hx d hd e
    rcases hS.rd i d.i hilt (hlt d hd) (fun e => (hDi d hd).1 e.symm) x (by rw [readsOf_of ho]; exact hx) e with k | k
    · rw [hnb d.i (hDU d hd)] at k; cases k
    · rw [(hDi d hd).2] at k; cases k
  have hag : ∀ x ∈ o.looksAt ops, σc.get x = σr.get x := fun x hx => (h.eq0 x (hnor x hx)).symm
  have hwant := dwant_sound h.sr ((dwant_agree hag).symm.trans hg)
  generalize hX : newsOf ms i lg = X at *
  generalize hY : readBy ms i lg = Y at *
  have hHX : ∀ x ∈ hid D, x ∈ X := by
    intro x hx
    obtain ⟨d, hd, hdx⟩ := mem_hid.1 hx
    obtain ⟨⟨e, he, e1, e2⟩, _⟩ := h.lgn d hd x hdx
    rw [← hX, mem_newsOf]
    exact ⟨e, he, e2, by rw [e1]; exact hnb d.i (hDU d hd)⟩
  have hRY : ∀ d ∈ D, ∀ x ∈ d.rd, x ∈ Y := by
    intro d hd x hx
    obtain ⟨e, he, e1, e2⟩ := h.lgr d hd x hx
    rw [← hY, mem_readBy]
    exact ⟨e, he, e2, by rw [e1]; exact hnb d.i (hDU d hd)⟩
  have hXlt : ∀ x ∈ X, x < A.next := by
    intro x hx
    rw [← hX, mem_newsOf] at hx
    obtain ⟨e, he, e1, _⟩ := hx
    exact (h.lgb e he).2 x e1
  have hYlt : ∀ x ∈ Y, x < A.next := by
    intro x hx
    rw [← hY, mem_readBy] at hx
    obtain ⟨e, he, e1, _⟩ := hx
    exact (h.lgb e he).1 x e1
  have hrelS : RelX P ρ (guardL (hideL A X) Y) w := by
    refine h.rel.less (by simp) fun x o' hx => ?_
    rw [guardL_get, hideL_get] at hx
    rw [hideL_get]
    by_cases hxX : x ∈ X
    · rw [if_pos hxX] at hx; simp at hx
    · rw [if_neg hxX] at hx
      rw [if_neg (fun k => hxX (hHX x k))]
      by_cases hxY : x ∈ Y
      · rw [if_pos hxY] at hx
        cases hx' : A.get x with
        | none => rw [hx'] at hx; cases hx
        | some o => rw [hx'] at hx; obtain ⟨q1, q2⟩ := toRoO_some hx; exact ⟨o, rfl, .inr ⟨q1, q2⟩⟩
      · rw [if_neg hxY] at hx
        exact ⟨o', hx, .inl rfl⟩
  have hstep : dstep E call σr o (guardL (hideL A X) Y) = some (v, A2) := by
    rw [← dstep_agree (agreeOf hag)]; exact hd
  unfold wpOp
  simp only [ho, hwant, if_true]
  refine .inl (dstep_sound hT hC h.sr hrelS hstep fun v' w' hafter => ?_)
  obtain ⟨ρ', hv, hrel2, hext2⟩ := hafter
  have hB2 : ∀ x, (backL A (backL A A2 Y) X).get x = if x ∈ X ∨ x ∈ Y then A.get x else A2.get x := by
    intro x
    rw [backL_get, backL_get]
    by_cases h1 : x ∈ X
    · simp [h1]
    · by_cases h2 : x ∈ Y <;> simp [h1, h2]
  have hn2 : (hideL (backL A (backL A A2 Y) X) (hid D)).next = A2.next := by simp
  have hnextS : A.next ≤ A2.next := by simpa using hext2.next
  obtain ⟨ρ2, hρ2, hback⟩ := RelX.back (B := hideL A (hid D)) (A := guardL (hideL A X) Y) (A2 := A2) (B2 := hideL (backL A (backL A A2 Y) X) (hid D)) (X ++ Y) h.rel (by simp)
    (by
      intro x hx o' hxo
      rw [guardL_get, hideL_get] at hxo
      by_cases h1 : x ∈ X
      · rw [if_pos h1] at hxo; simp at hxo
      · have h2 : x ∈ Y := (List.mem_append.1 hx).resolve_left h1
        rw [if_neg h1, if_pos h2] at hxo
        cases hx' : A.get x with
        | none => rw [hx'] at hxo; cases hxo
        | some o =>
          rw [hx'] at hxo
          obtain ⟨q1, rfl⟩ := toRoO_some hxo
          refine ⟨toRo_md _, by rw [toRo_isAbs]; exact q1, fun hs => ?_, o, ?_⟩
          · rw [toRo_sh o hs, hideL_get, if_neg (fun k => h1 (hHX x k)), hx']
          · rw [hideL_get, if_neg (fun k => h1 (hHX x k)), hx'])
    (by
      intro x hx
      simp only [List.mem_append, not_or] at hx
      rw [guardL_get, hideL_get, hideL_get, if_neg hx.2, if_neg hx.1, if_neg (fun k => hx.1 (hHX x k))])
    hrel2 hext2 hn2
    (by
      intro x
      by_cases hx : x ∈ X ++ Y
      · refine .inl ⟨hx, ?_⟩
        rw [hideL_get, hB2, hideL_get]
        by_cases h1 : x ∈ hid D
        · simp [h1]
        · rw [if_neg h1, if_neg h1, if_pos (List.mem_append.1 hx)]; exact .inl rfl
      · refine .inr ⟨hx, ?_⟩
        have hx' := hx
        simp only [List.mem_append] at hx'
        rw [hideL_get, hB2, if_neg (fun k => hx' (.inl (hHX x k))), if_neg hx']
        exact .inl rfl)
    (by
      intro x hx
      simp only [hideL_next]
      rcases List.mem_append.1 hx with k | k
      · exact hXlt x k
      · exact hYlt x k)
  have hext := hback.2 h.ext
  have hndst : ∀ x, o.dst = some x → ∀ d ∈ D, dstOf ops d.i ≠ some x := by
    intro x hx d hd
    exact hS.dst i d.i hilt (hlt d hd) (fun e => (hDi d hd).1 e.symm) x (by rw [dstOf_of ho]; exact hx)
  have hnrd : ∀ x, o.dst = some x → ∀ d ∈ D, x ∉ readsOf ops d.i := by
    intro x hx d hd hxr
    rcases hS.rd d.i i (hlt d hd) hilt (hDi d hd).1 x hxr (by rw [dstOf_of ho]; exact hx) with k | k
    · rw [(hDi d hd).2] at k; cases k
    · rw [hnb d.i (hDU d hd)] at k; cases k
  have hkeepA : ∀ x, x ∈ X ∨ x ∈ Y → (backL A (backL A A2 Y) X).get x = A.get x := fun x hx => by rw [hB2, if_pos hx]
  refine hK ρ2 (oput σr o.dst v) _ w' ⟨h.kn, by rw [hρ2]; exact sr_oput (h.sr.le hext2.le) hv hb, hback.1, hext, by simp [h.size], ?_, ?_, ?_, ?_, ?_, ?_, h.eq2, ?_, h.lgr, ?_, ?_, h.uni⟩
  · exact lst_remove h.lst (h.ord.imp fun hh => hh.1)
  · exact clo_remove h.clo hnb
  · exact h.ord.sublist (by simp)
  · intro x hx
    rw [oput_get, oput_get]
    by_cases e : o.dst = some x
    · rw [if_pos e, if_pos e]
    · rw [if_neg e, if_neg e]; exact h.eq0 x hx
  · intro d hd x hx
    obtain ⟨h1, h2⟩ := h.val d hd x hx
    refine ⟨?_, h2⟩
    rw [oput_get, if_neg (fun e => hndst x e d hd hx)]
    exact h1
  · intro d hd x hx hc
    rw [oput_get, if_neg (fun e => hnrd x e d hd hx)]
    exact h.eq1 d hd x hx hc
  · intro d hd
    obtain ⟨o', ho', g, hg', hh⟩ := h.pms d hd
    refine ⟨o', ho', g, hg', ?_⟩
    rcases hh with k | k | ⟨k1, k2, A1, k3, k4⟩ | ⟨k1, ob, f, id, k2, k3, k4, k5, k6⟩
    · exact .inl k
    · exact .inr (.inl k)
    · refine .inr (.inr (.inl ⟨k1, k2, A1, k3, fun x hx => ?_⟩))
      obtain ⟨a1, a2, a3⟩ := k4 x hx
      refine ⟨by rw [hkeepA x (.inr (hRY d hd x hx)), a1], ?_, a3⟩
      simp only [backL_next]; omega
    · exact .inr (.inr (.inr ⟨k1, ob, f, id, k2, k3, k4, by rw [hkeepA id (.inl (hHX id (mem_hid.2 ⟨d, hd, k4⟩))), k5], k6⟩))
  · intro d hd x hx
    obtain ⟨h1, h2⟩ := h.lgn d hd x hx
    refine ⟨h1, ?_⟩
    have : x < A.next := hXlt x (hHX x (mem_hid.2 ⟨d, hd, hx⟩))
    rw [hρ2, hext2.old x (by simpa using this)]
    exact h2
  · intro e he
    obtain ⟨a1, a2⟩ := h.lgb e he
    simp only [backL_next]
    exact ⟨fun x hx => by have := a1 x hx; omega, fun x hx => by have := a2 x hx; omega⟩

/-! ## the whole region -/
theorem Inv.lt_next (h : Inv P E N ds ops ms A0 ρ0 w0 l σc lg A D listed ρ σr a w) {x : Nat} (hx : ∃ ob, A.get x = some ob) : x < A.next := by
  obtain ⟨ob, hx⟩ := hx
  by_cases hm : x ∈ hid D
  · obtain ⟨d, hd, hdx⟩ := mem_hid.1 hm
    obtain ⟨⟨e, he, _, hex⟩, _⟩ := h.lgn d hd x hdx
    exact (h.lgb e he).2 x hex
  · rcases Nat.lt_or_ge x A.next with h1 | h1
    · exact h1
    · have := (h.rel.rel.fresh x (by simpa using h1)).1
      rw [hideL_get, if_neg hm, hx] at this
      cases this

theorem Inv.ready_nonempty (hS : Stat ops ms ord0) (h : Inv P E N ds ops ms A0 ρ0 w0 l σc lg A D listed ρ σr a w) (hne : ids D ++ l ≠ []) : Region.ready .any ops listed ≠ [] := by
  obtain ⟨u, U, hU⟩ : ∃ u U, ids D ++ l = u :: U := by
    cases hh : ids D ++ l with
    | nil => exact absurd hh hne
    | cons u U => exact ⟨u, U, rfl⟩
  have hu : u ∈ ids D ++ l := by rw [hU]; simp
  have hord := h.ord
  rw [hU, List.pairwise_cons] at hord
  have : u ∈ Region.ready .any ops listed := by
    rw [ready_iff]
    have hult := h.lt u hu
    refine ⟨hult, (h.lst u).2 hu, fun p hp => ?_⟩
    obtain ⟨h1, h2⟩ := hS.dir u hult p hp
    have hpU : p ∉ ids D ++ l := by
      intro k
      rw [hU] at k
      rcases List.mem_cons.1 k with rfl | k
      · rw [hS.irr p h1] at h2; cases h2
      · rw [(hord.1 p k).2] at h2; cases h2
    have h3 : ¬ listed.getD p true = false := fun k => hpU ((h.lst p).1 k)
    rw [Array.getD_eq_getD_getElem?] at h3 ⊢
    have hps : p < listed.size := by rw [h.size]; exact h1
    rw [Array.getElem?_eq_getElem hps] at h3 ⊢
    simpa using h3
  intro e
  rw [e] at this
  cases this



theorem drawRun_any (hT : E.T.ok P) {call : CallT} (hC : CallOK P call) (hS : Stat ops ms ord0) {R : Type} {k : Sl → Hp → Option R} {r : R}
    (hk : ∀ ρ' σ' A' a' w', SR P E ρ'.ρ N ds σ' a' → RelX P ρ' A' w' → ExtX A0 ρ0 w0 A' ρ' w' → k σ' A' = some r → Q .normal a' w') :
    ∀ (fuel : Nat) (l : List Nat) (σc : Sl) (lg : List Lg) (A : Hp) (D : List Dl) (listed : Array Bool) (ρ : Gh) (σr : Sl) (a : Act) (w : World),
      Inv P E N ds ops ms A0 ρ0 w0 l σc lg A D listed ρ σr a w → bar E ops l = true → drawRun E call N ops ops.toList ms l σc lg k A = some r → D.length + l.length = fuel →
      wpAny P .any ops Q fuel listed a w := by
  intro fuel
  induction fuel with
  | zero =>
    intro l σc lg A D listed ρ σr a w h hb hr hl
    have hD : D = [] := by cases D <;> simp_all
    have hl' : l = [] := by cases l <;> simp_all
    subst hD; subst hl'
    simp only [drawRun] at hr
    refine ⟨?_, hk ρ σc A a w ⟨h.sr.size, fun t v hv => h.sr.get t v ?_, h.sr.defers, h.sr.glob⟩ (by simpa [hid, hideL] using h.rel) (by simpa [hid, hideL] using h.ext) hr⟩
    · cases hh : Region.ready .any ops listed with
      | nil => rfl
      | cons x xs =>
        have : x ∈ Region.ready .any ops listed := by rw [hh]; simp
        have := (h.ready_no hS this).1
        simp [ids] at this
    · rw [h.eq0 t (by simp)]; exact hv
  | succ fuel ih =>
    intro l
    induction l with
    | nil =>
      intro σc lg A D listed ρ σr a w h hb hr hl
      refine wpAny_step (h.ready_nonempty hS ?_) fun i hi => ?_
      · cases D with
        | nil => simp at hl
        | cons d D => simp [ids]
      · have hiU := (h.ready_no hS hi).1
        simp only [List.append_nil] at hiU
        obtain ⟨D1, d, D2, rfl, rfl⟩ := mem_split hiU
        refine h.stepD hT hS hi fun ρ' σr' a' w' h' => ih [] σc lg A (D1 ++ D2) _ ρ' σr' a' w' h' hb hr ?_
        simp at hl ⊢; omega
    | cons i l ihl =>
      intro σc lg A D listed ρ σr a w h hb hr hl
      have hiU : i ∈ ids D ++ i :: l := by simp
      have hilt := h.lt i hiU
      have hr0 := hr
      simp only [drawRun] at hr
      replace hr := bind_some hr
      obtain ⟨o, h1, hr⟩ := hr
      replace hr := bind_some hr
      obtain ⟨g, h2, hr⟩ := hr
      have ho : ops[i]? = some o := by simpa using h1
      have hl2 : ∀ x : Dl, (D ++ [x]).length + l.length = fuel + 1 := by intro x; simp at hl ⊢; omega
      cases g with
      | false =>
        simp only [cond_false] at hr
        replace hr := bind_some hr
        obtain ⟨σ', h3, hr⟩ := hr
        obtain ⟨rfl, hbd⟩ := dput_oput h3
        have hinv := h.ahead hS ho (v := undef) (rd := []) (nw := none) (A' := A) (lg' := lg) hbd (fun _ h => h) (fun _ h => .inl h) (by simp) (.inl ⟨rfl, rfl⟩) (by simp)
          ⟨o, ho, false, h2, .inl ⟨rfl, rfl, rfl⟩⟩
        exact ihl _ _ _ _ _ _ _ _ _ hinv (bar_tail hb) hr (hl2 _)
      | true =>
        simp only [cond_true] at hr
        have eff : 3 ≤ cls E o → (dstep E call σc o (guardL (hideL A (newsOf ms i lg)) (readBy ms i lg))).bind (fun x => (dput N σc o.dst x.1).bind fun σ' =>
            drawRun E call N ops ops.toList ms l σ' lg k (backL A (backL A x.2 (readBy ms i lg)) (newsOf ms i lg))) = some r → wpAny P .any ops Q (fuel + 1) listed a w := by
          intro hc hr
          replace hr := bind_some hr
          obtain ⟨⟨v, A2⟩, h3, hr⟩ := hr
          replace hr := bind_some hr
          obtain ⟨σ', h4, hr⟩ := hr
          obtain ⟨rfl, hbd⟩ := dput_oput h4
          refine wpAny_step (h.ready_nonempty hS (by simp)) fun j hj => ?_
          have hjU := (h.ready_no hS hj).1
          rcases List.mem_append.1 hjU with hjD | hjl
          · obtain ⟨D1, d, D2, rfl, rfl⟩ := mem_split hjD
            refine h.stepD hT hS hj fun ρ' σr' a' w' h' => ih (i :: l) σc lg A (D1 ++ D2) _ ρ' σr' a' w' h' hb hr0 ?_
            simp at hl ⊢; omega
          · rcases List.mem_cons.1 hjl with rfl | hjl
            · refine h.stepE hT hC hS ho hj h2 h3 hbd fun ρ' σr' a' w' h' => ih l _ lg _ D _ ρ' σr' a' w' h' (bar_tail hb) hr ?_
              simp at hl ⊢; omega
            · exfalso
              obtain ⟨p, hp1, hp2⟩ := bar_head hb ho hc j hjl
              rw [ready_iff] at hj
              exact h.listed_of (hj.2.2 p hp1) (by simp only [List.mem_append]; exact .inr hp2)
        split at hr
        · rename_i hc
          replace hr := bind_some hr
          obtain ⟨v, h3, hr⟩ := hr
          replace hr := bind_some hr
          obtain ⟨σ', h4, hr⟩ := hr
          obtain ⟨rfl, hbd⟩ := dput_oput h4
          have hinv := h.ahead hS ho (v := v) (rd := []) (nw := none) (A' := A) (lg' := lg) hbd (fun _ h => h) (fun _ h => .inl h) (by simp) (.inl ⟨rfl, rfl⟩) (by simp)
            ⟨o, ho, true, h2, .inr (.inl ⟨rfl, h3, rfl⟩)⟩
          exact ihl _ _ _ _ _ _ _ _ _ hinv (bar_tail hb) hr (hl2 _)
        · rename_i hc
          replace hr := bind_some hr
          obtain ⟨⟨v, rd⟩, h3, hr⟩ := hr
          cases hall : rd.all (fun y => (A.get y).isSome && !(newsOf ms i lg).elem y) with
          | false => simp only at hr; rw [hall] at hr; cases hr
          | true =>
            simp only at hr
            rw [hall] at hr
            simp only [cond_true] at hr
            replace hr := bind_some hr
            obtain ⟨σ', h4, hr⟩ := hr
            obtain ⟨rfl, hbd⟩ := dput_oput h4
            simp only [List.all_eq_true, Bool.and_eq_true, Bool.not_eq_true', List.elem_eq_mem] at hall
            have hlt : ∀ x ∈ rd, x < A.next := fun x hx => h.lt_next (Option.isSome_iff_exists.1 (hall x hx).1)
            have hinv := h.ahead hS ho (v := v) (rd := rd) (nw := none) (A' := A) (lg' := ⟨i, rd, none⟩ :: lg) hbd (fun _ h => by simp [h]) (fun e he => by
                rcases List.mem_cons.1 he with rfl | he
                · exact .inr ⟨rfl, rfl, rfl⟩
                · exact .inl he) (fun _ => ⟨_, List.mem_cons_self, rfl, rfl, rfl⟩) (.inl ⟨rfl, rfl⟩) hlt
              ⟨o, ho, true, h2, .inr (.inr (.inl ⟨rfl, rfl, A, h3, fun x hx => ⟨rfl, hlt x hx, fun d' hd' hdx => by
                simp only [List.mem_append, List.mem_singleton] at hd'
                rcases hd' with hd' | rfl
                · obtain ⟨⟨e, he, e1, e2⟩, _⟩ := h.lgn d' hd' x hdx
                  have h5 := (hall x hx).2
                  simp only [decide_eq_false_iff_not] at h5
                  rw [mem_newsOf] at h5
                  cases ht : tb ms i d'.i with
                  | true => rfl
                  | false => exact absurd ⟨e, he, e2, by rw [e1]; exact ht⟩ h5
                · cases hdx⟩⟩))⟩
            exact ihl _ _ _ _ _ _ _ _ _ hinv (bar_tail hb) hr (hl2 _)
        · rename_i hc
          replace hr := bind_some hr
          obtain ⟨⟨ob, f⟩, h3, hr⟩ := hr
          replace hr := bind_some hr
          obtain ⟨σ', h4, hr⟩ := hr
          obtain ⟨rfl, hbd⟩ := dput_oput h4
          have hinv := h.ahead hS ho (v := f A.next) (rd := []) (nw := some A.next) (A' := A.push ob) (lg' := ⟨i, [], some A.next⟩ :: lg) hbd (fun _ h => by simp [h]) (fun e he => by
              rcases List.mem_cons.1 he with rfl | he
              · exact .inr ⟨rfl, rfl, rfl⟩
              · exact .inl he) (fun _ => ⟨_, List.mem_cons_self, rfl, rfl, rfl⟩) (.inr ⟨ob, rfl, rfl⟩) (by simp)
            ⟨o, ho, true, h2, .inr (.inr (.inr ⟨rfl, ob, f, A.next, h3, rfl, rfl, Hp.get_push_same _ _, by have := h.ext.next; simpa using this⟩))⟩
          exact ihl _ _ _ _ _ _ _ _ _ hinv (bar_tail hb) hr (hl2 _)
        · rename_i h01 h11 h21
          refine eff ?_ hr
          have : cls E o ≠ 0 ∧ cls E o ≠ 1 ∧ cls E o ≠ 2 := ⟨h01, h11, h21⟩
          omega

theorem drawRun_region (hT : E.T.ok P) {call : CallT} (hC : CallOK P call) {ord : List Nat} (hS : statOk ops ms ord = true) (hb : bar E ops ord = true) {R : Type} {k : Sl → Hp → Option R} {r : R} {σ : Sl}
    (hs : SR P E ρ.ρ N ds σ a) (hrel : RelX P ρ A w) (hr : drawRun E call N ops ops.toList ms ord σ [] k A = some r)
    (hk : ∀ ρ' σ' A' a' w', SR P E ρ'.ρ N ds σ' a' → RelX P ρ' A' w' → ExtX A ρ w A' ρ' w' → k σ' A' = some r → Q .normal a' w') : wpAny P .any ops Q ops.size (Array.replicate ops.size false) a { w with drawn := w.drawn + 1 } := by
  have hS := statOk_sound hS
  have hlen : ord.length = ops.size := by
    have h1 : ord.Perm (List.range ops.size) := by
      refine (List.perm_ext_iff_of_nodup (hS.pw.imp fun h => h.1) List.nodup_range).2 fun x => ?_
      rw [List.mem_range]
      exact ⟨hS.lt x, hS.all x⟩
    simpa using h1.length_eq
  have hdr : Rel P ρ.ρ A { w with drawn := w.drawn + 1 } ∧ Ext A ρ.ρ w A ρ.ρ { w with drawn := w.drawn + 1 } := by
    refine ⟨⟨fun i o hi => ?_, hrel.rel.apart, hrel.rel.fresh, hrel.rel.glob⟩, ⟨ρ.ρ.le_refl, Nat.le_refl _, fun _ _ _ => rfl, fun _ h => .inl h, Nat.le_refl _, fun _ _ => rfl, fun _ _ h _ => h, rfl, rfl, rfl⟩⟩
    obtain ⟨p, hp, ho⟩ := hrel.rel.obj i o hi
    exact ⟨p, hp, ho.keep ρ.ρ.le_refl rfl⟩
  obtain ⟨hrel', e0⟩ := hrel.frame hdr.1 hdr.2
  refine drawRun_any (A0 := A) (ρ0 := ρ) (w0 := w) hT hC hS hk ops.size ord σ [] A [] _ ρ σ a _ ⟨hrel.con.next, hs, by simpa [hid, hideL] using hrel', by simpa [hid, hideL] using e0, by simp, ?_, ?_, by simpa [ids] using hS.pw, fun _ _ => rfl, by simp, by simp, by simp, by simp, by simp, by simp, by simp, List.Pairwise.nil⟩ hb hr (by simpa using hlen)
  · intro i
    simp only [ids, List.map_nil, List.nil_append]
    rw [Array.getD_eq_getD_getElem?]
    by_cases h : i < ops.size
    · simp [h, hS.all i h]
    · simp [h]
      intro k; exact h (hS.lt i k)
  · intro i j hi hno
    simp only [ids, List.map_nil, List.nil_append] at hno
    exact absurd (hS.all i hi) hno

end
end Go.Dn
end
